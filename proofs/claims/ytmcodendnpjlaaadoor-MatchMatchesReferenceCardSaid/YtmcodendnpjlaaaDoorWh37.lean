/- Chapter 37: the closure of Match. -/
import Derived.Test.YtmcodendnpjlaaaDoorWg37
import Derived.Test.YtmcodendnpjlaaaDoorAppS
import Derived.Test.YtmcodendnpjlaaaDoorBit37
import Derived.Test.YtmcodendnpjlaaaDoorHold
import Derived.Deep.Cut
import Derived.Deep.DeepCutAuto
import Derived.BigQuiet
namespace Go.Proofs.YtmcodendnpjlaaaDoor
open Go.RowKit
attribute [local go_sem] Oper.semAt_some

/-- What a call of the closure holds of its own, k + 1 entries before the end: the place, the result, the best so far. -/
structure LSt (w wr : World) (KB AB XB FB MB : Nat) (oe ox : Option Addr) (ce cx : Nat) (E X : List Ps) (N B G e used : Nat) (bo : Option Addr) (bc : Nat) (f : Fd) : Prop where
  lw : LW w wr KB AB XB FB MB oe ox ce cx E X N
  p5 : Blk wr B 52 #[.int .i64 (e : Int), .int .i64 (used : Int)]
  p6 : Blk wr (B + 1) 54 #[.slice none 0 0, .int .i64 0]
  g : Blk wr G 54 #[.slice bo f.pairs.length bc, .int .i64 f.cost]
  tw : Twos wr bo (toI f.pairs)
section
variable {w wr w' : World} {KB AB XB FB MB : Nat} {oe ox : Option Addr} {ce cx : Nat} {E X : List Ps} {N N' B G e used a : Nat} {bo : Option Addr} {bc : Nat} {f : Fd}
theorem LSt.later (h : LSt w wr KB AB XB FB MB oe ox ce cx E X N B G e used bo bc f) (hb : Below wr.heap.size wr w') : LSt w w' KB AB XB FB MB oe ox ce cx E X N B G e used bo bc f :=
  ⟨h.lw.later hb, h.p5.later hb, h.p6.later hb, h.g.later hb, h.tw.later hb⟩
theorem Known.blk (hk : Known E X wr MB N) (ha : Agr wr w' [MB]) {g : Nat} {t : TypeId} {c : Value} {cs : List Value} (hb : Blk wr g t (c :: cs).toArray) : Blk w' g t (c :: cs).toArray :=
  ha.blk hb (by simpa using hk.notCells (hb.cell 0))
theorem LSt.call (h : LSt w wr KB AB XB FB MB oe ox ce cx E X N B G e used bo bc f) (hk : Known E X w' MB N') (ha : Agr wr w' [MB]) : LSt w w' KB AB XB FB MB oe ox ce cx E X N' B G e used bo bc f :=
  ⟨h.lw.call hk ha, h.lw.kn.blk ha h.p5, h.lw.kn.blk ha h.p6, h.lw.kn.blk ha h.g, h.tw.agr h.lw.kn ha⟩
theorem LSt.drewN (h : LSt w wr KB AB XB FB MB oe ox ce cx E X N B G e used bo bc f) (n : Nat) : LSt w (wr.drewN n) KB AB XB FB MB oe ox ce cx E X N B G e used bo bc f := h.later (below_drewN (Below.refl _ _) n)
theorem LSt.more (h : LSt w wr KB AB XB FB MB oe ox ce cx E X (N + a) B G e used bo bc f) {b : Nat} (hab : a ≤ b) : LSt w wr KB AB XB FB MB oe ox ce cx E X (N + b) B G e used bo bc f := ⟨⟨h.lw.env, h.lw.kn0, h.lw.kn.mono (by omega), h.lw.agr⟩, h.p5, h.p6, h.g, h.tw⟩
theorem elemP : ElemI Tryd.prog 23 48 2 16 := ElemI.of Tryd.underlying23 (by kernel_rfl) (by decide)
theorem wpF_end {P : Program} {ops : Array Oper} {J : World → Prop} {Q : Exit → Act → World → Prop} {rest : List Nat} {V : Act} {w : World} (h : Q .normal V w) : wpF P ops J Q 0 rest V w := h
theorem stepF_call {P : Program} {o : Oper} {V : Act} {K : Act → World → Prop} {f : FuncId} {args : Array Value} {w w' : World} (hr : (execOp V.eval o).run P w = .ok (.enter f args) w') (h : Calls P f args w' (fun e w'' => ∃ v, e = .returned v ∧ K (V.put o.dst v) w'')) : StepC P o V K ((execOp V.eval o).run P w) := by
  rw [hr]
  exact h
theorem stepF_val {P : Program} {o : Oper} {V : Act} {K : Act → World → Prop} {v : Value} {w w' : World} (hr : (execOp V.eval o).run P w = .ok (.value v) w') (h : K (V.put o.dst v) w') : StepC P o V K ((execOp V.eval o).run P w) := by
  rw [hr]
  exact h
theorem stepF_skip {P : Program} {o : Oper} {V : Act} {K : Act → World → Prop} {w w' : World} (hr : (execOp V.eval o).run P w = .ok .skip w') (h : K (V.put o.dst undef) w') : StepC P o V K ((execOp V.eval o).run P w) := by
  rw [hr]
  exact h
end

section
variable {KB AB XB FB MB : Nat} {oe ox : Option Addr} {ce cx : Nat} {E X : List Ps}
/-- The closure's contract, k entries before the end. -/
def LCon (KB AB XB FB MB : Nat) (oe ox : Option Addr) (ce cx : Nat) (E X : List Ps) (k : Nat) : Prop :=
  ∀ (used N : Nat) (w : World), used < 256 → N + Tn k ≤ 1000000000 → Env w KB AB XB FB MB oe ox ce cx E X → Known E X w MB N →
    Calls Tryd.prog 26 #[pv ((E.length - k : Nat) : Int) (used : Int), .pointer (some ⟨KB, 0, none⟩), .pointer (some ⟨AB, 0, none⟩), .pointer (some ⟨XB, 0, none⟩), .pointer (some ⟨FB, 0, none⟩)] w (LOut E X MB N k used w)

set_option maxRecDepth 100000 in
set_option maxHeartbeats 32000000 in
theorem least_step (hE : E.length ≤ 8) (hX : X.length ≤ 8) (k : Nat) (hk : k ≤ E.length) (hrec : ∀ k', k = k' + 1 → LCon KB AB XB FB MB oe ox ce cx E X k') : LCon KB AB XB FB MB oe ox ce cx E X k := by
  intro used N w hu hN henv hkn
  have HREC := Lib.hid hrec
  have HW0 := Lib.hid (LW.new henv hkn)
  clear hrec henv hkn
  obtain ⟨e, he⟩ : ∃ e : Nat, E.length - k = e := ⟨_, rfl⟩
  rw [he]
  have HE := Lib.hid he
  go_enter Tryd.func26, Tryd.ntmps26
  go_upto_region 1 with (fail)
  obtain ⟨W2, hW2⟩ : ∃ W2, W2 = (w.alloc (.cells #[.int .i64 (e : Int), .int .i64 (used : Int)] 52)).alloc (.cells #[.slice none 0 0, .int .i64 0] 54) := ⟨_, rfl⟩
  have HB2 := Lib.hid (show Below w.heap.size w W2 by rw [hW2]; exact below_alloc (below_alloc (Below.refl _ _) _) _)
  have HP5 := Lib.hid (show Blk W2 w.heap.size 52 #[.int .i64 (e : Int), .int .i64 (used : Int)] by rw [hW2]; exact (Blk.new w _ _).alloc _)
  have HP6 := Lib.hid (show Blk W2 (w.heap.size + 1) 54 #[.slice none 0 0, .int .i64 0] by rw [hW2, ← World.size_alloc w (.cells #[.int .i64 (e : Int), .int .i64 (used : Int)] 52)]; exact Blk.new _ _ _)
  rw [← hW2]
  clear hW2
  have HW2 := Lib.hid (HW0.out.later HB2.out)
  obtain ⟨B, hB⟩ : ∃ B, w.heap.size = B := ⟨_, rfl⟩
  rw [hB] at HP5 HP6 ⊢
  have HB := Lib.hid hB
  clear hB HB2
  have HL := Lib.hid (HW2.out.kn.look hk hE hu)
  rw [he] at HL
  clear he
  have k1 := HW2.out.here.k
  have p0 := HP5.out.cell 0
  have p1 := HP5.out.cell 1
  rcases HL.out with r1 | ⟨o, cap, r1, ht⟩
  rotate_left
  · clear HL
    have HT := Lib.hid ht
    clear ht
    obtain ⟨F, hF⟩ : ∃ F, LS E X k used = F := ⟨_, rfl⟩
    rw [hF] at HT r1
    obtain ⟨W3, hW3⟩ : ∃ W3, W3 = W2.alloc (.cells #[.slice o F.pairs.length cap, .int .i64 F.cost] 54) := ⟨_, rfl⟩
    have HB3 := Lib.hid (show Below W2.heap.size W2 W3 by rw [hW3]; exact below_alloc (Below.refl _ _) _)
    have HP6b := Lib.hid (HP6.out.later HB3.out)
    have HW3 := Lib.hid (HW2.out.later HB3.out)
    have HS := Lib.hid (HW3.out.set2 (a' := o) (n' := F.pairs.length) (c' := cap) (y' := F.cost) HP6b.out (by rw [HB.out]; omega))
    have q0 := HP6b.out.cell 0
    have q1 := HP6b.out.cell 1
    have f0 := HP6b.out.frozen 0
    have f1 := HP6b.out.frozen 1
    rw [hW3] at q0 q1 f0 f1
    go_wp2
    rw [← hW3]
    try simp only [Exit.inBlock, Exit.then]
    refine bodyPost_ret (results_cell_row rfl _ _ (B + 1) 54 #[.slice o F.pairs.length cap, .int .i64 F.cost] (0, 0) _ rfl HS.out.2.1 Tryd.underlying54 rfl (by kernel_rfl)) rfl ?_
    refine ⟨_, rfl, ⟨o, cap, by rw [hF], by rw [hF]; exact HS.out.2.2.1 (HT.out.later HB3.out)⟩, HS.out.1.kn.mono (by omega), HS.out.1.agr⟩
  have HT := Lib.hid (Tn_le k (by omega))
  go_upto_region 4 with (fail)
  clear r1 p0 p1 k1 HL
  obtain ⟨W3, hW3⟩ : ∃ W3, W3 = W2.alloc (.cells #[.slice none 0 0, .int .i64 0] 54) := ⟨_, rfl⟩
  have HB3 := Lib.hid (show Below W2.heap.size W2 W3 by rw [hW3]; exact below_alloc (Below.refl _ _) _)
  rw [← hW3]
  clear hW3
  replace HP5 := Lib.hid (HP5.out.later HB3.out)
  replace HP6 := Lib.hid (HP6.out.later HB3.out)
  have HW3 := Lib.hid (HW2.out.later HB3.out)
  clear HW2 HB3
  have p0 := HP5.out.cell 0
  have p1 := HP5.out.cell 1
  go_quiet (fail)
  go_upto_region 6 with (fail)
  clear p0 p1
  obtain ⟨W4, hW4⟩ : ∃ W4, W4 = (W3.drewN nq).alloc (.cells #[.slice none 0 0, .int .i64 0] 54) := ⟨_, rfl⟩
  have HB4 := Lib.hid (show Below W3.heap.size W3 W4 by rw [hW4]; exact below_alloc (below_drewN (Below.refl _ _) _) _)
  have HPG := Lib.hid (show Blk W4 W3.heap.size 54 #[.slice none 0 0, .int .i64 0] by rw [hW4]; exact Blk.new (W3.drewN nq) _ _)
  rw [← hW4]
  clear hW4
  have hG1 : B + 1 < W3.heap.size := HP6.out.lt
  obtain ⟨G, hG⟩ : ∃ G, W3.heap.size = G := ⟨_, rfl⟩
  try rw [show (W3.drewN nq).heap.size = W3.heap.size from rfl]
  rw [hG] at HPG hG1 ⊢
  clear hG
  replace HP5 := Lib.hid (HP5.out.later HB4.out)
  replace HP6 := Lib.hid (HP6.out.later HB4.out)
  have HW4 := Lib.hid (HW3.out.later HB4.out)
  clear HW3 HB4
  have ca := HW4.out.here.a
  have hwG : w.heap.size ≤ G := by rw [HB.out]; omega
  have hwB : w.heap.size ≤ B + 1 := by rw [HB.out]; omega
  cases k with
  | zero =>
    obtain rfl : E.length = e := HE.out
    have cxx := HW4.out.here.x
    have HI := Lib.hid (show Blk W4 G 54 #[.slice none 0 0, .int .i64 (5 * (leftE 0 used : Nat) : Int)] from by simpa [leftE] using HPG.out)
    go_wp2
    go_loopw [36] (fun i wr => ∃ t : Nat, t ≤ X.length ∧ i = .int .i64 t ∧ LSt w wr KB AB XB FB MB oe ox ce cx E X N B G E.length used none 0 ⟨[], (5 * (leftE t used : Nat) : Int)⟩) (fun i _ => X.length - (intOf i).toNat)
    case atStart => exact ⟨0, Nat.zero_le _, rfl, HW4.out, HP5.out, HP6.out, HI.out, Twos.nil⟩
    case round =>
      obtain ⟨t, ht, rfl, hst⟩ := hrel
      clear HI HP5 HP6 HW4 HPG ca cxx
      have HS := Lib.hid hst
      clear hst
      by_cases hlt : t < X.length
      · have HLE := Lib.hid (leftE_succ used t)
        have hL8 := leftE_le t used
        obtain ⟨L, hL⟩ : ∃ L, leftE t used = L := ⟨_, rfl⟩
        rw [hL] at HS HLE hL8
        clear hL
        obtain ⟨S, HBT⟩ := bitF (t := t) hu (Nat.lt_of_lt_of_le hlt hX)
        have e1 := HBT.shl
        have y1 : (0 : Int) ≤ (t : Int) := by omega
        have y2 : (t : Int) < (X.length : Int) := by omega
        cases hbit : used.testBit t with
        | true =>
          rw [hbit] at HLE
          have e3 := HBT.tt hbit
          have e4 := HBT.ne
          have y3 := Lib.hid (show t + 1 ≤ X.length from hlt)
          clear HBT
          go_wp2
          go_roundw
          case rel => exact ⟨t + 1, y3.out, by go_num, by rw [HLE.out]; exact HS.out⟩
          case measure => simp [intOf]; omega
        | false =>
          rw [hbit] at HLE
          have e3 := HBT.ff hbit
          have y3 := Lib.hid (show t + 1 ≤ X.length from hlt)
          clear HBT
          have g1 : wr.cell? ⟨G, 1, none⟩ = some (.int .i64 (5 * (L : Int))) := HS.out.g.cell 1
          have f1 := HS.out.g.frozen 1
          have HN := Lib.hid (HS.out.lw.set1 (y' := 5 * (L : Int) + 5) HS.out.g hwG)
          go_wp2
          go_roundw
          case rel => exact ⟨t + 1, by omega, by go_num, HN.out.1, HN.out.2.2.2 (by omega) HS.out.p5, HN.out.2.2.2 (by omega) HS.out.p6, by rw [HLE.out]; simpa [Int.mul_add] using HN.out.2.1, Twos.nil⟩
          case measure => simp [intOf]; omega
      · obtain rfl : t = X.length := by omega
        have HLS := Lib.hid (show LS E X 0 used = ⟨[], 5 * (leftE X.length used : Nat)⟩ from rfl)
        obtain ⟨L, hL⟩ : ∃ L, leftE X.length used = L := ⟨_, rfl⟩
        rw [hL] at HS HLS
        clear hL
        have k1 := HS.out.lw.here.k
        have p0 := HS.out.p5.cell 0
        have p1 := HS.out.p5.cell 1
        have g0 : wr.cell? ⟨G, 0, none⟩ = some (.slice none 0 0) := HS.out.g.cell 0
        have g1 : wr.cell? ⟨G, 1, none⟩ = some (.int .i64 (5 * (L : Int))) := HS.out.g.cell 1
        have HTW := Lib.hid (show Twos wr none (toI (LS E X 0 used).pairs) by rw [HLS.out]; exact Twos.nil)
        have HVAL := Lib.hid (show (.agg #[.slice none 0 0, .int .i64 (5 * (L : Int))] : Value) = fdV none (LS E X 0 used).pairs.length 0 (LS E X 0 used).cost by rw [HLS.out]; rfl)
        have HNN := Lib.hid (show N ≤ 1000000000 from Nat.le_trans (Nat.le_add_right _ _) hN)
        go_wp2_with (with_reducible refine hold_mapUpdate rfl ?_)
        refine unheld ?_
        refine wpList_known (k := 0) (used := used) HVAL.out hk hE hu HS.out.lw.kn HNN.out HTW.out rfl (.tmp 49) (.tmp 50) (.tmp 51) rfl rfl rfl rfl ?_
        intro w5 hkn hag
        have HS5 := Lib.hid (HS.out.call hkn hag)
        clear hkn hag k1 p0 p1 g0 g1 HS HTW
        have g0 : w5.cell? ⟨G, 0, none⟩ = some (.slice none 0 0) := HS5.out.g.cell 0
        have g1 : w5.cell? ⟨G, 1, none⟩ = some (.int .i64 (5 * (L : Int))) := HS5.out.g.cell 1
        have q0 : w5.cell? ⟨B + 1, 0, none⟩ = some (.slice none 0 0) := HS5.out.p6.cell 0
        have q1 : w5.cell? ⟨B + 1, 1, none⟩ = some (.int .i64 0) := HS5.out.p6.cell 1
        have f0 := HS5.out.p6.frozen 0
        have f1 := HS5.out.p6.frozen 1
        have HN := Lib.hid (HS5.out.lw.set2 (a' := none) (n' := 0) (c' := 0) (y' := 5 * (L : Int)) HS5.out.p6 hwB)
        go_wp2
        try simp only [Exit.inBlock, Exit.then]
        refine bodyPost_ret (results_cell_row rfl _ _ (B + 1) 54 #[.slice none 0 0, .int .i64 (5 * (L : Int))] (0, 0) _ rfl HN.out.2.1 Tryd.underlying54 rfl (by kernel_rfl)) rfl ?_
        exact ⟨_, rfl, ⟨none, 0, by rw [HLS.out]; rfl, by rw [HLS.out]; exact Twos.nil⟩, HN.out.1.kn, HN.out.1.agr⟩
  | succ k =>
    have HRK := Lib.hid (HREC.out k rfl)
    have hke : E.length - k = e + 1 := by have := HE.out; omega
    have he0 : e < E.length := by have := HE.out; omega
    have he1 : e + 1 ≤ E.length := he0
    have hb1 : ((e : Int) + 1) ≤ 8 := by omega
    have hb2 : (e : Int) < (E.length : Int) := by omega
    have hne : ((e : Int) == (E.length : Int)) = false := by rw [beq_eq_false_iff_ne]; omega
    have hT1 : Tn (k + 1) = 1 + 9 * Tn k := rfl
    clear HREC
    have HCON := Lib.hid (show ∀ (used N : Nat) (w : World), used < 256 → N + Tn k ≤ 1000000000 → Env w KB AB XB FB MB oe ox ce cx E X → Known E X w MB N → Calls Tryd.prog 26 #[.agg #[.int .i64 ((e : Int) + 1), .int .i64 (used : Int)], .pointer (some ⟨KB, 0, none⟩), .pointer (some ⟨AB, 0, none⟩), .pointer (some ⟨XB, 0, none⟩), .pointer (some ⟨FB, 0, none⟩)] w (LOut E X MB N k used w) from fun u1 n1 w1 h1 h2 h3 h4 => by
      have h5 := HRK.out u1 n1 w1 h1 h2 h3 h4
      rw [hke] at h5
      exact h5)
    clear HRK
    have hf := HW4.out.here.f
    have hHW4 := HW4
    go_wp2_with fail
    refine (HCON.out used N W4 hu (by omega) HW4.out.here HW4.out.kn).mono ?_
    rintro _ w5 ⟨v, rfl, ⟨o5, c5, rfl, ht5⟩, hk5, ha5⟩
    have HS5 := Lib.hid (show LSt w w5 KB AB XB FB MB oe ox ce cx E X (N + Tn k) B G e used none 0 ⟨[], 0⟩ from ⟨HW4.out.call hk5 ha5, HW4.out.kn.blk ha5 HP5.out, HW4.out.kn.blk ha5 HP6.out, HW4.out.kn.blk ha5 HPG.out, Twos.nil⟩)
    have HT5 := Lib.hid ht5
    have HF5 := Lib.hid (LS_ok hE hX (show k ≤ E.length by omega) used)
    have HPT := Lib.hid (show PT E X k used 0 = ⟨(LS E X k used).pairs, (LS E X k used).cost + 5⟩ from rfl)
    obtain ⟨F, hF⟩ : ∃ F, LS E X k used = F := ⟨_, rfl⟩
    rw [hF] at HT5 HF5 HPT ⊢
    clear hk5 ha5 ht5 hf ca HW4 HP5 HP6 HPG hF
    have g0 : w5.cell? ⟨G, 0, none⟩ = some (.slice none 0 0) := HS5.out.g.cell 0
    have g1 : w5.cell? ⟨G, 1, none⟩ = some (.int .i64 0) := HS5.out.g.cell 1
    have f0 := HS5.out.g.frozen 0
    have f1 := HS5.out.g.frozen 1
    have hc1 := HF5.out.lo
    have hc2 := HF5.out.hi
    have HN6 := Lib.hid (HS5.out.lw.set2 (a' := o5) (n' := F.pairs.length) (c' := c5) (y' := F.cost) HS5.out.g hwG)
    obtain ⟨W6, hW6⟩ : ∃ W6, W6 = (w5.setCell ⟨G, 0, none⟩ (.slice o5 F.pairs.length c5)).setCell ⟨G, 1, none⟩ (.int .i64 F.cost) := ⟨_, rfl⟩
    go_upto_region 16 with (fail)
    rw [← hW6] at HN6 ⊢
    have HS6 := Lib.hid (show LSt w W6 KB AB XB FB MB oe ox ce cx E X (N + Tn k) B G e used o5 c5 F from ⟨HN6.out.1, HN6.out.2.2.2 (by omega) HS5.out.p5, HN6.out.2.2.2 (by omega) HS5.out.p6, HN6.out.2.1, HN6.out.2.2.1 HT5.out⟩)
    clear hW6 HN6 HS5 HT5 g0 g1 f0 f1
    have g1 : W6.cell? ⟨G, 1, none⟩ = some (.int .i64 F.cost) := HS6.out.g.cell 1
    have f1 := HS6.out.g.frozen 1
    have HN7 := Lib.hid (HS6.out.lw.set1 (y' := F.cost + 5) HS6.out.g hwG)
    obtain ⟨W7, hW7⟩ : ∃ W7, W7 = W6.setCell ⟨G, 1, none⟩ (.int .i64 (F.cost + 5)) := ⟨_, rfl⟩
    go_upto_region 17 with (fail)
    rw [← hW7] at HN7 ⊢
    have HS7 := Lib.hid (show LSt w W7 KB AB XB FB MB oe ox ce cx E X (N + Tn k) B G e used o5 c5 (PT E X k used 0) from by rw [HPT.out]; exact ⟨HN7.out.1, HN7.out.2.2.2 (by omega) HS6.out.p5, HN7.out.2.2.2 (by omega) HS6.out.p6, HN7.out.2.1, HN7.out.2.2.1 HS6.out.tw⟩)
    clear hW7 HN7 HS6 g1 f1 hc1 hc2 HF5 HPT
    have cxx := HS7.out.lw.here.x
    go_wp2
    go_loopw [65] (fun i wr => ∃ (t : Nat) (bo : Option Addr) (bc : Nat), t ≤ X.length ∧ i = .int .i64 t ∧ LSt w wr KB AB XB FB MB oe ox ce cx E X (N + (t + 1) * Tn k) B G e used bo bc (PT E X k used t)) (fun i _ => X.length - (intOf i).toNat)
    case atStart => exact ⟨0, o5, c5, Nat.zero_le _, rfl, by rw [Nat.zero_add, Nat.one_mul]; exact HS7.out⟩
    case round =>
      obtain ⟨t, bo, bc, ht, rfl, hst⟩ := hrel
      clear HS7 cxx
      have HS := Lib.hid hst
      clear hst
      by_cases hlt : t < X.length
      · have HBR := bitF (t := t) hu (Nat.lt_of_lt_of_le hlt hX)
        obtain ⟨S, HBT⟩ := HBR
        have e1 := HBT.shl
        have y1 : (0 : Int) ≤ (t : Int) := by omega
        have y2 : (t : Int) < (X.length : Int) := by omega
        have HT1 := Lib.hid (show t + 1 ≤ X.length from hlt)
        have hwe : IntKind.i64.wrap ((e : Int) + 1) = (e : Int) + 1 := IntWalk.i64_in _ (by omega)
        have hws := HBT.shl2
        obtain ⟨gx, fx, hgo, x0, x1⟩ := HS.out.lw.here.px t hlt
        subst hgo
        obtain ⟨px, hpx⟩ : ∃ p, X.getD t Ps.zero = p := ⟨_, rfl⟩
        rw [hpx] at x0 x1
        have HPX := Lib.hid hpx
        clear hpx
        go_upto_region 20 with (fail)
        obtain ⟨W8, hW8⟩ : ∃ W8, W8 = wr.alloc (.cells #[.string px.s, .int .i64 px.mn] 35) := ⟨_, rfl⟩
        have HB8 := Lib.hid (show Below wr.heap.size wr W8 by rw [hW8]; exact below_alloc (Below.refl _ _) _)
        have HH := Lib.hid (show Blk W8 wr.heap.size 35 #[.string px.s, .int .i64 px.mn] by rw [hW8]; exact Blk.new wr _ _)
        rw [← hW8]
        clear hW8 x0 x1
        have HS8 := Lib.hid (HS.out.later HB8.out)
        have hGH : G < wr.heap.size := HS.out.g.lt
        obtain ⟨H, hH⟩ : ∃ H, wr.heap.size = H := ⟨_, rfl⟩
        rw [hH] at HH hGH ⊢
        clear hH HS HB8
        cases hbit : used.testBit t with
        | true =>
          have HPS := Lib.hid (PT_skip (X := X) (t := t) HE.out (by rw [hbit]; rfl))
          have e3 := HBT.tt hbit
          have e4 := HBT.ne2
          clear HBT
          go_quiet (fail)
          go_wp2
          go_roundw
          case rel => exact ⟨t + 1, bo, bc, HT1.out, by go_num, by rw [HPS.out]; exact (HS8.out.drewN _).more (Nat.mul_le_mul_right _ (Nat.le_succ _))⟩
          case measure => simp [intOf]; omega
        | false =>
          have e3 := HBT.ff hbit
          obtain ⟨ge, fe, hgo, p0, p1⟩ := HS8.out.lw.here.pe e he0
          subst hgo
          obtain ⟨pe, hpe⟩ : ∃ p, E.getD e Ps.zero = p := ⟨_, rfl⟩
          rw [hpe] at p0 p1
          have HPE := Lib.hid hpe
          clear hpe
          have ca := HS8.out.lw.here.a
          have h1 := HH.out.cell 1
          by_cases hmn : px.mn ≤ pe.mn
          · have hd : decide (px.mn ≤ pe.mn) = true := decide_eq_true hmn
            have HPS := Lib.hid (PT_skip (X := X) (t := t) (used := used) HE.out (by unfold okE; rw [HPE.out, HPX.out, decide_eq_false (by omega)]; simp))
            clear HBT
            go_quiet (fail)
            go_wp2
            go_roundw
            case rel => exact ⟨t + 1, bo, bc, HT1.out, by go_num, by rw [HPS.out]; exact (HS8.out.drewN _).more (Nat.mul_le_mul_right _ (Nat.le_succ _))⟩
            case measure => simp [intOf]; omega
          · have hd : decide (px.mn ≤ pe.mn) = false := decide_eq_false hmn
            have HPP := Lib.hid (PT_pick (X := X) (t := t) HE.out hbit (by unfold okE; rw [HPE.out, HPX.out, decide_eq_true (by omega)]))
            go_quiet (fail)
            go_upto_region 21 with (fail)
            generalize hW9 : W8.drewN _ = W9
            have HB9 := Lib.hid (show Below W8.heap.size W8 W9 by rw [← hW9]; exact below_drewN (Below.refl _ _) _)
            clear hW9
            have HS9 := Lib.hid (HS8.out.later HB9.out)
            have HH9 := Lib.hid (HH.out.later HB9.out)
            obtain ⟨U, hU⟩ : ∃ U, used ||| S = U := ⟨_, rfl⟩
            have e5 := HBT.or
            have hUl := HBT.orl
            have hSe := HBT.eq
            rw [hU] at e5 hUl
            rw [hSe, hU] at HPP
            clear HBT hU hSe HS8 HH HB9 ca h1 p0 p1 e3 hd
            have hTm : (t + 1) * Tn k + Tn k ≤ 9 * Tn k := by
              rw [← Nat.succ_mul]
              exact Nat.mul_le_mul_right _ (by omega)
            have HNN := Lib.hid (show N + (t + 1) * Tn k + Tn k ≤ 1000000000 by omega)
            have HF2 := Lib.hid (LS_ok hE hX (show k ≤ E.length by omega) U)
            have HP8 := Lib.hid (PT_ok hE hX hk used (Nat.le_of_lt hlt))
            obtain ⟨F, hF⟩ : ∃ F, LS E X k U = F := ⟨_, rfl⟩
            rw [hF] at HF2 HPP
            go_cut [15] (fun d wx => ∃ D oD cD, d = .pointer (some ⟨D, 0, none⟩) ∧ LSt w wx KB AB XB FB MB (some ⟨ge, fe, none⟩) (some ⟨gx, fx, none⟩) ce cx E X (N + (t + 1) * Tn k + Tn k) B G e used bo bc (PT E X k used t) ∧ Blk wx D 54 #[.slice oD F.pairs.length cD, .int .i64 F.cost] ∧ Twos wx oD (toI F.pairs) ∧ Blk wx H 35 #[.string px.s, .int .i64 px.mn] ∧ H < D)
            case first =>
              refine wp_region_maskF [8, 9, 10] [true, true, true, true, true, true, true, true, false, false, false] (fun w'' => w''.cell? ⟨FB, 0, none⟩ = some (.func (.func 26) #[] #[.pointer (some ⟨KB, 0, none⟩), .pointer (some ⟨AB, 0, none⟩), .pointer (some ⟨XB, 0, none⟩), .pointer (some ⟨FB, 0, none⟩)])) mixed (by kernel_rfl) ?_
              intro KR hR
              have HR := Lib.hid hR
              clear hR
              simp only [marked]
              apply wpM_val rfl
              · (intro w' hw'; have c0 := hw'; go_simp; with_reducible rfl)
              simp only [Act.put, List.setIfInBounds_toArray, List.set_cons_zero, List.set_cons_succ]
              ((with_reducible refine wpM_move ?_ ?_); exact rfl; simp only [Act.put, List.setIfInBounds_toArray, List.set_cons_zero, List.set_cons_succ])
              apply wpM_val rfl
              · (intro w' hw'; go_simp; with_reducible rfl)
              simp only [Act.put, List.setIfInBounds_toArray, List.set_cons_zero, List.set_cons_succ]
              ((with_reducible refine wpM_move ?_ ?_); exact rfl; simp only [Act.put, List.setIfInBounds_toArray, List.set_cons_zero, List.set_cons_succ])
              ((with_reducible refine wpM_move ?_ ?_); exact rfl; simp only [Act.put, List.setIfInBounds_toArray, List.set_cons_zero, List.set_cons_succ])
              apply wpM_val rfl
              · (intro w' hw'; go_simp; with_reducible rfl)
              simp only [Act.put, List.setIfInBounds_toArray, List.set_cons_zero, List.set_cons_succ]
              apply wpM_val rfl
              · (intro w' hw'; go_simp; with_reducible rfl)
              simp only [Act.put, List.setIfInBounds_toArray, List.set_cons_zero, List.set_cons_succ]
              apply wpM_val rfl
              · (intro w' hw'; go_simp; with_reducible rfl)
              simp only [Act.put, List.setIfInBounds_toArray, List.set_cons_zero, List.set_cons_succ]
              refine wpM_nil (HR.out _ ?_)
              clear HR
              have HSd := Lib.hid (HS9.out.later (Below.refl _ _).drew)
              have HHd := Lib.hid (HH9.out.later (Below.refl _ _).drew)
              generalize W9.drew = W10 at HSd HHd ⊢
              clear HS9 HH9
              refine ⟨HSd.out.lw.here.f, fun c hc hfree => ?_⟩
              simp only [List.mem_cons, List.not_mem_nil, or_false] at hc
              rcases hc with rfl | rfl | rfl
              · refine ⟨_, rfl, rfl, stepF_call (f := 26) (args := #[.agg #[.int .i64 ((e : Int) + 1), .int .i64 (U : Int)], .pointer (some ⟨KB, 0, none⟩), .pointer (some ⟨AB, 0, none⟩), .pointer (some ⟨XB, 0, none⟩), .pointer (some ⟨FB, 0, none⟩)]) (w' := W10) (by go_simp) ?_⟩
                refine (HCON.out U (N + (t + 1) * Tn k) W10 hUl HNN.out HSd.out.lw.here HSd.out.lw.kn).mono ?_
                rintro _ w11 ⟨v, rfl, ⟨oD, cD, rfl, htD⟩, hkD, haD⟩
                refine ⟨_, rfl, ?_⟩
                rw [hF] at htD ⊢
                simp only [Act.put, List.setIfInBounds_toArray]
                have HSc := Lib.hid (HSd.out.call hkD haD)
                have HTc := Lib.hid htD
                have HHc := Lib.hid (HSd.out.lw.kn.blk haD HHd.out)
                clear htD hkD haD HSd HHd
                refine ⟨HSc.out.lw.here.f, fun c hc hfree => ?_⟩
                simp only [List.erase_cons_head, List.mem_cons, List.not_mem_nil, or_false] at hc
                rcases hc with rfl | rfl
                · refine ⟨_, rfl, rfl, stepF_val (v := .pointer (some ⟨w11.heap.size, 0, none⟩)) (w' := w11.alloc (.cells #[.slice none 0 0, .int .i64 0] 54)) (by go_simp) ?_⟩
                  simp only [Act.put]
                  have HDN := Lib.hid (show Blk (w11.alloc (.cells #[.slice none 0 0, .int .i64 0] 54)) w11.heap.size 54 #[.slice none 0 0, .int .i64 0] from Blk.new w11 _ _)
                  have HBa := Lib.hid (show Below w11.heap.size w11 (w11.alloc (.cells #[.slice none 0 0, .int .i64 0] 54)) from below_alloc (Below.refl _ _) _)
                  have HSe := Lib.hid (HSc.out.later HBa.out)
                  have HTe := Lib.hid (HTc.out.later HBa.out)
                  have HHe := Lib.hid (HHc.out.later HBa.out)
                  have hD1 : G < w11.heap.size := HSc.out.g.lt
                  have hD2 : H < w11.heap.size := HHc.out.lt
                  generalize w11.alloc (.cells #[.slice none 0 0, .int .i64 0] 54) = w12 at HDN HBa HSe HTe HHe ⊢
                  generalize w11.heap.size = D at HDN HBa hD1 hD2 ⊢
                  refine ⟨HSe.out.lw.here.f, fun c hc hfree => ?_⟩
                  obtain rfl : c = 10 := by simpa using hc
                  have HN := Lib.hid (HSe.out.lw.set2 (a' := oD) (n' := F.pairs.length) (c' := cD) (y' := F.cost) HDN.out (by omega))
                  have d0 := HDN.out.cell 0
                  have d1 := HDN.out.cell 1
                  have df0 := HDN.out.frozen 0
                  have df1 := HDN.out.frozen 1
                  refine ⟨_, rfl, rfl, stepF_skip (w' := (w12.setCell ⟨D, 0, none⟩ (.slice oD F.pairs.length cD)).setCell ⟨D, 1, none⟩ (.int .i64 F.cost)) (by go_simp) ?_⟩
                  simp only [Act.put]
                  have HGO := Lib.hid (show LSt w ((w12.setCell ⟨D, 0, none⟩ (.slice oD F.pairs.length cD)).setCell ⟨D, 1, none⟩ (.int .i64 F.cost)) KB AB XB FB MB (some ⟨ge, fe, none⟩) (some ⟨gx, fx, none⟩) ce cx E X (N + (t + 1) * Tn k + Tn k) B G e used bo bc (PT E X k used t) from ⟨HN.out.1, HN.out.2.2.2 (by omega) HSe.out.p5, HN.out.2.2.2 (by omega) HSe.out.p6, HN.out.2.2.2 (by omega) HSe.out.g, HN.out.2.2.1 HSe.out.tw⟩)
                  have HG2 := Lib.hid (HN.out.2.2.2 (g2 := H) (by omega) HHe.out)
                  clear d0 d1 df0 df1
                  refine wpF_end ?_
                  go_wp2_with fail
                  go_meet
                  case rel => exact ⟨D, oD, cD, rfl, HGO.out, HN.out.2.1, HN.out.2.2.1 HTe.out, HG2.out, hD2⟩
                · exact Bool.noConfusion (hfree.symm.trans (by kernel_rfl) : true = false)
              · refine ⟨_, rfl, rfl, stepF_val (v := .pointer (some ⟨W10.heap.size, 0, none⟩)) (w' := W10.alloc (.cells #[.slice none 0 0, .int .i64 0] 54)) (by go_simp) ?_⟩
                simp only [Act.put, List.setIfInBounds_toArray]
                have HDN0 := Lib.hid (show Blk (W10.alloc (.cells #[.slice none 0 0, .int .i64 0] 54)) W10.heap.size 54 #[.slice none 0 0, .int .i64 0] from Blk.new W10 _ _)
                have HBa := Lib.hid (show Below W10.heap.size W10 (W10.alloc (.cells #[.slice none 0 0, .int .i64 0] 54)) from below_alloc (Below.refl _ _) _)
                have HSb := Lib.hid (HSd.out.later HBa.out)
                have HHb := Lib.hid (HHd.out.later HBa.out)
                have hD1 : G < W10.heap.size := HSd.out.g.lt
                have hD2 : H < W10.heap.size := HHd.out.lt
                generalize W10.alloc (.cells #[.slice none 0 0, .int .i64 0] 54) = w11 at HDN0 HBa HSb HHb ⊢
                generalize W10.heap.size = D at HDN0 HBa hD1 hD2 ⊢
                clear HSd HHd HBa
                refine ⟨HSb.out.lw.here.f, fun c hc hfree => ?_⟩
                simp only [show ([8, 9, 10] : List Nat).erase 9 = [8, 10] from rfl, List.mem_cons, List.not_mem_nil, or_false] at hc
                rcases hc with rfl | rfl
                · refine ⟨_, rfl, rfl, stepF_call (f := 26) (args := #[.agg #[.int .i64 ((e : Int) + 1), .int .i64 (U : Int)], .pointer (some ⟨KB, 0, none⟩), .pointer (some ⟨AB, 0, none⟩), .pointer (some ⟨XB, 0, none⟩), .pointer (some ⟨FB, 0, none⟩)]) (w' := w11) (by go_simp) ?_⟩
                  refine (HCON.out U (N + (t + 1) * Tn k) w11 hUl HNN.out HSb.out.lw.here HSb.out.lw.kn).mono ?_
                  rintro _ w12 ⟨v, rfl, ⟨oD, cD, rfl, htD⟩, hkD, haD⟩
                  refine ⟨_, rfl, ?_⟩
                  rw [hF] at htD ⊢
                  simp only [Act.put]
                  have HSc := Lib.hid (HSb.out.call hkD haD)
                  have HTc := Lib.hid htD
                  have HHc := Lib.hid (HSb.out.lw.kn.blk haD HHb.out)
                  have HDN := Lib.hid (HSb.out.lw.kn.blk haD HDN0.out)
                  clear htD hkD haD HSb HHb HDN0
                  have HSe := HSc
                  have HTe := HTc
                  have HHe := HHc
                  refine ⟨HSe.out.lw.here.f, fun c hc hfree => ?_⟩
                  obtain rfl : c = 10 := by simpa using hc
                  have HN := Lib.hid (HSe.out.lw.set2 (a' := oD) (n' := F.pairs.length) (c' := cD) (y' := F.cost) HDN.out (by omega))
                  have d0 := HDN.out.cell 0
                  have d1 := HDN.out.cell 1
                  have df0 := HDN.out.frozen 0
                  have df1 := HDN.out.frozen 1
                  refine ⟨_, rfl, rfl, stepF_skip (w' := (w12.setCell ⟨D, 0, none⟩ (.slice oD F.pairs.length cD)).setCell ⟨D, 1, none⟩ (.int .i64 F.cost)) (by go_simp) ?_⟩
                  simp only [Act.put]
                  have HGO := Lib.hid (show LSt w ((w12.setCell ⟨D, 0, none⟩ (.slice oD F.pairs.length cD)).setCell ⟨D, 1, none⟩ (.int .i64 F.cost)) KB AB XB FB MB (some ⟨ge, fe, none⟩) (some ⟨gx, fx, none⟩) ce cx E X (N + (t + 1) * Tn k + Tn k) B G e used bo bc (PT E X k used t) from ⟨HN.out.1, HN.out.2.2.2 (by omega) HSe.out.p5, HN.out.2.2.2 (by omega) HSe.out.p6, HN.out.2.2.2 (by omega) HSe.out.g, HN.out.2.2.1 HSe.out.tw⟩)
                  have HG2 := Lib.hid (HN.out.2.2.2 (g2 := H) (by omega) HHe.out)
                  clear d0 d1 df0 df1
                  refine wpF_end ?_
                  go_wp2_with fail
                  go_meet
                  case rel => exact ⟨D, oD, cD, rfl, HGO.out, HN.out.2.1, HN.out.2.2.1 HTe.out, HG2.out, hD2⟩
                · exact Bool.noConfusion (hfree.symm.trans (by kernel_rfl) : true = false)
              · exact Bool.noConfusion (hfree.symm.trans (by kernel_rfl) : true = false)
            case rest =>
              obtain ⟨D, oD, cD, rfl, hs1, hd1, ht1, hh1, hD⟩ := hcut
              have HS1 := Lib.hid hs1
              have HD1 := Lib.hid hd1
              have HT1' := Lib.hid ht1
              have HH1 := Lib.hid hh1
              clear hs1 hd1 ht1 hh1 hD HS9 HH9 hwe hws e5 hUl HNN hTm e1
              have HNE := Lib.hid (show N + (t + 1) * Tn k + Tn k = N + (t + 1 + 1) * Tn k by rw [Nat.add_assoc, ← Nat.succ_mul])
              have hf8 := HF2.out.len
              have hlo := HF2.out.lo
              have hhi := HF2.out.hi
              have HP8l := HP8.out.len
              obtain ⟨dd, hdd⟩ : ∃ d, dP pe px = d := ⟨_, rfl⟩
              have hd1 : 0 ≤ dd := hdd ▸ dP_pos pe px
              have hd2 : dd ≤ 20 := hdd ▸ dP_le pe px
              have hdE : dE E X e t = dd := by unfold dE; rw [HPE.out, HPX.out, hdd]
              rw [hdE] at HPP
              have HDD := Lib.hid hdd
              clear hdE hdd
              have hwd : IntKind.i64.wrap (F.cost + dd) = F.cost + dd := IntWalk.i64_in _ (by omega)
              have HR0 := Lib.hid (show Row wc (wc.alloc (.cells #[.int .i64 (e : Int), .int .i64 (t : Int)] 48)) 48 2 (.slice (some ⟨wc.heap.size, 0, none⟩) 1 1) 1 [.int .i64 (e : Int), .int .i64 (t : Int)] from Row.lit (Below.refl _ _) #[.int .i64 (e : Int), .int .i64 (t : Int)] 1 (by decide) rfl)
              have HLEN := Lib.hid (show (flatT (toI F.pairs)).length = F.pairs.length * 2 by rw [flatT_len, toI_length])
              have HCL := Lib.hid (HT1'.out.cells.later (below_alloc (Below.refl wc.heap.size _) (.cells #[.int .i64 (e : Int), .int .i64 (t : Int)] 48)))
              have d0 : (wc.alloc (.cells #[.int .i64 (e : Int), .int .i64 (t : Int)] 48)).cell? ⟨D, 0, none⟩ = some (.slice oD F.pairs.length cD) := cell_kept (below_alloc (Below.refl wc.heap.size _) _) (HD1.out.cell 0)
              go_wp2_with (with_reducible refine hold_append rfl ?_)
              refine unheld ?_
              refine wp_appendS elemP HR0.out (by omega) (by decide) HLEN.out (flatT_one _) HCL.out rfl (.tmp 97) (.tmp 99) rfl rfl (c := cD) (by rfl) ?_
              intro v' w6 hrow
              obtain ⟨oP, cP, rfl, _⟩ := hrow.shape
              have HB6 := Lib.hid hrow.below
              have HTP := Lib.hid (show Twos w6 oP (toI ((e, t) :: F.pairs)) from Row.twos (l := toI ((e, t) :: F.pairs)) (hrow.cast rfl rfl) rfl)
              clear hrow d0 HCL HR0 HLEN
              have HS6 := Lib.hid (HS1.out.later HB6.out)
              have HD6 := Lib.hid (HD1.out.later HB6.out)
              have HH6 := Lib.hid (HH1.out.later HB6.out)
              clear HS1 HD1 HT1' HH1 HB6
              rw [Nat.add_comm 1 F.pairs.length]
              obtain ⟨ge2, fe2, hgo2, p0, p1⟩ := HS6.out.lw.here.pe e he0
              injection hgo2 with hgo2
              injection hgo2 with hgo2 hgo3
              subst hgo2
              subst hgo3
              rw [HPE.out] at p0 p1
              have HP0 := Lib.hid p0
              have HP1 := Lib.hid p1
              have HCA := Lib.hid HS6.out.lw.here.a
              have HX0 := Lib.hid (HH6.out.cell 0)
              have HX1 := Lib.hid (HH6.out.cell 1)
              have HDC := Lib.hid (show w6.cell? ⟨D, 1, none⟩ = some (.int .i64 F.cost) from HD6.out.cell 1)
              have HTB := Lib.hid HS6.out.lw.here.tab
              clear p0 p1
              go_upto_region 23 with (fail)
              refine wp_region_one 12 11 17 (fun w'' => Below w6.heap.size w6 w'') (.cells #[.slice none 0 0, .int .i64 0] 54) (fun g => .pointer (some ⟨g, 0, none⟩)) w6.heap.size mixed (by kernel_rfl) (by kernel_rfl) (below_closed w6) (below_base w6) (Below.refl _ _).drew ?_
              simp only [List.take_succ_cons, List.take_zero, List.drop_succ_cons, List.drop_zero, List.eraseIdx_cons_succ, List.eraseIdx_cons_zero]
              intro KR hR
              have HR := Lib.hid hR
              clear hR
              have HCC := Lib.hid (show ∀ w'', Below w6.heap.size w6 w'' → w''.cell? ⟨D, 1, none⟩ = some (.int .i64 F.cost) ∧ w''.cell? ⟨AB, 0, none⟩ = some (.slice (some ⟨ge, fe, none⟩) E.length ce) ∧ w''.cell? ⟨ge, fe + e * 2, none⟩ = some (.string pe.s) ∧ w''.cell? ⟨ge, fe + e * 2 + 1, none⟩ = some (.int .i64 pe.mn) ∧ w''.cell? ⟨H, 0, none⟩ = some (.string px.s) ∧ w''.cell? ⟨H, 1, none⟩ = some (.int .i64 px.mn) from fun w'' hw => ⟨cell_kept hw HDC.out, cell_kept hw HCA.out, cell_kept hw HP0.out, cell_kept hw HP1.out, cell_kept hw HX0.out, cell_kept hw HX1.out⟩)
              ((with_reducible refine wpB_move ?_ ?_); exact rfl; simp only [Act.put, List.setIfInBounds_toArray, List.set_cons_zero, List.set_cons_succ])
              apply wpB_val rfl
              · (intro w' hw'; go_simp; with_reducible rfl)
              simp only [Act.put, List.setIfInBounds_toArray, List.set_cons_zero, List.set_cons_succ]
              apply wpB_val rfl
              · (intro w' hw'; obtain ⟨c0, c1, c2, c3, c4, c5⟩ := HCC.out w' hw'; go_simp; with_reducible rfl)
              simp only [Act.put, List.setIfInBounds_toArray, List.set_cons_zero, List.set_cons_succ]
              apply wpB_val rfl
              · (intro w' hw'; obtain ⟨c0, c1, c2, c3, c4, c5⟩ := HCC.out w' hw'; go_simp; with_reducible rfl)
              simp only [Act.put, List.setIfInBounds_toArray, List.set_cons_zero, List.set_cons_succ]
              ((with_reducible refine wpB_move ?_ ?_); exact rfl; simp only [Act.put, List.setIfInBounds_toArray, List.set_cons_zero, List.set_cons_succ])
              apply wpB_val rfl
              · (intro w' hw'; go_simp; with_reducible rfl)
              simp only [Act.put, List.setIfInBounds_toArray, List.set_cons_zero, List.set_cons_succ]
              apply wpB_val rfl
              · (intro w' hw'; obtain ⟨c0, c1, c2, c3, c4, c5⟩ := HCC.out w' hw'; go_simp; with_reducible rfl)
              simp only [Act.put, List.setIfInBounds_toArray, List.set_cons_zero, List.set_cons_succ]
              apply wpB_val rfl
              · (intro w' hw'; obtain ⟨c0, c1, c2, c3, c4, c5⟩ := HCC.out w' hw'; go_simp; with_reducible rfl)
              simp only [Act.put, List.setIfInBounds_toArray, List.set_cons_zero, List.set_cons_succ]
              apply wpB_call 27 #[psV pe, psV px] rfl (v := .int .i64 dd)
              · (intro w'; go_simp)
              · exact fun w' hw' => (HDD.out ▸ distance_any pe px w' (HTB.out.below hw'))
              simp only [Act.put, List.setIfInBounds_toArray, List.set_cons_zero, List.set_cons_succ]
              apply wpB_val rfl
              · (intro w' hw'; go_simp; with_reducible rfl)
              simp only [Act.put, List.setIfInBounds_toArray, List.set_cons_zero, List.set_cons_succ]
              apply wpB_val rfl
              · (intro w' hw'; go_simp; with_reducible rfl)
              simp only [Act.put, List.setIfInBounds_toArray, List.set_cons_zero, List.set_cons_succ]
              refine wpB_nil (HR.out _ ?_ (fun g5 w2 hg5 hw2 hbk => ?_))
              · intro o ho w' hw'
                cases ho
                go_simp
              simp only [Act.put, List.setIfInBounds_toArray, List.set_cons_zero, List.set_cons_succ]
              clear HR HCC
              clear HP0 HP1 HCA HX0 HX1 HDC HTB HDD
              have HSa := Lib.hid (HS6.out.later hw2)
              have HTa := Lib.hid (HTP.out.later hw2)
              have HDa := Lib.hid (show Blk w2 g5 54 #[.slice none 0 0, .int .i64 0] from hbk)
              have hGg : G < g5 := Nat.lt_of_lt_of_le HS6.out.g.lt hg5
              clear HS6 HD6 HH6 HTP hw2 hg5 hbk HPX HPE hmn
              have q0 := HDa.out.cell 0
              have q1 := HDa.out.cell 1
              have qf0 := HDa.out.frozen 0
              have qf1 := HDa.out.frozen 1
              have HN7 := Lib.hid (HSa.out.lw.set2 (a' := oP) (n' := F.pairs.length + 1) (c' := cP) (y' := F.cost + dd) HDa.out (by omega))
              obtain ⟨W7, hW7⟩ : ∃ W7, W7 = (w2.setCell ⟨g5, 0, none⟩ (.slice oP (F.pairs.length + 1) cP)).setCell ⟨g5, 1, none⟩ (.int .i64 (F.cost + dd)) := ⟨_, rfl⟩
              go_upto_region 24 with (fail)
              rw [← hW7] at HN7 ⊢
              have HS7 := Lib.hid (show LSt w W7 KB AB XB FB MB (some ⟨ge, fe, none⟩) (some ⟨gx, fx, none⟩) ce cx E X (N + (t + 1) * Tn k + Tn k) B G e used bo bc (PT E X k used t) from ⟨HN7.out.1, HN7.out.2.2.2 (by omega) HSa.out.p5, HN7.out.2.2.2 (by omega) HSa.out.p6, HN7.out.2.2.2 (by omega) HSa.out.g, HN7.out.2.2.1 HSa.out.tw⟩)
              have HT7 := Lib.hid (HN7.out.2.2.1 HTa.out)
              have HD7 := Lib.hid HN7.out.2.1
              clear hW7 HN7 HSa HTa HDa q0 q1 qf0 qf1
              obtain ⟨Pf, hPf⟩ : ∃ P, PT E X k used t = P := ⟨_, rfl⟩
              rw [hPf] at HS7 HPP HP8l
              clear hPf HP8
              have HLC := Lib.hid (less_any oP bo cP bc (toI ((e, t) :: F.pairs)) (toI Pf.pairs) (F.cost + dd) Pf.cost W7 HT7.out HS7.out.tw (by rw [toI_length]; simp only [List.length_cons]; omega))
              rw [toI_length, toI_length, lessI_less, List.length_cons] at HLC
              have g0 : W7.cell? ⟨G, 0, none⟩ = some (.slice bo Pf.pairs.length bc) := HS7.out.g.cell 0
              have g1 : W7.cell? ⟨G, 1, none⟩ = some (.int .i64 Pf.cost) := HS7.out.g.cell 1
              have q0 : W7.cell? ⟨g5, 0, none⟩ = some (.slice oP (F.pairs.length + 1) cP) := HD7.out.cell 0
              have q1 : W7.cell? ⟨g5, 1, none⟩ = some (.int .i64 (F.cost + dd)) := HD7.out.cell 1
              go_wp2_with fail
              refine HLC.out.mono ?_
              rintro _ W8b ⟨rfl, hb8⟩
              have HS8b := Lib.hid (HS7.out.later hb8)
              have HT8b := Lib.hid (HT7.out.later hb8)
              have HD8b := Lib.hid (HD7.out.later hb8)
              clear HLC g0 g1 q0 q1 hb8 HS7 HT7 HD7
              have HPP2 := HPP.out
              obtain ⟨b, hb⟩ : ∃ b, Fd.less ⟨(e, t) :: F.pairs, F.cost + dd⟩ Pf = b := ⟨_, rfl⟩
              rw [hb] at HPP2 ⊢
              clear HPP hb
              cases b with
              | true =>
                have HPT := Lib.hid (show PT E X k used (t + 1) = ⟨(e, t) :: F.pairs, F.cost + dd⟩ from HPP2)
                clear HPP2
                have g0 : W8b.cell? ⟨G, 0, none⟩ = some (.slice bo Pf.pairs.length bc) := HS8b.out.g.cell 0
                have g1 : W8b.cell? ⟨G, 1, none⟩ = some (.int .i64 Pf.cost) := HS8b.out.g.cell 1
                have gf0 := HS8b.out.g.frozen 0
                have gf1 := HS8b.out.g.frozen 1
                have q0 : W8b.cell? ⟨g5, 0, none⟩ = some (.slice oP (F.pairs.length + 1) cP) := HD8b.out.cell 0
                have q1 : W8b.cell? ⟨g5, 1, none⟩ = some (.int .i64 (F.cost + dd)) := HD8b.out.cell 1
                have HN9 := Lib.hid (HS8b.out.lw.set2 (a' := oP) (n' := F.pairs.length + 1) (c' := cP) (y' := F.cost + dd) HS8b.out.g hwG)
                go_wp2
                have HGO := Lib.hid (show LSt w ((W8b.setCell ⟨G, 0, none⟩ (.slice oP (F.pairs.length + 1) cP)).setCell ⟨G, 1, none⟩ (.int .i64 (F.cost + dd))) KB AB XB FB MB (some ⟨ge, fe, none⟩) (some ⟨gx, fx, none⟩) ce cx E X (N + (t + 1 + 1) * Tn k) B G e used oP cP (PT E X k used (t + 1)) from by rw [HPT.out, ← HNE.out]; exact ⟨HN9.out.1, HN9.out.2.2.2 (by omega) HS8b.out.p5, HN9.out.2.2.2 (by omega) HS8b.out.p6, HN9.out.2.1, HN9.out.2.2.1 HT8b.out⟩)
                clear g0 g1 gf0 gf1 q0 q1 HN9
                go_roundw
                case rel => exact ⟨t + 1, oP, cP, HT1.out, by go_num, HGO.out⟩
                case measure => simp [intOf]; omega
              | false =>
                have HPT := Lib.hid (show PT E X k used (t + 1) = Pf from HPP2)
                clear HPP2
                have HGO := Lib.hid (show LSt w W8b KB AB XB FB MB (some ⟨ge, fe, none⟩) (some ⟨gx, fx, none⟩) ce cx E X (N + (t + 1 + 1) * Tn k) B G e used bo bc (PT E X k used (t + 1)) from by rw [HPT.out, ← HNE.out]; exact HS8b.out)
                go_wp2
                go_roundw
                case rel => exact ⟨t + 1, bo, bc, HT1.out, by go_num, HGO.out⟩
                case measure => simp [intOf]; omega
      · obtain rfl : t = X.length := by omega
        have HF := Lib.hid (PT_ok hE hX hk used (Nat.le_refl X.length))
        have HLS := Lib.hid (LS_last E X k used)
        obtain ⟨F, hF⟩ : ∃ F, PT E X k used X.length = F := ⟨_, rfl⟩
        rw [hF] at HS HLS HF
        clear hF
        have k1 := HS.out.lw.here.k
        have p0 := HS.out.p5.cell 0
        have p1 := HS.out.p5.cell 1
        have g0 : wr.cell? ⟨G, 0, none⟩ = some (.slice bo F.pairs.length bc) := HS.out.g.cell 0
        have g1 : wr.cell? ⟨G, 1, none⟩ = some (.int .i64 F.cost) := HS.out.g.cell 1
        have HVAL := Lib.hid (show (.agg #[.slice bo F.pairs.length bc, .int .i64 F.cost] : Value) = fdV bo (LS E X (k + 1) used).pairs.length bc (LS E X (k + 1) used).cost by rw [HLS.out])
        have HTW := Lib.hid (show Twos wr bo (toI (LS E X (k + 1) used).pairs) by rw [HLS.out]; exact HS.out.tw)
        have hN2 : N + (X.length + 1) * Tn k ≤ N + 9 * Tn k := Nat.add_le_add_left (Nat.mul_le_mul_right _ (by omega)) _
        have HNN := Lib.hid (show N + (X.length + 1) * Tn k ≤ 1000000000 by omega)
        have HNM := Lib.hid (show N + (X.length + 1) * Tn k + 1 ≤ N + Tn (k + 1) by omega)
        have HXE := Lib.hid (show (.agg #[.int .i64 (e : Int), .int .i64 (used : Int)] : Value) = .agg #[.int .i64 ((E.length - (k + 1) : Nat) : Int), .int .i64 (used : Int)] by rw [HE.out])
        go_wp2_with (with_reducible refine hold_mapUpdate rfl ?_)
        refine unheld ?_
        refine wpList_known (k := k + 1) (used := used) HVAL.out hk hE hu HS.out.lw.kn HNN.out HTW.out rfl (.tmp 117) (.tmp 118) (.tmp 119) rfl rfl HXE.out rfl ?_
        intro w5 hkn hag
        have HS5 := Lib.hid (HS.out.call hkn hag)
        clear hkn hag k1 p0 p1 g0 g1 HS HTW
        have g0 : w5.cell? ⟨G, 0, none⟩ = some (.slice bo F.pairs.length bc) := HS5.out.g.cell 0
        have g1 : w5.cell? ⟨G, 1, none⟩ = some (.int .i64 F.cost) := HS5.out.g.cell 1
        have q0 : w5.cell? ⟨B + 1, 0, none⟩ = some (.slice none 0 0) := HS5.out.p6.cell 0
        have q1 : w5.cell? ⟨B + 1, 1, none⟩ = some (.int .i64 0) := HS5.out.p6.cell 1
        have f0 := HS5.out.p6.frozen 0
        have f1 := HS5.out.p6.frozen 1
        have HN := Lib.hid (HS5.out.lw.set2 (a' := bo) (n' := F.pairs.length) (c' := bc) (y' := F.cost) HS5.out.p6 hwB)
        go_wp2
        try simp only [Exit.inBlock, Exit.then]
        refine bodyPost_ret (results_cell_row rfl _ _ (B + 1) 54 #[.slice bo F.pairs.length bc, .int .i64 F.cost] (0, 0) _ rfl HN.out.2.1 Tryd.underlying54 rfl (by kernel_rfl)) rfl ?_
        exact ⟨_, rfl, ⟨bo, bc, by rw [HLS.out], by rw [HLS.out]; exact HN.out.2.2.1 HS5.out.tw⟩, HN.out.1.kn.mono HNM.out, HN.out.1.agr⟩
end
end Go.Proofs.YtmcodendnpjlaaaDoor
