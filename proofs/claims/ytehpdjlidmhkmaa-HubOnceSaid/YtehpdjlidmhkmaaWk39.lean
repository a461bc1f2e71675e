/- Chapter 39: duplicate. -/
import Derived.Test.YtehpdjlidmhkmaaMem39
import Derived.OwnWalk
namespace Go.Proofs.Ytehpdjlidmhkmaa
open Go.RowKit
attribute [local go_sem] Oper.semAt_some

/-- What waits in the inbox lies in another block than the row v. -/
def ApartA (v : Value) (a : BxA) : Prop := ∀ p : Addr, a.o = some p → 0 < a.b.ws.length → some p.block ≠ v.ownBlock

theorem Msgs.lt {w : World} {o : Option Addr} {l : List Msg} (h : Msgs w o l) (p : Addr) (ho : o = some p) (hl : 0 < l.length) : p.block < w.heap.size := by
  obtain ⟨b, off, ho', c0, _⟩ := h 0 hl
  rw [ho] at ho'
  injection ho' with ho'
  subst ho'
  exact cell_lt c0
theorem Msgs.grown {w w' : World} {o : Option Addr} {l : List Msg} {row : Option Nat} (h : Msgs w o l) (hg : w.grownBy w' row) (hne : ∀ p : Addr, o = some p → 0 < l.length → some p.block ≠ row) : Msgs w' o l := fun i hi => by
  obtain ⟨b, off, ho, c0, c1, c2⟩ := h i hi
  have hk : w'.heap[b]? = w.heap[b]? := hg.block b (cell_lt c0) (hne _ ho (by omega))
  exact ⟨b, off, ho, (World.cell?_of_block (a := ⟨b, _, none⟩) hk).trans c0, (World.cell?_of_block (a := ⟨b, _, none⟩) hk).trans c1, (World.cell?_of_block (a := ⟨b, _, none⟩) hk).trans c2⟩
theorem Msgs.setCell {w : World} {o : Option Addr} {l : List Msg} (h : Msgs w o l) {q : Addr} {u : Value} (hne : ∀ p : Addr, o = some p → p.block ≠ q.block) : Msgs (w.setCell q u) o l := fun i hi => by
  obtain ⟨b, off, ho, c0, c1, c2⟩ := h i hi
  have hk : (w.setCell q u).heap[b]? = w.heap[b]? := Below.heap_setCell w q u b (hne _ ho)
  exact ⟨b, off, ho, (World.cell?_of_block (a := ⟨b, _, none⟩) hk).trans c0, (World.cell?_of_block (a := ⟨b, _, none⟩) hk).trans c1, (World.cell?_of_block (a := ⟨b, _, none⟩) hk).trans c2⟩
theorem GoodA.grown {w w' : World} {a : BxA} {v : Value} (h : GoodA w a) (ha : ApartA v a) (hg : w.grownBy w' v.ownBlock) : GoodA w' a := ⟨h.ms.grown hg (fun p hp hl => ha p hp hl), h.le, h.cap⟩

/-- What waits in the inbox lies in a block that is not below B. -/
def LowA (B : Nat) (a : BxA) : Prop := ∀ p : Addr, a.o = some p → 0 < a.b.ws.length → B ≤ p.block
theorem LowA.mono {B B' : Nat} {a : BxA} (h : LowA B a) (hb : B' ≤ B) : LowA B' a := fun p hp hl => Nat.le_trans hb (h p hp hl)

/-- append(s, x), one element in a block of its own; where the new row lies. -/
theorem wp_append1R {P : Program} {w2 wr : World} {t e : TypeId} {size bytes : Nat} {v : Value} {n : Nat} {xs news : List Value} {ops : Array Oper} {rest : List Oper} {o : Oper} {a : Act} {Q : Exit → Act → World → Prop} (hI : ElemI P t e size bytes) (hG : Row w2 wr e size v n xs)
    (hn : n + 1 ≤ 1000000000) (hb : bytes ≤ 100000) (hlen : news.length = size) (h1 : ∀ u ∈ news, u.oneCell' = true)
    (hgd : o.guard = none) (s x : Operand) (ho : o.op = .call { callee := .builtin .append, args := #[s, x], argTypes := #[t, t] }) (hs : a.eval s = v) {B : Nat} (hB : B = wr.heap.size) (hx : a.eval x = .slice (some ⟨B, 0, none⟩) 1 1)
    (h : ∀ v' w', Row w2 w' e size v' (n + 1) (xs ++ news) → (wr.alloc (.cells news.toArray e)).grownBy w' v.ownBlock → (v'.ownBlock = v.ownBlock ∨ v'.ownBlock = some (wr.heap.size + 1)) → wpList P ops Q rest (a.put o.dst v') w') : wpList P ops Q (o :: rest) a (wr.alloc (.cells news.toArray e)) := by
  subst hB
  obtain ⟨i, z, hi, hz, h2, h3, h4⟩ := hI.info
  refine wpList_append_own_at (wr.alloc (.cells news.toArray e)) hgd s x t ho w2.heap.size e i z size bytes hI.under hi hz h2 h3 h4 hI.pos v n xs hs (hG.own.alloc _) ⟨wr.heap.size, 0, none⟩ 1 1 news hx (by rw [hlen, Nat.one_mul]) ?_ h1 ?_ ?_ ?_ ?_
  · intro j u hj
    have := (Blk.new wr e news.toArray).cell j
    rw [Addr.add_lit, Nat.zero_add]
    exact this.trans (by simpa using hj)
  · simp only [maxLen]; omega
  · have := Nat.mul_le_mul hn hb
    omega
  · rw [World.size_alloc]
    have := hG.below.size
    omega
  · intro v' w' hown hgrow _ hat
    exact h v' w' ((hG.alloc _).app hown hgrow) hgrow (by rw [World.size_alloc] at hat; exact hat)

def DupOut (l : List Bx) (w : World) (e : Ending) (w' : World) : Prop :=
  ∃ (v : Value) (ls : List BxA), e = .returned v ∧ bxs ls = l ∧ Row w w' 42 3 v l.length (flatB ls) ∧ Good w' ls ∧ (∀ a ∈ ls, ApartA v a) ∧ ∀ a ∈ ls, LowA w.heap.size a

/-- What the loop keeps. -/
structure DupSt (w wr : World) (l : List Bx) (k : Nat) (v : Value) (ls : List BxA) : Prop where
  eq : bxs ls = l.take k
  row : Row w wr 42 3 v k (flatB ls)
  good : Good wr ls
  apart : ∀ a ∈ ls, ApartA v a
  low : ∀ a ∈ ls, LowA w.heap.size a

theorem DupSt.app {w wr W w' : World} {l : List Bx} {k : Nat} {v v' : Value} {ls : List BxA} {a : BxA} (h : DupSt w wr l k v ls) (hk : k < l.length) (ha : a.b = getB l k) (hW : Below wr.heap.size wr W) (hgood : GoodA W a) (hap : ∀ p : Addr, a.o = some p → 0 < a.b.ws.length → wr.heap.size ≤ p.block)
    (hrow : Row w w' 42 3 v' (k + 1) (flatB ls ++ bxC a)) (hg : (W.alloc (.cells (bxC a).toArray 42)).grownBy w' v.ownBlock) (hat : v'.ownBlock = v.ownBlock ∨ v'.ownBlock = some (W.heap.size + 1)) : DupSt w w' l (k + 1) v' (ls ++ [a]) := by
  have hal : Below W.heap.size W (W.alloc (.cells (bxC a).toArray 42)) := below_alloc (Below.refl _ _) _
  have hlt := h.row.own.lt
  have hapA : ApartA v a := fun p hp hl e => by
    have := hap p hp hl
    have := (hlt p.block e.symm).2
    omega
  have hnew : ∀ b, GoodA W b → ApartA v b → ApartA v' b := fun b hb hab p hp hl e => by
    rcases hat with h1 | h1
    · exact hab p hp hl (e.trans h1)
    · rw [h1] at e
      injection e with e
      have := hb.ms.lt p hp hl
      omega
  refine ⟨?_, hrow.cast rfl (by rw [flatB_append, flatB_one]), ?_, ?_, ?_⟩
  · rw [List.take_succ_eq_append_getElem hk, ← h.eq, ← getB_eq hk, ← ha]
    simp [bxs]
  · refine Good.append (fun b hb => ?_) (Good.one ((hgood.later hal).grown hapA hg))
    exact (((h.good b hb).later hW).later hal).grown (h.apart b hb) hg
  · intro b hb
    rcases List.mem_append.1 hb with hb | hb
    · exact hnew b ((h.good b hb).later hW) (h.apart b hb)
    · simp at hb
      subst hb
      exact hnew b hgood hapA
  · intro b hb
    rcases List.mem_append.1 hb with hb | hb
    · exact h.low b hb
    · simp at hb
      subst hb
      exact fun p hp hl => Nat.le_trans h.row.below.size (hap p hp hl)

theorem many_mem {l : List Bx} {k : Nat} (h : k < l.length) : (getB l k).ws.length ≤ many l := by
  have h1 := many_take h
  have h2 : many l = many (l.take (k + 1)) + many (l.drop (k + 1)) := by rw [← many_append, List.take_append_drop]
  omega

set_option maxHeartbeats 8000000 in
theorem duplicate_any (o : Option Addr) (cap : Nat) (l : List Bx) (w : World) (hr : Bxs w o l) (hl : l.length ≤ 64) (hm : many l ≤ 64) : Calls Try.prog 31 #[.slice o l.length cap] w (DupOut l w) := by
  have HR := Lib.hid hr
  have HM := Lib.hid hm
  clear hr hm
  obtain ⟨ei, ez, h1, h2, h3, h4, h5⟩ := elemB.info
  have HEI := Lib.hid (And.intro h1 (And.intro h2 (And.intro h3 (And.intro h4 h5))))
  clear h1 h2 h3 h4 h5
  have HN0 := Lib.hid (show ei.bytes * l.length ≤ 281474976710656 by rw [HEI.out.2.2.2.1]; omega)
  have HN1 := Lib.hid (show l.length ≤ maxLen by simp only [maxLen]; omega)
  go_enter Try.func31, Try.ntmps31
  go_wp2_with (refine wpList_make_own _ rfl _ _ 22 rfl w.heap.size 42 ei ez 3 Try.underlying22 HEI.out.1 HEI.out.2.1 HEI.out.2.2.1 .i64 .i64 _ l.length rfl rfl rfl HN0.out HN1.out (Nat.le_refl _) ?_)
  intro w1 hown hgrow
  have HS0 := Lib.hid (show DupSt w w1 l 0 (.slice (some ⟨w.heap.size, 0, none⟩) 0 l.length) [] from ⟨rfl, ⟨hown, (Below.refl _ _).grown hgrow (Nat.le_refl _) (fun k hk => by cases hk)⟩, Good.nil, (fun a ha => by cases ha), fun a ha => by cases ha⟩)
  clear hown hgrow
  go_wp2
  go_loopw [3, 11] (fun v i wr => ∃ (k : Nat) (ls : List BxA), k ≤ l.length ∧ i = .int .i64 k ∧ DupSt w wr l k v ls) (fun _ i _ => l.length - (intOf i).toNat)
  case atStart => exact ⟨0, [], Nat.zero_le _, rfl, HS0.out⟩
  case round =>
    obtain ⟨k, ls, hk, rfl, hst⟩ := hrel
    have HST := Lib.hid hst
    clear hst HS0
    by_cases hlt : k < l.length
    · obtain ⟨g, off, hgo, oo, cp, hw1, hw2, hms, c0, c1, c2⟩ := (HR.out.later HST.out.row.below) k hlt
      subst hgo
      have hm64 : (getB l k).ws.length ≤ 64 := Nat.le_trans (many_mem hlt) HM.out
      obtain ⟨x, hx⟩ : ∃ x, getB l k = x := ⟨_, rfl⟩
      have HX := Lib.hid hx
      rw [hx] at c0 c1 c2 hw1 hw2 hms hm64
      have HMS := Lib.hid hms
      clear hx hms
      have y1 : (0 : Int) ≤ (k : Int) := by omega
      have y2 : (k : Int) < (l.length : Int) := by omega
      obtain ⟨N, hN⟩ : ∃ N, x.ws.length = N := ⟨_, rfl⟩
      have HN := Lib.hid hN
      rw [hN] at c2 hm64 hw2
      clear hN hw1
      have HWA := Lib.hid (HMS.out.later (below_alloc (Below.refl _ _) (.cells #[.int .i64 x.f, .int .i64 x.x, .slice oo N cp] 42)))
      have HNN := Lib.hid (show 0 + N ≤ 1000000000 by omega)
      have HFL := Lib.hid (show (flatM x.ws).length = N * 3 by rw [flatM_length, HN.out])
      go_wp2_with (at_builtin; refine wp_appendS (news := flatM x.ws) elemM (Row.nil _ _ _) HNN.out (by decide) HFL.out (flatM_one' x.ws) HWA.out.cells rfl _ _ rfl rfl rfl ?_)
      clear c0 c1 c2
      intro v2 w2 hrow2
      have HBX := Lib.hid (show Blk w2 wr.heap.size 42 #[.int .i64 x.f, .int .i64 x.x, .slice oo N cp] from (Blk.new ..).later hrow2.below)
      obtain ⟨o2, cp2, rfl, hcp2⟩ := hrow2.shape
      have HM2 := Lib.hid (hrow2.cast rfl (show _ = flatM x.ws by simp)).msgs
      have HB2 := Lib.hid (below_step (below_alloc (Below.refl wr.heap.size wr) _) hrow2.below)
      have HO2 : Hid (∀ p : Addr, o2 = some p → wr.heap.size < p.block) := Lib.hid fun p hp => by
        have := (hrow2.own.lt p.block (by rw [hp]; rfl)).1
        rw [World.size_alloc] at this
        omega
      clear hrow2
      have d0 : w2.cell? ⟨wr.heap.size, 0, none⟩ = some (.int .i64 x.f) := HBX.out.cell 0
      have d1 : w2.cell? ⟨wr.heap.size, 1, none⟩ = some (.int .i64 x.x) := HBX.out.cell 1
      have d2 : w2.cell? ⟨wr.heap.size, 2, none⟩ = some (.slice oo N cp) := HBX.out.cell 2
      have f2 := HBX.out.frozen 2
      have HB3 := Lib.hid (HB2.out.setCell (p := ⟨wr.heap.size, 2, none⟩) (Nat.le_refl _) (.slice o2 N cp2))
      have HR3 := Lib.hid (HST.out.row.later HB3.out)
      have HN1' := Lib.hid (show k + 1 ≤ 1000000000 by omega)
      have HSZ := Lib.hid (show w2.heap.size = (w2.setCell ⟨wr.heap.size, 2, none⟩ (.slice o2 N cp2)).heap.size by simp)
      have HO1 := Lib.hid (show ∀ u ∈ [Value.int .i64 x.f, .int .i64 x.x, .slice o2 N cp2], u.oneCell' = true from fun u hu => by simp at hu; rcases hu with rfl | rfl | rfl <;> rfl)
      go_wp2_with (at_builtin; refine wp_append1R (news := [.int .i64 x.f, .int .i64 x.x, .slice o2 N cp2]) elemB HR3.out HN1'.out (by decide) rfl HO1.out rfl _ _ rfl rfl HSZ.out rfl ?_)
      clear d0 d1 d2 f2
      intro v3 w3 hrow3 hgr hat
      have HNS := Lib.hid (show DupSt w w3 l (k + 1) v3 (ls ++ [⟨x, o2, cp2⟩]) from by
        have hbc : bxC ⟨x, o2, cp2⟩ = [Value.int .i64 x.f, .int .i64 x.x, .slice o2 N cp2] := by simp [bxC, HN.out]
        refine HST.out.app hlt HX.out.symm HB3.out ⟨?_, ?_, ?_⟩ ?_ (by rw [hbc]; exact hrow3) (by rw [hbc]; exact hgr) (by rw [← HSZ.out]; exact hat)
        · exact HM2.out.setCell (fun p hp => by have := HO2.out p hp; simp only; omega)
        · simp only [HN.out]; omega
        · simp only [HN.out]; exact hcp2
        · intro p hp _
          have := HO2.out p hp
          omega)
      clear hrow3 hgr hat
      go_wp2
      go_roundw
      case rel => exact ⟨k + 1, _, by omega, by go_num, HNS.out⟩
      case measure => simp [intOf]; omega
    · obtain rfl : k = l.length := by omega
      go_wp2
      go_ret
      exact ⟨_, ls, rfl, by rw [HST.out.eq, List.take_of_length_le (Nat.le_refl _)], HST.out.row, HST.out.good, HST.out.apart, HST.out.low⟩
end Go.Proofs.Ytehpdjlidmhkmaa
