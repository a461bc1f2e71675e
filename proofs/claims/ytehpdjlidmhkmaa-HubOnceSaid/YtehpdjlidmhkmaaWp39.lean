/- Chapter 39: ready and its iterator. -/
import Derived.Test.YtehpdjlidmhkmaaWo39
import Derived.Test.YtehpdjlidmhkmaaIter
import Derived.WalkMore
namespace Go.Proofs.Ytehpdjlidmhkmaa
open Go.RowKit Go.Shelf
attribute [local go_sem] Oper.semAt_some

set_option maxHeartbeats 1000000 in
theorem ready_any (m : Msg) (o : Option Addr) (n c : Nat) (w : World) : Calls Try.prog 34 #[msgV m, .slice o n c] w fun e w' => e = .returned (.func (.func 40) #[] #[.pointer (some ⟨w.heap.size, 0, none⟩), .pointer (some ⟨w.heap.size + 1, 0, none⟩)]) ∧ w' = (w.alloc (.cells #[.int .i64 m.f, .int .i64 m.n, .int .i64 m.b] 24)).alloc (.cells #[.slice o n c] 27) := by
  go_enter Try.func34, Try.ntmps34
  go_wp2
  go_ret
  exact ⟨rfl, rfl⟩

@[reducible] def encM (x : Msg) : Array Value := #[msgV x]
/-- What a round keeps: what lay below n₀, and the two boxes. -/
def KpR (n₀ q : Nat) (W W' : World) : Prop := Below n₀ W W' ∧ W'.heap[q]? = W.heap[q]? ∧ W'.heap[q + 1]? = W.heap[q + 1]?
theorem KpR.trans {n₀ q : Nat} {A B C : World} (h : KpR n₀ q A B) (k : KpR n₀ q B C) : KpR n₀ q A C := ⟨h.1.trans k.1, k.2.1.trans h.2.1, k.2.2.trans h.2.2⟩
theorem Msgs.low {w w' : World} {o : Option Addr} {l : List Msg} {n₀ : Nat} (h : Msgs w o l) (hlow : ∀ p : Addr, o = some p → 0 < l.length → p.block < n₀) (hb : Below n₀ w w') : Msgs w' o l := fun i hi => by
  obtain ⟨b, off, ho, c0, c1, c2⟩ := h i hi
  have hlt : b < n₀ := hlow _ ho (by omega)
  exact ⟨b, off, ho, (hb.cell (p := ⟨b, _, none⟩) hlt).trans c0, (hb.cell (p := ⟨b, _, none⟩) hlt).trans c1, (hb.cell (p := ⟨b, _, none⟩) hlt).trans c2⟩
theorem grownNone {W W' : World} (h : Below W.heap.size W W') : W.grownBy W' none := ⟨h.os, h.tape, h.output, h.size, fun k hk _ => h.block k hk⟩

/-- The first k that wait follow without a gap. -/
def runUp (n : Int) (ws : List Msg) (k : Nat) : Prop := ∀ j, j < k → (getM ws j).n = n + 1 + j
theorem runUp_stop {n : Int} : ∀ {ws : List Msg} {k : Nat}, k ≤ ws.length → runUp n ws k → (k < ws.length → ¬ (getM ws k).n = n + 1 + k) → runOf (n + 1) ws = ws.take k
  | [], k, h, _, _ => by simp [runOf]
  | w :: ws, 0, _, _, h => by
    have := h (by simp)
    have e : (getM (w :: ws) 0).n = w.n := rfl
    rw [e] at this
    rw [runOf, if_neg (by omega)]
    rfl
  | w :: ws, k + 1, hk, hr, h => by
    have h0 := hr 0 (by omega)
    have e : (getM (w :: ws) 0).n = w.n := rfl
    rw [e] at h0
    have ih := runUp_stop (n := n + 1) (ws := ws) (k := k) (by simpa using hk) (fun j hj => by
      have := hr (j + 1) (by omega)
      have e : getM (w :: ws) (j + 1) = getM ws j := rfl
      rw [e] at this
      rw [this]
      omega) (fun hlt => by
      have := h (by simpa using hlt)
      have e : getM (w :: ws) (k + 1) = getM ws k := rfl
      rw [e] at this
      omega)
    rw [runOf, if_pos (by omega), List.take_succ_cons, ih]

/-- The state at the head of a round of the iterator. -/
structure RdSt (W0 wr : World) (q : Nat) (m : Msg) (o : Option Addr) (cap : Nat) (ws : List Msg) (k : Nat) (J : List Msg → World → Prop) : Prop where
  run : runUp m.n ws k
  j : J (m :: ws.take k) wr
  bm : Blk wr q 24 #[.int .i64 m.f, .int .i64 m.n, .int .i64 m.b]
  bw : Blk wr (q + 1) 27 #[.slice o ws.length cap]
  ms : Msgs wr o ws
  size : W0.heap.size ≤ wr.heap.size
theorem RdSt.later {W0 wr w' : World} {q : Nat} {m : Msg} {o : Option Addr} {cap : Nat} {ws : List Msg} {k : Nat} {J : List Msg → World → Prop} (h : RdSt W0 wr q m o cap ws k J) (hJ : AbidesFrom W0.heap.size J) (hb : Below wr.heap.size wr w') : RdSt W0 w' q m o cap ws k J :=
  ⟨h.run, hJ _ _ _ none h.j (grownNone hb) (fun r e => by cases e), h.bm.later hb, h.bw.later hb, h.ms.later hb, Nat.le_trans h.size hb.size⟩

set_option maxRecDepth 100000 in
set_option maxHeartbeats 8000000 in
theorem ready1_in (n lp q n₀ : Nat) (m : Msg) (o : Option Addr) (cap : Nat) (ws : List Msg) (J Jx : List Msg → World → Prop) (hl : ws.length ≤ 1000) (hmn : 1 ≤ m.n ∧ m.n ≤ 1000000) (hlow : ∀ p : Addr, o = some p → 0 < ws.length → p.block < n₀)
    (hY : ∀ pre x W, J pre W → pre.length < ws.length + 1 → YieldAt Fence.wide (n - 1) Try.prog lp (encM x) W fun e W' => (e = .returned (.bool true) ∧ J (pre ++ [x]) W' ∧ KpR n₀ q W W') ∨ (e = .returned (.bool false) ∧ Jx (pre ++ [x]) W'))
    (W : World) (hJ : AbidesFrom W.heap.size J) (hJx : AbidesFrom W.heap.size Jx) (hq : Blk W q 24 #[.int .i64 m.f, .int .i64 m.n, .int .i64 m.b]) (hq2 : Blk W (q + 1) 27 #[.slice o ws.length cap]) (hr : Msgs W o ws) (h0 : J [] W) :
    CallsIn Fence.wide n Try.prog 40 #[.func (.yield lp) #[] #[], .pointer (some ⟨q, 0, none⟩), .pointer (some ⟨q + 1, 0, none⟩)] W fun e W' => (∃ v, e = .returned v) ∧ ((∃ xs, xs = m :: runOf (m.n + 1) ws ∧ J xs W') ∨ (∃ pre, True ∧ Jx pre W')) := by
  have HY := Lib.hid hY
  have HJ := Lib.hid hJ
  have HJX := Lib.hid hJx
  have HLOW := Lib.hid hlow
  have HBM := Lib.hid hq
  have HBW := Lib.hid hq2
  have HMS := Lib.hid hr
  have c0 : W.cell? ⟨q, 0, none⟩ = some (.int .i64 m.f) := hq.cell 0
  have c1 : W.cell? ⟨q, 1, none⟩ = some (.int .i64 m.n) := hq.cell 1
  have c2 : W.cell? ⟨q, 2, none⟩ = some (.int .i64 m.b) := hq.cell 2
  obtain ⟨fn, tmps, assign, body, hy, hR⟩ := HY.out [] m W h0 (by simp)
  dsimp only [encM] at hy
  have HRR := Lib.hid hR
  clear hY hJ hJx hq hq2 hr h0 hlow hR
  refine callsIn_of_wp Try.func40 rfl trivial ?_ rfl
  simp only [Try.ntmps40, List.size_toArray, List.length_cons, List.length_nil, Nat.reduceAdd, Nat.reduceSub, Array.replicate_succ, Array.replicate_zero, List.push_toArray, List.append_toArray, List.nil_append, List.cons_append]
  gi_wp2
  refine ⟨fun hd => by simp [Fence.wide] at hd, HRR.out.mono ?_⟩
  clear hy HRR c0 c1 c2
  rintro e W3 (⟨rfl, hJ3, hk3⟩ | ⟨rfl, hJx3⟩)
  rotate_left
  · have HX3 := Lib.hid hJx3
    clear hJx3
    gi_wp2
    refine bodyPost_ret (results_none rfl _ _ _) rfl ?_
    exact ⟨⟨_, rfl⟩, .inr ⟨_, trivial, HX3.out⟩⟩
  have HST0 : Hid (RdSt W W3 q m o cap ws 0 J) := Lib.hid ⟨fun j hj => absurd hj (by omega), hJ3, hk3.2.1.trans HBM.out, hk3.2.2.trans HBW.out, HMS.out.low HLOW.out hk3.1, hk3.1.size⟩
  clear hJ3 hk3 HBM HBW HMS
  have d0 : W3.cell? ⟨q + 1, 0, none⟩ = some (.slice o ws.length cap) := HST0.out.bw.cell 0
  gi_wp2
  clear d0
  gi_loopw [12] (fun i wr => ∃ k : Nat, k ≤ ws.length ∧ i = .int .i64 k ∧ RdSt W wr q m o cap ws k J) (fun i _ => ws.length - (intOf i).toNat)
  case atStart => exact ⟨0, Nat.zero_le _, rfl, HST0.out⟩
  case round =>
    obtain ⟨k, hk, rfl, hst⟩ := hrel
    have HST := Lib.hid hst
    clear hst HST0
    by_cases hlt : k < ws.length
    · obtain ⟨b, off, hbo, c0, c1, c2⟩ := HST.out.ms k hlt
      have HTK := Lib.hid (show ws.take (k + 1) = ws.take k ++ [getM ws k] by rw [List.take_succ_eq_append_getElem hlt, getM_eq hlt])
      obtain ⟨x, hxe⟩ : ∃ x, getM ws k = x := ⟨_, rfl⟩
      rw [hxe] at c0 c1 c2 HTK
      have HXE := Lib.hid hxe
      have HBO := Lib.hid hbo
      clear hxe
      subst hbo
      have y1 : (0 : Int) ≤ (k : Int) := by omega
      have y2 : (k : Int) < (ws.length : Int) := by omega
      have HXB := Lib.hid (Box3.new wr 24 (.int .i64 x.f) (.int .i64 x.n) (.int .i64 x.b))
      have m1 : wr.cell? ⟨q, 1, none⟩ = some (.int .i64 m.n) := HST.out.bm.cell 1
      have hqs : q < wr.heap.size := HST.out.bm.lt
      by_cases hn : x.n = m.n + 1 + (k : Int)
      · have HST1 := Lib.hid (HST.out.later HJ.out HXB.out.below)
        obtain ⟨fn, tmps, assign, body, hy, hR⟩ := HY.out (m :: ws.take k) x _ HST1.out.j (by simp; omega)
        dsimp only [encM] at hy
        have HRR := Lib.hid hR
        clear hR
        have HN := Lib.hid hn
        have hnb : (x.n != m.n + 1 + (k : Int)) = false := by simp [hn]
        clear hn
        gi_wp2
        refine ⟨fun hd => by simp [Fence.wide] at hd, HRR.out.mono ?_⟩
        rintro e W4 (⟨rfl, hJ4, hk4⟩ | ⟨rfl, hJx4⟩)
        · have HS4 : Hid (RdSt W W4 q m (some ⟨b, off, none⟩) cap ws (k + 1) J) := Lib.hid ⟨fun j hj => by
              rcases Nat.lt_or_eq_of_le (Nat.le_of_lt_succ hj) with h | rfl
              · exact HST.out.run j h
              · rw [HXE.out]; exact HN.out, by rw [HTK.out]; exact hJ4, hk4.2.1.trans HST1.out.bm, hk4.2.2.trans HST1.out.bw, HST1.out.ms.low HLOW.out hk4.1, Nat.le_trans HST1.out.size hk4.1.size⟩
          clear hJ4 hk4 hy HRR c0 c1 c2 m1
          gi_wp2
          go_roundw
          case rel => exact ⟨k + 1, by omega, by go_num, HS4.out⟩
          case measure => simp [intOf]; omega
        · have HX4 := Lib.hid hJx4
          clear hJx4 hy HRR c0 c1 c2 m1
          gi_wp2
          refine bodyPost_ret (results_none rfl _ _ _) rfl ?_
          exact ⟨⟨_, rfl⟩, .inr ⟨_, trivial, HX4.out⟩⟩
      · have hnb : (x.n != m.n + 1 + (k : Int)) = true := by simpa using hn
        have HDO := Lib.hid (show runOf (m.n + 1) ws = ws.take k from runUp_stop hk HST.out.run (fun _ => by rw [HXE.out]; exact hn))
        have HST1 := Lib.hid (HST.out.later HJ.out HXB.out.below)
        clear hn
        gi_wp2
        repeat (refine ⟨fun f hf => (by cases hf), ?_⟩; gi_wp2)
        refine bodyPost_ret (results_none rfl _ _ _) rfl ?_
        exact ⟨⟨_, rfl⟩, .inl ⟨_, rfl, by rw [HDO.out]; exact HST1.out.j⟩⟩
    · obtain rfl : k = ws.length := by omega
      have HDO := Lib.hid (show runOf (m.n + 1) ws = ws.take ws.length from runUp_stop (Nat.le_refl _) HST.out.run (fun h => absurd h (Nat.lt_irrefl _)))
      gi_wp2
      go_end0
      exact ⟨⟨_, rfl⟩, .inl ⟨_, rfl, by rw [HDO.out]; exact HST.out.j⟩⟩
end Go.Proofs.Ytehpdjlidmhkmaa
