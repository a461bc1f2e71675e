/- Chapter 39: Of, SameMessages, Same, Ints of the reference. -/
import Derived.Test.YtehpdjlidmhkmaaWe39
namespace Go.Proofs.Ytehpdjlidmhkmaa
open Go.RowKit
attribute [local go_sem] Oper.semAt_some

theorem Msg.ne_parts {x y : Msg} (h : x ≠ y) : ¬ x.f = y.f ∨ (x.f = y.f ∧ ¬ x.n = y.n) ∨ (x.f = y.f ∧ x.n = y.n ∧ ¬ x.b = y.b) := by
  obtain ⟨f, n, b⟩ := x
  obtain ⟨f', n', b'⟩ := y
  by_cases h1 : f = f' <;> by_cases h2 : n = n' <;> by_cases h3 : b = b' <;> simp_all
theorem run_neq_aux (f n b f' n' b' : Int) (h : ¬ f = f' ∨ (f = f' ∧ ¬ n = n') ∨ (f = f' ∧ n = n' ∧ ¬ b = b')) (w : World) :
    (binOp .neq 24 (.agg #[.int .i64 f, .int .i64 n, .int .i64 b]) (.agg #[.int .i64 f', .int .i64 n', .int .i64 b'])).run Try.prog w = .ok (.bool true) w := by
  rcases h with h | ⟨rfl, h⟩ | ⟨rfl, rfl, h⟩
  all_goals (go_simp; try simp [h])
theorem run_neq_msg (x y : Msg) (h : x ≠ y) (w : World) : (binOp .neq 24 (msgV x) (msgV y)).run Try.prog w = .ok (.bool true) w :=
  run_neq_aux _ _ _ _ _ _ (Msg.ne_parts h) w
theorem eq_of_getM {la lb : List Msg} (hl : la.length = lb.length) (h : ∀ j, j < la.length → getM la j = getM lb j) : la = lb := by
  apply List.ext_getElem hl
  intro j h1 h2
  rw [← getM_eq h1, ← getM_eq h2]
  exact h j h1
theorem eq_of_getB {la lb : List Bx} (hl : la.length = lb.length) (h : ∀ j, j < la.length → getB la j = getB lb j) : la = lb := by
  apply List.ext_getElem hl
  intro j h1 h2
  rw [← getB_eq h1, ← getB_eq h2]
  exact h j h1

set_option maxHeartbeats 4000000 in
theorem sameM_any (oa ob : Option Addr) (ca cb : Nat) (la lb : List Msg) (w : World) (ha : Msgs w oa la) (hb : Msgs w ob lb) (hla : la.length ≤ 9223372036854775807) : Calls Try.prog 15 #[.slice oa la.length ca, .slice ob lb.length cb] w (Ret (.bool (decide (la = lb))) w) := by
  have HA := Lib.hid ha
  have HB := Lib.hid hb
  clear ha hb
  obtain ⟨V, hV⟩ : ∃ V, decide (la = lb) = V := ⟨_, rfl⟩
  rw [hV]
  have HV := Lib.hid hV
  clear hV
  by_cases hll : la.length = lb.length
  · go_enter Try.func15, Try.ntmps15
    rw [← hll]
    have HLL := Lib.hid hll
    clear hll
    go_wp2
    go_loopw [5] (fun i wr => ∃ k : Nat, k ≤ la.length ∧ i = .int .i64 k ∧ (∀ j, j < k → getM la j = getM lb j) ∧ Below w.heap.size w wr) (fun i _ => la.length - (intOf i).toNat)
    case atStart => exact ⟨0, Nat.zero_le _, rfl, fun j hj => absurd hj (by omega), Below.refl _ _⟩
    case round =>
      obtain ⟨k, hk, rfl, hri, hbel⟩ := hrel
      have HRI := Lib.hid hri
      have HBL := Lib.hid hbel
      clear hri hbel
      by_cases hlt : k < la.length
      · obtain ⟨b1, o1, h1, hx⟩ := (HA.out.later HBL.out) k hlt
        obtain ⟨b2, o2, h2, hy⟩ := (HB.out.later HBL.out) k (by rw [← HLL.out]; exact hlt)
        subst h1 h2
        obtain ⟨x, hxe⟩ : ∃ x, getM la k = x := ⟨_, rfl⟩
        obtain ⟨y, hye⟩ : ∃ y, getM lb k = y := ⟨_, rfl⟩
        rw [hxe] at hx
        rw [hye] at hy
        have HXE := Lib.hid hxe
        have HYE := Lib.hid hye
        obtain ⟨c0, c1, c2⟩ := hx
        obtain ⟨d0, d1, d2⟩ := hy
        clear hxe hye
        have y1 : (0 : Int) ≤ (k : Int) := by omega
        have y2 : (k : Int) < (la.length : Int) := by omega
        by_cases hxy : x = y
        · subst hxy
          go_wp2_with fail
          go_quiet (fail)
          go_wp2
          go_roundw
          case rel => exact ⟨k + 1, by omega, by go_num, fun j hj => by rcases Nat.lt_or_eq_of_le (Nat.le_of_lt_succ hj) with h | rfl; exact HRI.out j h; rw [HXE.out, HYE.out], below_drewN HBL.out _⟩
          case measure => simp [intOf]; omega
        · obtain rfl : false = V := by
            rw [← HV.out]
            symm
            rw [decide_eq_false_iff_not]
            intro e
            subst e
            exact hxy (HXE.out.symm.trans HYE.out)
          have hne := run_neq_msg x y hxy
          clear hxy
          go_wp2_with fail
          go_quiet (fail)
          go_wp2
          go_ret
          exact ⟨rfl, below_drewN HBL.out _⟩
      · obtain rfl : k = la.length := by omega
        obtain rfl : true = V := by rw [← HV.out]; symm; rw [decide_eq_true_eq]; exact eq_of_getM HLL.out HRI.out
        go_wp2
        go_ret
        exact ⟨rfl, HBL.out⟩
  · obtain rfl : false = V := by
      rw [← HV.out]
      symm
      rw [decide_eq_false_iff_not]
      intro e
      exact hll (by rw [e])
    have hli : ¬ (la.length : Int) = (lb.length : Int) := by omega
    go_enter Try.func15, Try.ntmps15
    go_wp2
    go_ret
    exact ⟨rfl, Below.refl _ _⟩

theorem eq_of_getI {la lb : List Int} (hl : la.length = lb.length) (h : ∀ j, j < la.length → la.getD j 0 = lb.getD j 0) : la = lb := by
  apply List.ext_getElem hl
  intro j h1 h2
  have := h j h1
  simpa [h1, h2] using this
set_option maxHeartbeats 4000000 in
theorem refInts_any (oa ob : Option Addr) (ca cb : Nat) (la lb : List Int) (w : World) (ha : Ints w oa la) (hb : Ints w ob lb) (hla : la.length ≤ 9223372036854775807) : Calls Try.prog 16 #[.slice oa la.length ca, .slice ob lb.length cb] w (Ret (.bool (decide (la = lb))) w) := by
  have HA := Lib.hid ha
  have HB := Lib.hid hb
  clear ha hb
  obtain ⟨V, hV⟩ : ∃ V, decide (la = lb) = V := ⟨_, rfl⟩
  rw [hV]
  have HV := Lib.hid hV
  clear hV
  by_cases hll : la.length = lb.length
  · go_enter Try.func16, Try.ntmps16
    rw [← hll]
    have HLL := Lib.hid hll
    clear hll
    go_wp2
    go_loopw [5] (fun i wr => ∃ k : Nat, k ≤ la.length ∧ i = .int .i64 k ∧ (∀ j, j < k → la.getD j 0 = lb.getD j 0) ∧ Below w.heap.size w wr) (fun i _ => la.length - (intOf i).toNat)
    case atStart => exact ⟨0, Nat.zero_le _, rfl, fun j hj => absurd hj (by omega), Below.refl _ _⟩
    case round =>
      obtain ⟨k, hk, rfl, hri, hbel⟩ := hrel
      have HRI := Lib.hid hri
      have HBL := Lib.hid hbel
      clear hri hbel
      by_cases hlt : k < la.length
      · obtain ⟨b1, o1, h1, c0⟩ := (HA.out.later HBL.out) k hlt
        obtain ⟨b2, o2, h2, d0⟩ := (HB.out.later HBL.out) k (by rw [← HLL.out]; exact hlt)
        subst h1 h2
        obtain ⟨x, hxe⟩ : ∃ x, la.getD k 0 = x := ⟨_, rfl⟩
        obtain ⟨y, hye⟩ : ∃ y, lb.getD k 0 = y := ⟨_, rfl⟩
        rw [hxe] at c0
        rw [hye] at d0
        have HXE := Lib.hid hxe
        have HYE := Lib.hid hye
        clear hxe hye
        have y1 : (0 : Int) ≤ (k : Int) := by omega
        have y2 : (k : Int) < (la.length : Int) := by omega
        by_cases hxy : x = y
        · subst hxy
          go_wp2_with fail
          go_quiet (fail)
          go_wp2
          go_roundw
          case rel => exact ⟨k + 1, by omega, by go_num, fun j hj => by rcases Nat.lt_or_eq_of_le (Nat.le_of_lt_succ hj) with h | rfl; exact HRI.out j h; rw [HXE.out, HYE.out], below_drewN HBL.out _⟩
          case measure => simp [intOf]; omega
        · obtain rfl : false = V := by
            rw [← HV.out]
            symm
            rw [decide_eq_false_iff_not]
            intro e
            subst e
            exact hxy (HXE.out.symm.trans HYE.out)
          have hne : (x != y) = true := by simpa using hxy
          clear hxy
          go_wp2_with fail
          go_quiet (fail)
          go_wp2
          go_ret
          exact ⟨rfl, below_drewN HBL.out _⟩
      · obtain rfl : k = la.length := by omega
        obtain rfl : true = V := by rw [← HV.out]; symm; rw [decide_eq_true_eq]; exact eq_of_getI HLL.out HRI.out
        go_wp2
        go_ret
        exact ⟨rfl, HBL.out⟩
  · obtain rfl : false = V := by
      rw [← HV.out]
      symm
      rw [decide_eq_false_iff_not]
      intro e
      exact hll (by rw [e])
    have hli : ¬ (la.length : Int) = (lb.length : Int) := by omega
    go_enter Try.func16, Try.ntmps16
    go_wp2
    go_ret
    exact ⟨rfl, Below.refl _ _⟩
end Go.Proofs.Ytehpdjlidmhkmaa
