/- Package auditor: same. -/
import Derived.Test.YtkfmmiekajgdjaaGreatWl43
namespace Go.Proofs.YtkfmmiekajgdjaaGreat
open Go.RowKit
attribute [local go_sem] Oper.semAt_some
theorem pr_ne {x y : Int × Int} (h : x ≠ y) : ¬ (x.1 = y.1 ∧ x.2 = y.2) := fun e => h (Prod.ext e.1 e.2)
theorem list_same {l m : List (Int × Int)} (hl : l.length = m.length) (h : ∀ k, k < l.length → l.getD k (0, 0) = m.getD k (0, 0)) : l = m := by
  apply List.ext_getElem hl
  intro k h1 h2
  have := h k h1
  simpa [h1, h2] using this

set_option maxRecDepth 100000 in
set_option maxHeartbeats 8000000 in
theorem sameL_any (oa ob : Option Addr) (ca cb : Nat) (la lb : List (Int × Int)) (w : World) (ha : Twos w oa la) (hb : Twos w ob lb) (hla : la.length ≤ 9000000000000000000) (_hlb : lb.length ≤ 9000000000000000000) : Calls Tryz.prog 52 #[.slice oa la.length ca, .slice ob lb.length cb] w (Ret (.bool (decide (la = lb))) w) := by
  have HA := Lib.hid ha
  have HB := Lib.hid hb
  clear ha hb
  obtain ⟨V, hV⟩ : ∃ V, decide (la = lb) = V := ⟨_, rfl⟩
  rw [hV]
  have HV := Lib.hid hV
  clear hV
  go_enter Tryz.func52, Tryz.ntmps52
  by_cases hn : la.length = lb.length
  rotate_left
  · have hd : ((la.length : Int) != (lb.length : Int)) = true := by simpa using fun e => hn (by omega)
    obtain rfl : false = V := by rw [← HV.out]; symm; exact decide_eq_false (fun e => hn (by rw [e]))
    clear hn
    go_wp2
    go_ret
    exact ⟨rfl, Below.refl _ _⟩
  have hd : ((la.length : Int) != (lb.length : Int)) = false := by simpa using (by omega : (la.length : Int) = lb.length)
  have HN := Lib.hid hn
  clear hn
  go_wp2
  clear hd
  go_loopw [13] (fun i wr => ∃ k : Nat, k ≤ la.length ∧ i = .int .i64 k ∧ (∀ j, j < k → la.getD j (0, 0) = lb.getD j (0, 0)) ∧ Below w.heap.size w wr) (fun i _ => la.length - (intOf i).toNat)
  case atStart => exact ⟨0, Nat.zero_le _, rfl, fun j hj => absurd hj (Nat.not_lt_zero _), Below.refl _ _⟩
  case round =>
    obtain ⟨k, hk, rfl, hz, hbw⟩ := hrel
    obtain ⟨wA, rfl⟩ : ∃ wA : World, wA = wr := ⟨_, rfl⟩
    have HZ := Lib.hid hz
    have HBW := Lib.hid hbw
    clear hz hbw
    by_cases hlt : k < la.length
    · have hlt2 : k < lb.length := by have := HN.out; omega
      obtain ⟨g1, f1, hg1, x0, x1⟩ := (HA.out.later HBW.out) k hlt
      obtain ⟨g2, f2, hg2, z0, z1⟩ := (HB.out.later HBW.out) k hlt2
      obtain ⟨x, hx⟩ : ∃ x, la.getD k (0, 0) = x := ⟨_, rfl⟩
      obtain ⟨y, hy⟩ : ∃ y, lb.getD k (0, 0) = y := ⟨_, rfl⟩
      have HXY := Lib.hid (show la.getD k (0, 0) = x ∧ lb.getD k (0, 0) = y from ⟨hx, hy⟩)
      rw [hx] at x0 x1
      rw [hy] at z0 z1
      clear hx hy
      rw [hg1, hg2]
      have y1 : (0 : Int) ≤ (k : Int) := by omega
      have y2 : (k : Int) < (la.length : Int) := by omega
      have y3 : (k : Int) < (lb.length : Int) := by omega
      by_cases e1 : x.1 = y.1
      · have d1 : (x.1 == y.1) = true := by simpa using e1
        by_cases e2 : x.2 = y.2
        · have d2 : (x.2 == y.2) = true := by simpa using e2
          have HZ2 := Lib.hid (show ∀ j, j < k + 1 → la.getD j (0, 0) = lb.getD j (0, 0) from fun j hj => by
            by_cases e : j = k
            · subst e; rw [HXY.out.1, HXY.out.2]; exact Prod.ext e1 e2
            · exact HZ.out j (by omega))
          clear e1 e2
          go_wp2_with fail
          go_quiet (fail)
          go_wp2
          go_roundw
          case rel => exact ⟨k + 1, hlt, by go_num, HZ2.out, below_step HBW.out (below_drewN (Below.refl _ _) _)⟩
          case measure => simp [intOf]; omega
        · have d2 : (x.2 == y.2) = false := by simpa using e2
          obtain rfl : false = V := by
            rw [← HV.out]; symm
            refine decide_eq_false (fun e => e2 ?_)
            rw [← HXY.out.1, ← HXY.out.2, e]
          clear e1 e2
          go_wp2_with fail
          go_quiet (fail)
          go_wp2
          go_ret
          exact ⟨rfl, below_step HBW.out (below_drewN (Below.refl _ _) _)⟩
      · have d1 : (x.1 == y.1) = false := by simpa using e1
        obtain rfl : false = V := by
          rw [← HV.out]; symm
          refine decide_eq_false (fun e => e1 ?_)
          rw [← HXY.out.1, ← HXY.out.2, e]
        clear e1
        go_wp2_with fail
        go_quiet (fail)
        go_wp2
        go_ret
        exact ⟨rfl, below_step HBW.out (below_drewN (Below.refl _ _) _)⟩
    · obtain rfl : k = la.length := by omega
      obtain rfl : true = V := by rw [← HV.out]; symm; exact decide_eq_true (list_same HN.out HZ.out)
      go_wp2
      go_ret
      exact ⟨rfl, HBW.out⟩

set_option maxRecDepth 100000 in
set_option maxHeartbeats 8000000 in
theorem sameS_any (oa ob : Option Addr) (ca cb : Nat) (la lb : List (Int × Int)) (w : World) (ha : Twos w oa la) (hb : Twos w ob lb) (hla : la.length ≤ 9000000000000000000) (_hlb : lb.length ≤ 9000000000000000000) : Calls Tryz.prog 77 #[.slice oa la.length ca, .slice ob lb.length cb] w (Ret (.bool (decide (la = lb))) w) := by
  have HA := Lib.hid ha
  have HB := Lib.hid hb
  clear ha hb
  obtain ⟨V, hV⟩ : ∃ V, decide (la = lb) = V := ⟨_, rfl⟩
  rw [hV]
  have HV := Lib.hid hV
  clear hV
  go_enter Tryz.func77, Tryz.ntmps77
  by_cases hn : la.length = lb.length
  rotate_left
  · have hd : ((la.length : Int) != (lb.length : Int)) = true := by simpa using fun e => hn (by omega)
    obtain rfl : false = V := by rw [← HV.out]; symm; exact decide_eq_false (fun e => hn (by rw [e]))
    clear hn
    go_wp2
    go_ret
    exact ⟨rfl, Below.refl _ _⟩
  have hd : ((la.length : Int) != (lb.length : Int)) = false := by simpa using (by omega : (la.length : Int) = lb.length)
  have HN := Lib.hid hn
  clear hn
  go_wp2
  clear hd
  go_loopw [13] (fun i wr => ∃ k : Nat, k ≤ la.length ∧ i = .int .i64 k ∧ (∀ j, j < k → la.getD j (0, 0) = lb.getD j (0, 0)) ∧ Below w.heap.size w wr) (fun i _ => la.length - (intOf i).toNat)
  case atStart => exact ⟨0, Nat.zero_le _, rfl, fun j hj => absurd hj (Nat.not_lt_zero _), Below.refl _ _⟩
  case round =>
    obtain ⟨k, hk, rfl, hz, hbw⟩ := hrel
    obtain ⟨wA, rfl⟩ : ∃ wA : World, wA = wr := ⟨_, rfl⟩
    have HZ := Lib.hid hz
    have HBW := Lib.hid hbw
    clear hz hbw
    by_cases hlt : k < la.length
    · have hlt2 : k < lb.length := by have := HN.out; omega
      obtain ⟨g1, f1, hg1, x0, x1⟩ := (HA.out.later HBW.out) k hlt
      obtain ⟨g2, f2, hg2, z0, z1⟩ := (HB.out.later HBW.out) k hlt2
      obtain ⟨x, hx⟩ : ∃ x, la.getD k (0, 0) = x := ⟨_, rfl⟩
      obtain ⟨y, hy⟩ : ∃ y, lb.getD k (0, 0) = y := ⟨_, rfl⟩
      have HXY := Lib.hid (show la.getD k (0, 0) = x ∧ lb.getD k (0, 0) = y from ⟨hx, hy⟩)
      rw [hx] at x0 x1
      rw [hy] at z0 z1
      clear hx hy
      rw [hg1, hg2]
      have y1 : (0 : Int) ≤ (k : Int) := by omega
      have y2 : (k : Int) < (la.length : Int) := by omega
      have y3 : (k : Int) < (lb.length : Int) := by omega
      by_cases e1 : x.1 = y.1
      · have d1 : (x.1 == y.1) = true := by simpa using e1
        by_cases e2 : x.2 = y.2
        · have d2 : (x.2 == y.2) = true := by simpa using e2
          have HZ2 := Lib.hid (show ∀ j, j < k + 1 → la.getD j (0, 0) = lb.getD j (0, 0) from fun j hj => by
            by_cases e : j = k
            · subst e; rw [HXY.out.1, HXY.out.2]; exact Prod.ext e1 e2
            · exact HZ.out j (by omega))
          clear e1 e2
          go_wp2_with fail
          go_quiet (fail)
          go_wp2
          go_roundw
          case rel => exact ⟨k + 1, hlt, by go_num, HZ2.out, below_step HBW.out (below_drewN (Below.refl _ _) _)⟩
          case measure => simp [intOf]; omega
        · have d2 : (x.2 == y.2) = false := by simpa using e2
          obtain rfl : false = V := by
            rw [← HV.out]; symm
            refine decide_eq_false (fun e => e2 ?_)
            rw [← HXY.out.1, ← HXY.out.2, e]
          clear e1 e2
          go_wp2_with fail
          go_quiet (fail)
          go_wp2
          go_ret
          exact ⟨rfl, below_step HBW.out (below_drewN (Below.refl _ _) _)⟩
      · have d1 : (x.1 == y.1) = false := by simpa using e1
        obtain rfl : false = V := by
          rw [← HV.out]; symm
          refine decide_eq_false (fun e => e1 ?_)
          rw [← HXY.out.1, ← HXY.out.2, e]
        clear e1
        go_wp2_with fail
        go_quiet (fail)
        go_wp2
        go_ret
        exact ⟨rfl, below_step HBW.out (below_drewN (Below.refl _ _) _)⟩
    · obtain rfl : k = la.length := by omega
      obtain rfl : true = V := by rw [← HV.out]; symm; exact decide_eq_true (list_same HN.out HZ.out)
      go_wp2
      go_ret
      exact ⟨rfl, HBW.out⟩

end Go.Proofs.YtkfmmiekajgdjaaGreat