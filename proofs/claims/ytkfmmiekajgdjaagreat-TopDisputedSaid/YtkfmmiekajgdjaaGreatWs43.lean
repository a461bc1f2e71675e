/- Package settle: Dispute, where two chains of one length differ first at k. -/
import Derived.Test.YtkfmmiekajgdjaaGreatT40
import Derived.BigQuiet
namespace Go.Proofs.YtkfmmiekajgdjaaGreat
open Go.RowKit
attribute [local go_sem] Oper.semAt_some

theorem rd_diff {x y : Rd} (h : x ≠ y) : ¬ (x.s = y.s ∧ x.n = y.n ∧ x.m = y.m ∧ x.r = y.r ∧ x.k = y.k) := fun e => h (by
  obtain ⟨x1, x2, x3, x4, x5, x6⟩ := x
  obtain ⟨y1, y2, y3, y4, y5, y6⟩ := y
  obtain ⟨e1, e2, e3, e4, e5⟩ := e
  simp only at e1 e2 e3 e4 e5
  subst e1 e2 e3 e4 e5
  rfl)
set_option maxRecDepth 100000 in
set_option maxHeartbeats 8000000 in
theorem dispute_at (oa ob : Option Addr) (ca cb : Nat) (la lb : List Rd) (N k : Nat) (w : World) (ha : Rds w oa la) (hb : Rds w ob lb) (hla : la.length = N) (hlb : lb.length = N) (hN : N ≤ 64) (hk : k < N) (heq : ∀ j, j < k → getR la j = getR lb j) (hne : getR la k ≠ getR lb k) : Calls Tryz.prog 12 #[.slice oa N ca, .slice ob N cb] w (Ret (.tuple #[.int .i64 k, .bool true, .int .i64 0]) w) := by
  have HA := Lib.hid ha
  have HB := Lib.hid hb
  have HLA := Lib.hid hla
  have HLB := Lib.hid hlb
  have HEQ := Lib.hid heq
  have HNE := Lib.hid hne
  clear ha hb hla hlb heq hne
  go_enter Tryz.func12, Tryz.ntmps12
  go_wp2
  go_loopw [23] (fun i wr => ∃ j : Nat, j ≤ k ∧ i = .int .i64 j ∧ Below w.heap.size w wr) (fun i _ => k - (intOf i).toNat)
  case atStart => exact ⟨0, Nat.zero_le _, rfl, Below.refl _ _⟩
  case round =>
    obtain ⟨j, hj, rfl, hbw⟩ := hrel
    obtain ⟨wA, rfl⟩ : ∃ wA : World, wA = wr := ⟨_, rfl⟩
    have HBW := Lib.hid hbw
    clear hbw
    have hjN : j < N := by omega
    obtain ⟨g1, f1, hg1, a0, a1, a2, a3, a4⟩ := (HA.out.later HBW.out) j (by rw [HLA.out]; exact hjN)
    obtain ⟨g2, f2, hg2, b0, b1, b2, b3, b4⟩ := (HB.out.later HBW.out) j (by rw [HLB.out]; exact hjN)
    by_cases hjk : j = k
    · subst hjk
      have HD := Lib.hid (rd_diff HNE.out)
      obtain ⟨x, hx⟩ : ∃ x, getR la j = x := ⟨_, rfl⟩
      obtain ⟨y, hy⟩ : ∃ y, getR lb j = y := ⟨_, rfl⟩
      rw [hx] at a0 a1 a2 a3 a4 HD
      rw [hy] at b0 b1 b2 b3 b4 HD
      clear hx hy
      rw [hg1, hg2]
      have y1 : (0 : Int) ≤ (j : Int) := by omega
      have y2 : (j : Int) < (N : Int) := by omega
      by_cases e0 : x.s = y.s
      rotate_left
      · have d0 : (x.s == y.s) = false := by simpa using e0
        clear e0
        go_wp2_with fail
        go_quiet (fail)
        go_wp2
        go_ret3
        exact ⟨rfl, below_step HBW.out (below_drewN (Below.refl _ _) _)⟩
      have d0 : (x.s == y.s) = true := by simpa using e0
      by_cases e1 : x.n = y.n
      rotate_left
      · have d1 : (x.n == y.n) = false := by simpa using e1
        clear e0 e1
        go_wp2_with fail
        go_quiet (fail)
        go_wp2
        go_ret3
        exact ⟨rfl, below_step HBW.out (below_drewN (Below.refl _ _) _)⟩
      have d1 : (x.n == y.n) = true := by simpa using e1
      by_cases e2 : x.m = y.m
      rotate_left
      · have d2 : (x.m == y.m) = false := by simpa using e2
        clear e0 e1 e2
        go_wp2_with fail
        go_quiet (fail)
        go_wp2
        go_ret3
        exact ⟨rfl, below_step HBW.out (below_drewN (Below.refl _ _) _)⟩
      have d2 : (x.m == y.m) = true := by simpa using e2
      by_cases e3 : x.r = y.r
      rotate_left
      · have d3 : (x.r == y.r) = false := by simpa using e3
        clear e0 e1 e2 e3
        go_wp2_with fail
        go_quiet (fail)
        go_wp2
        go_ret3
        exact ⟨rfl, below_step HBW.out (below_drewN (Below.refl _ _) _)⟩
      have d3 : (x.r == y.r) = true := by simpa using e3
      have e4 : ¬ x.k = y.k := fun h => HD.out ⟨e0, e1, e2, e3, h⟩
      have d4 : ((x.k : Int) == (y.k : Int)) = false := by simpa using fun h => e4 (by omega)
      clear e0 e1 e2 e3 e4
      go_wp2_with fail
      go_quiet (fail)
      go_wp2
      go_ret3
      exact ⟨rfl, below_step HBW.out (below_drewN (Below.refl _ _) _)⟩
    · have HE := Lib.hid (HEQ.out j (by omega))
      obtain ⟨x, hx⟩ : ∃ x, getR la j = x := ⟨_, rfl⟩
      rw [← HE.out, hx] at b0 b1 b2 b3 b4
      rw [hx] at a0 a1 a2 a3 a4
      clear hx
      rw [hg1, hg2]
      have y1 : (0 : Int) ≤ (j : Int) := by omega
      have y2 : (j : Int) < (N : Int) := by omega
      go_wp2_with fail
      go_quiet (fail)
      go_wp2
      go_roundw
      case rel => exact ⟨j + 1, by omega, by go_num, below_step HBW.out (below_drewN (Below.refl _ _) _)⟩
      case measure => simp [intOf]; omega
end Go.Proofs.YtkfmmiekajgdjaaGreat