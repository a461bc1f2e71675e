/- Chapter 22: Valid and Fits of the reference, Fits. -/
import Derived.Test.YtjaeekikddbbeaaWc22
namespace Go.Proofs.Ytjaeekikddbbeaa
open Go.RowKit
attribute [local go_sem] Oper.semAt_some

set_option maxRecDepth 100000 in
set_option maxHeartbeats 8000000 in
theorem refValid_any (o : Option Addr) (cap : Nat) (rows : List Rw) (n : Int) (w : World) (hr : Rws w o rows) (hl : rows.length ≤ 9000000000000000000) : Calls Try.prog 24 #[.slice o rows.length cap, .int .i64 n] w (Ret (.bool (validRws n rows)) w) := by
  have HR := Lib.hid hr
  obtain ⟨V, hV⟩ : ∃ V, validRws n rows = V := ⟨_, rfl⟩
  rw [hV]
  have HV := Lib.hid hV
  clear hr hV
  by_cases h1 : n < 0
  · obtain rfl : V = false := by rw [← HV.out, validRws, decide_eq_false (show ¬ (0 ≤ n ∧ n ≤ 64) by omega)]; rfl
    have h1d : decide (n < 0) = true := by simpa using h1
    go_enter Try.func24, Try.ntmps24
    go_wp2
    go_ret
    exact ⟨rfl, Below.refl _ _⟩
  have h1d : decide (n < 0) = false := by simpa using h1
  by_cases h2 : 64 < n
  · obtain rfl : V = false := by rw [← HV.out, validRws, decide_eq_false (show ¬ (0 ≤ n ∧ n ≤ 64) by omega)]; rfl
    have h2d : decide (64 < n) = true := by simpa using h2
    go_enter Try.func24, Try.ntmps24
    go_wp2
    go_ret
    exact ⟨rfl, Below.refl _ _⟩
  have h2d : decide (64 < n) = false := by simpa using h2
  by_cases h3 : 64 < rows.length
  · obtain rfl : V = false := by rw [← HV.out, validRws, decide_eq_false (show ¬ rows.length ≤ 64 by omega)]; simp
    have h3d : decide ((64 : Int) < (rows.length : Int)) = true := by rw [decide_eq_true_eq]; omega
    go_enter Try.func24, Try.ntmps24
    go_wp2
    go_ret
    exact ⟨rfl, Below.refl _ _⟩
  have h3d : decide ((64 : Int) < (rows.length : Int)) = false := by rw [decide_eq_false_iff_not]; omega
  have HI := Lib.hid (show (rows.drop 0).all (validRw n) = V by rw [← HV.out, validRws, decide_eq_true (show 0 ≤ n ∧ n ≤ 64 by omega), decide_eq_true (show rows.length ≤ 64 by omega)]; simp)
  clear HV
  go_enter Try.func24, Try.ntmps24
  go_wp2
  clear h1d h2d h3d
  go_loop [5] (fun i => ∃ k : Nat, k ≤ rows.length ∧ i = .int .i64 k ∧ (rows.drop k).all (validRw n) = V) (fun i => rows.length - (intOf i).toNat)
  case atStart => exact ⟨0, Nat.zero_le _, rfl, HI.out⟩
  case round =>
    obtain ⟨k, hk, rfl, hz⟩ := hrel
    have HZ := Lib.hid hz
    clear hz HI
    by_cases hlt : k < rows.length
    · obtain ⟨g, off, hgo, oo, cp, hw1, hw2, hms, c0, c1⟩ := HR.out k hlt
      subst hgo
      have HD := Lib.hid (dropW hlt)
      obtain ⟨r, hm⟩ : ∃ r, getW rows k = r := ⟨_, rfl⟩
      rw [hm] at c0 c1 HD hw1 hw2 hms
      have HMS := Lib.hid hms
      clear hm hms
      have HE := Lib.hid (show ((decide (0 ≤ r.c ∧ r.c ≤ 1000000) && incOk n (-1) r.ms) && (rows.drop (k + 1)).all (validRw n)) = V by rw [← HZ.out, HD.out]; rfl)
      have y1 : (0 : Int) ≤ (k : Int) := by omega
      have y2 : (k : Int) < (rows.length : Int) := by omega
      by_cases h4 : r.c < 0
      · obtain rfl : V = false := by rw [← HE.out, decide_eq_false (show ¬ (0 ≤ r.c ∧ r.c ≤ 1000000) by omega)]; rfl
        have h4d : decide (r.c < 0) = true := by simpa using h4
        go_wp2
        go_ret
        exact ⟨rfl, Below.refl _ _⟩
      have h4d : decide (r.c < 0) = false := by simpa using h4
      by_cases h5 : 1000000 < r.c
      · obtain rfl : V = false := by rw [← HE.out, decide_eq_false (show ¬ (0 ≤ r.c ∧ r.c ≤ 1000000) by omega)]; rfl
        have h5d : decide (1000000 < r.c) = true := by simpa using h5
        go_wp2
        go_ret
        exact ⟨rfl, Below.refl _ _⟩
      have h5d : decide (1000000 < r.c) = false := by simpa using h5
      have HJ := Lib.hid (show (incOk n (-1) (r.ms.drop 0) && (rows.drop (k + 1)).all (validRw n)) = V by rw [← HE.out, decide_eq_true (show 0 ≤ r.c ∧ r.c ≤ 1000000 by omega), List.drop_zero, Bool.true_and])
      have HC0 := Lib.hid c0
      go_wp2
      clear h4d h5d c0
      go_loop [6] (fun i => ∃ (j : Nat) (p : Int), j ≤ r.ms.length ∧ i = .int .i64 j ∧ (incOk n p (r.ms.drop j) && (rows.drop (k + 1)).all (validRw n)) = V ∧ ((j = 0 ∧ p = -1) ∨ (0 < j ∧ p = r.ms.getD (j - 1) 0 ∧ 0 ≤ p))) (fun i => r.ms.length - (intOf i).toNat)
      case atStart => exact ⟨0, -1, Nat.zero_le _, rfl, HJ.out, .inl ⟨rfl, rfl⟩⟩
      case round =>
        obtain ⟨j, q, hj, rfl, hz, hpq⟩ := hrel
        have HZ2 := Lib.hid hz
        have HPQ := Lib.hid hpq
        have hq1 : -1 ≤ q := by rcases hpq with h | h <;> omega
        clear hz hpq HJ
        by_cases hjl : j < r.ms.length
        · obtain ⟨h, oh, hho, d0⟩ := HMS.out j hjl
          subst hho
          have HD2 := Lib.hid (dropI hjl)
          obtain ⟨m, hm⟩ : ∃ m, r.ms.getD j 0 = m := ⟨_, rfl⟩
          have HM := Lib.hid hm
          rw [hm] at d0 HD2
          clear hm
          have HE2 := Lib.hid (show ((decide (q < m) && decide (m < n) && incOk n m (r.ms.drop (j + 1))) && (rows.drop (k + 1)).all (validRw n)) = V by rw [← HZ2.out, HD2.out]; rfl)
          have z1 : (0 : Int) ≤ (j : Int) := by omega
          have z2 : (j : Int) < (r.ms.length : Int) := by omega
          by_cases h6 : m < 0
          · obtain rfl : V = false := by rw [← HE2.out, decide_eq_false (show ¬ q < m by omega)]; rfl
            have h6d : decide (m < 0) = true := by simpa using h6
            go_wp2
            go_ret
            exact ⟨rfl, Below.refl _ _⟩
          have h6d : decide (m < 0) = false := by simpa using h6
          by_cases h7 : n ≤ m
          · obtain rfl : V = false := by rw [← HE2.out, decide_eq_false (show ¬ m < n by omega)]; simp
            have h7d : decide (n ≤ m) = true := by simpa using h7
            go_wp2
            go_ret
            exact ⟨rfl, Below.refl _ _⟩
          have h7d : decide (n ≤ m) = false := by simpa using h7
          by_cases hj0 : j = 0
          · have t0 : decide ((0 : Int) < (j : Int)) = false := by rw [decide_eq_false_iff_not]; omega
            have t1 : decide (0 < j) = false := by rw [decide_eq_false_iff_not]; omega
            have hqm : q = -1 := by rcases HPQ.out with h | h <;> omega
            have HNX := Lib.hid (show (incOk n m (r.ms.drop (j + 1)) && (rows.drop (k + 1)).all (validRw n)) = V by rw [← HE2.out, decide_eq_true (show q < m by omega), decide_eq_true (show m < n by omega)]; rfl)
            clear hj0 hqm
            go_wp2
            go_round
            case rel => exact ⟨j + 1, m, by omega, by go_num, HNX.out, .inr ⟨by omega, by rw [Nat.add_sub_cancel, HM.out], by omega⟩⟩
            case measure => simp [intOf]; omega
          · have t0 : decide ((0 : Int) < (j : Int)) = true := by rw [decide_eq_true_eq]; omega
            have t1 : decide (0 < j) = true := by rw [decide_eq_true_eq]; omega
            obtain ⟨J, hJ⟩ : ∃ J, j - 1 = J := ⟨_, rfl⟩
            obtain ⟨h', oh', hho', d1⟩ := HMS.out (j - 1) (by omega)
            obtain ⟨rfl, rfl⟩ := cells_eq rfl hho'
            have hqe : q = r.ms.getD (j - 1) 0 := by rcases HPQ.out with h | h <;> omega
            rw [← hqe, hJ] at d1
            clear hho' hqe
            have z3 : (0 : Int) ≤ (J : Int) := by omega
            have z4 : (J : Int) < (r.ms.length : Int) := by omega
            have e1 : (j : Int) - 1 = (J : Int) := by omega
            clear hj0 hJ
            by_cases h8 : m ≤ q
            · obtain rfl : V = false := by rw [← HE2.out, decide_eq_false (show ¬ q < m by omega)]; rfl
              have h8d : decide (m ≤ q) = true := by simpa using h8
              go_wp2
              go_ret
              exact ⟨rfl, Below.refl _ _⟩
            have h8d : decide (m ≤ q) = false := by simpa using h8
            have HNX := Lib.hid (show (incOk n m (r.ms.drop (j + 1)) && (rows.drop (k + 1)).all (validRw n)) = V by rw [← HE2.out, decide_eq_true (show q < m by omega), decide_eq_true (show m < n by omega)]; rfl)
            go_wp2
            clear e1
            go_round
            case rel => exact ⟨j + 1, m, by omega, by go_num, HNX.out, .inr ⟨by omega, by rw [Nat.add_sub_cancel, HM.out], by omega⟩⟩
            case measure => simp [intOf]; omega
        · obtain rfl : j = r.ms.length := by omega
          have HNX := Lib.hid (show (rows.drop (k + 1)).all (validRw n) = V by rw [← HZ2.out, List.drop_length]; rfl)
          go_wp2
          go_round
          case rel => exact ⟨k + 1, by omega, by go_num, HNX.out⟩
          case measure => simp [intOf]; omega
    · obtain rfl : k = rows.length := by omega
      obtain rfl : V = true := by rw [← HZ.out, List.drop_length]; rfl
      go_wp2
      go_ret
      exact ⟨rfl, Below.refl _ _⟩

end Go.Proofs.Ytjaeekikddbbeaa
