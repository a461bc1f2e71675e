/- Chapter 37, plain: the reference's numbers. No program here. -/
import Derived.Test.YtmcodendnpjlaaaDoorPlainF37
namespace Go.Proofs.YtmcodendnpjlaaaDoor

/-- An exit that is not used: adding its bit is laying it. -/
theorem add_bit {used j : Nat} (h : used.testBit j = false) : used + 1 <<< j = used ||| 1 <<< j := by
  apply Nat.eq_of_testBit_eq
  intro k
  rw [bit_or, Nat.one_shiftLeft]
  rw [Nat.add_comm]
  by_cases hk : k < j
  · rw [Nat.testBit_two_pow_add_gt hk, decide_eq_false (by omega), Bool.or_false]
  · by_cases hkj : k = j
    · subst hkj
      rw [Nat.testBit_two_pow_add_eq, h]
      simp
    · have h1 : (used >>> j).testBit 0 = false := by rw [Nat.testBit_shiftRight]; simpa using h
      have h2 : (2 ^ j + used) >>> (j + 1) = used >>> (j + 1) := by
        rw [Nat.shiftRight_eq_div_pow, Nat.shiftRight_eq_div_pow]
        rw [Nat.testBit_zero, Nat.shiftRight_eq_div_pow] at h1
        have h3 : used / 2 ^ j % 2 = 0 := by simpa using h1
        rw [Nat.pow_succ, ← Nat.div_div_eq_div_mul, ← Nat.div_div_eq_div_mul]
        have h4 : (2 ^ j + used) / 2 ^ j = used / 2 ^ j + 1 := by
          rw [Nat.add_comm]
          exact Nat.add_div_right _ (Nat.two_pow_pos j)
        rw [h4]
        omega
      have h5 := congrArg (fun x => Nat.testBit x (k - (j + 1))) h2
      simp only [Nat.testBit_shiftRight] at h5
      rw [show j + 1 + (k - (j + 1)) = k by omega] at h5
      rw [h5, decide_eq_false (by omega), Bool.or_false]
end Go.Proofs.YtmcodendnpjlaaaDoor
