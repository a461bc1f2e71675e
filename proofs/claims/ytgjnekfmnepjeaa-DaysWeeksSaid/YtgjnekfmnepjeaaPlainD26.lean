/- Chapter 26 in plain Lean: weeks. -/
import Derived.Test.YtgjnekfmnepjeaaPlainB26
namespace Go.Proofs.Ytgjnekfmnepjeaa

/-- How many of the k days from d on are of a type. -/
def cnt (t d : Int) : Nat → Int
  | 0 => 0
  | k + 1 => cnt t d k + if weekOf ((d + k) % 7) = t then 1 else 0

theorem cnt_bound (t d : Int) : ∀ k : Nat, 0 ≤ cnt t d k ∧ cnt t d k ≤ k
  | 0 => by simp [cnt]
  | k + 1 => by
    have := cnt_bound t d k
    unfold cnt
    split <;> omega

theorem week_pair (x : Int) : (weekOf (x % 7) = 0 ∧ weekOf ((x + 1) % 7) = 0) ∨ (weekOf (x % 7) = 0 ∧ weekOf ((x + 1) % 7) = 1) ∨ (weekOf (x % 7) = 1 ∧ weekOf ((x + 1) % 7) = 2) ∨ (weekOf (x % 7) = 2 ∧ weekOf ((x + 1) % 7) = 0) := by
  have h : x % 7 = 0 ∨ x % 7 = 1 ∨ x % 7 = 2 ∨ x % 7 = 3 ∨ x % 7 = 4 ∨ x % 7 = 5 ∨ x % 7 = 6 := by omega
  rcases h with h | h | h | h | h | h | h
  · rw [h, show (x + 1) % 7 = 1 by omega]; decide
  · rw [h, show (x + 1) % 7 = 2 by omega]; decide
  · rw [h, show (x + 1) % 7 = 3 by omega]; decide
  · rw [h, show (x + 1) % 7 = 4 by omega]; decide
  · rw [h, show (x + 1) % 7 = 5 by omega]; decide
  · rw [h, show (x + 1) % 7 = 6 by omega]; decide
  · rw [h, show (x + 1) % 7 = 0 by omega]; decide

theorem week_seven (d : Int) : cnt 0 d 7 = 5 ∧ cnt 1 d 7 = 1 := by
  have h : d % 7 = 0 ∨ d % 7 = 1 ∨ d % 7 = 2 ∨ d % 7 = 3 ∨ d % 7 = 4 ∨ d % 7 = 5 ∨ d % 7 = 6 := by omega
  have e : ∀ (t : Int), cnt t d 7 = cnt t (d % 7) 7 := by
    intro t
    have : ∀ k : Nat, cnt t d k = cnt t (d % 7) k := by
      intro k
      induction k with
      | zero => rfl
      | succ k ih => unfold cnt; rw [ih, show (d + (k : Int)) % 7 = (d % 7 + (k : Int)) % 7 by omega]
    exact this 7
  rw [e, e]
  rcases h with h | h | h | h | h | h | h <;> rw [h] <;> decide

theorem cnt_step {t d x : Int} {k : Nat} (hx : d + (k : Int) = x) : cnt t d (k + 1) = cnt t d k + if weekOf (x % 7) = t then 1 else 0 := by
  rw [cnt, hx]

end Go.Proofs.Ytgjnekfmnepjeaa
