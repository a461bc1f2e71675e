/- The energy of the slices is that between two readings, in plain. -/
import Derived.Test.YtkfmmiekajgdjaaGreatWr43
namespace Go.Proofs.YtkfmmiekajgdjaaGreat
open Go.RowKit

/-- The number of the last of the first k readings whose minute is at most m. -/
def atN (l : List Rd) (m : Int) : Nat → Nat
  | 0 => 0
  | k + 1 => if (getR l k).m ≤ m then k + 1 else atN l m k
theorem atN_le (l : List Rd) (m : Int) : ∀ k, atN l m k ≤ k
  | 0 => Nat.le_refl _
  | k + 1 => by
    have := atN_le l m k
    unfold atN
    split <;> omega
theorem atN_after (l : List Rd) (m : Int) : ∀ k i, atN l m k ≤ i → i < k → m < (getR l i).m
  | 0, i, _, h => absurd h (Nat.not_lt_zero _)
  | k + 1, i, h1, h2 => by
    unfold atN at h1
    split at h1
    · omega
    · next hk =>
      by_cases e : i = k
      · subst e; omega
      · exact atN_after l m k i h1 (by omega)
theorem atN_in (l : List Rd) (m : Int) : ∀ k, 0 < atN l m k → (getR l (atN l m k - 1)).m ≤ m
  | 0, h => absurd h (Nat.lt_irrefl _)
  | k + 1, h => by
    have e : atN l m (k + 1) = if (getR l k).m ≤ m then k + 1 else atN l m k := rfl
    rw [e] at h ⊢
    split
    · next hk => exact hk
    · next hk =>
      rw [if_neg hk] at h
      exact atN_in l m k h
theorem sumL_snoc (l : List (Int × Int)) (x : Int × Int) : sumL (l ++ [x]) = sumL l + x.2 := by unfold sumL; rw [List.foldl_append]; rfl
theorem sumL_addP (m en : Int) (st : Int × List (Int × Int)) : sumL (addP m en st).2 = sumL st.2 + en := by
  unfold addP
  split
  · omega
  · split
    · next h =>
      obtain ⟨e, l⟩ := st
      dsimp only at h ⊢
      rcases List.eq_nil_or_concat l with rfl | ⟨l', x, rfl⟩
      · exact absurd h.1 (by simp)
      · rw [List.concat_eq_append]
        have e1 : (l' ++ [x]).length - 1 = l'.length := by simp
        rw [e1, List.set_append_right _ _ (Nat.le_refl _), Nat.sub_self]
        have e2 : (l' ++ [x]).getD l'.length (0, 0) = x := by simp [List.getD_eq_getElem?_getD]
        rw [e2]
        show sumL (l' ++ [(m, x.2 + en)]) = _
        rw [sumL_snoc, sumL_snoc]
        omega
    · rw [sumL_snoc]
theorem sum_derP {l : List Rd} (h : ChOk l) : ∀ k, k < l.length → sumL (derP l k).2 = energy l (atN l (derF l) l.length) (k + 1 - atN l (derF l) l.length)
  | 0, hk => by
    have hA : 1 ≤ atN l (derF l) l.length := by
      rcases Nat.eq_zero_or_pos (atN l (derF l) l.length) with h0 | h0
      · have := atN_after l (derF l) l.length 0 (by omega) hk
        unfold derF at this
        omega
      · exact h0
    rw [show 0 + 1 - atN l (derF l) l.length = 0 by omega]
    rfl
  | k + 1, hk => by
    have ih := sum_derP h k (by omega)
    have hAl := atN_le l (derF l) l.length
    obtain ⟨A, hA⟩ : ∃ A, atN l (derF l) l.length = A := ⟨_, rfl⟩
    have haft := atN_after l (derF l) l.length (k + 1)
    have hin := atN_in l (derF l) l.length
    rw [hA] at ih hAl haft hin ⊢
    by_cases hle : A ≤ k + 1
    · have hm := haft hle hk
      have e : k + 1 + 1 - A = (k + 1 - A) + 1 := by omega
      rw [e]
      show _ = energy l A (k + 1 - A) + gain (getR l (A + (k + 1 - A) - 1)) (getR l (A + (k + 1 - A)))
      rw [show A + (k + 1 - A) - 1 = k by omega, show A + (k + 1 - A) = k + 1 by omega, ← ih]
      rw [show derP l (k + 1) = (if (getR l (k + 1)).s = (getR l k).s ∧ (getR l 0).m < (getR l (k + 1)).m then addP ((getR l (k + 1)).m - 1) ((getR l (k + 1)).r - (getR l k).r) (derP l k) else derP l k) from rfl]
      unfold gain
      by_cases hs : (getR l (k + 1)).s = (getR l k).s
      · rw [if_pos ⟨hs, hm⟩, sumL_addP]
        first | rw [if_pos hs] | rw [if_pos hs.symm]
      · rw [if_neg (fun hh => hs hh.1)]
        first | rw [if_neg hs] | rw [if_neg (Ne.symm hs)]
        omega
    · have hm : (getR l (k + 1)).m ≤ derF l := Int.le_trans (h.mono (j := k + 1) (k := A - 1) (by omega) (by omega)) (hin (by omega))
      rw [show k + 1 + 1 - A = 0 by omega]
      rw [show k + 1 - A = 0 by omega] at ih
      rw [show derP l (k + 1) = (if (getR l (k + 1)).s = (getR l k).s ∧ (getR l 0).m < (getR l (k + 1)).m then addP ((getR l (k + 1)).m - 1) ((getR l (k + 1)).r - (getR l k).r) (derP l k) else derP l k) from rfl]
      rw [if_neg (fun hh => by have := hh.2; unfold derF at hm; omega)]
      exact ih
/-- The energy of all slices is that from the last reading in the first minute on. -/
theorem sum_derL {l : List Rd} (h : ChOk l) : sumL (derL l) = energy l (atN l (derF l) l.length) (l.length - atN l (derF l) l.length) := by
  have hn := h.n1
  have := sum_derP h (l.length - 1) (by omega)
  rw [show l.length - 1 + 1 = l.length by omega] at this
  exact this
end Go.Proofs.YtkfmmiekajgdjaaGreat
