/- Chapter 37, plain: time turned round. No program here. -/
import Derived.Test.YtmcodendnpjlaaaDoorWn37
import Derived.Test.YtmcodendnpjlaaaDoorPlainF37
namespace Go.Proofs.YtmcodendnpjlaaaDoor

def tp (p : Ps) : Ps := ⟨p.s, 52560000 - p.mn⟩
def turnL (l : List Ps) : List Ps := l.reverse.map tp
theorem turnL_len (l : List Ps) : (turnL l).length = l.length := by simp [turnL]
theorem turnL_get {l : List Ps} {i : Nat} (h : i < l.length) : (turnL l).getD i Ps.zero = tp (l.getD (l.length - 1 - i) Ps.zero) := by
  have h2 : l.length - 1 - i < l.length := by omega
  simp [turnL, List.getD_eq_getElem?_getD, h, h2]
theorem validFrom_iff : ∀ {l : List Ps} {b : Int}, validFrom b l = true ↔ (∀ p ∈ l, validS p.s = true ∧ b ≤ p.mn ∧ p.mn ≤ 52560000) ∧ l.Pairwise (fun p q => p.mn ≤ q.mn)
  | [], b => by simp [validFrom]
  | p :: l, b => by
    simp only [validFrom, Bool.and_eq_true, Bool.not_eq_true', decide_eq_false_iff_not, List.pairwise_cons, List.mem_cons, forall_eq_or_imp]
    rw [validFrom_iff (l := l) (b := p.mn)]
    constructor
    · rintro ⟨⟨⟨h1, h2⟩, h3⟩, h4, h5⟩
      exact ⟨⟨⟨h1, by omega, by omega⟩, fun q hq => ⟨(h4 q hq).1, by have := (h4 q hq).2.1; omega, (h4 q hq).2.2⟩⟩, fun q hq => (h4 q hq).2.1, h5⟩
    · rintro ⟨⟨⟨h1, h2, h3⟩, h4⟩, h5, h6⟩
      exact ⟨⟨⟨h1, by omega⟩, by omega⟩, fun q hq => ⟨(h4 q hq).1, h5 q hq, (h4 q hq).2.2⟩, h6⟩
theorem validP_bounds {l : List Ps} (h : validP l = true) : ∀ p ∈ l, 0 ≤ p.mn ∧ p.mn ≤ 52560000 := fun p hp => by
  simp only [validP, Bool.and_eq_true] at h
  have := (validFrom_iff.1 h.2).1 p hp
  exact ⟨this.2.1, this.2.2⟩
theorem validP_turn {l : List Ps} (h : validP l = true) : validP (turnL l) = true := by
  simp only [validP, Bool.and_eq_true, decide_eq_true_eq] at h ⊢
  obtain ⟨h1, h2⟩ := h
  obtain ⟨h3, h4⟩ := validFrom_iff.1 h2
  refine ⟨by rw [turnL_len]; exact h1, validFrom_iff.2 ⟨fun p hp => ?_, ?_⟩⟩
  · obtain ⟨q, hq, rfl⟩ := List.mem_map.1 hp
    have := h3 q (List.mem_reverse.1 hq)
    exact ⟨this.1, by simp only [tp]; omega, by simp only [tp]; omega⟩
  · unfold turnL
    rw [List.pairwise_map, List.pairwise_reverse]
    exact h4.imp (fun {a b} hab => by simp only [tp]; omega)
theorem dP_comm (p q : Ps) : dP p q = dP q p := by
  unfold dP
  rw [Bool.and_comm, E_symm]
theorem dP_tp (p q : Ps) : dP (tp p) (tp q) = dP p q := rfl
theorem turned_cost (EE X : List Ps) : (best EE X).cost = (best (turnL X) (turnL EE)).cost := by
  have h1 := best_is EE X
  have h2 := best_is (turnL X) (turnL EE)
  rw [turnL_len, turnL_len] at h2
  refine Int.le_antisymm ?_ ?_
  · refine turn_le h2 h1 (fun i j hi hj h => ?_) (fun i j hi hj => ?_)
    · unfold okE at h ⊢
      rw [turnL_get hi, turnL_get hj, decide_eq_true_eq] at h
      rw [decide_eq_true_eq]
      simp only [tp] at h
      omega
    · unfold dE
      rw [turnL_get hi, turnL_get hj, dP_tp, dP_comm]
  · refine turn_le h1 h2 (fun i j hi hj h => ?_) (fun i j hi hj => ?_)
    · unfold okE at h ⊢
      rw [turnL_get (by omega), turnL_get (by omega), decide_eq_true_eq]
      rw [decide_eq_true_eq] at h
      rw [show X.length - 1 - (X.length - 1 - j) = j by omega, show EE.length - 1 - (EE.length - 1 - i) = i by omega]
      simp only [tp]
      omega
    · unfold dE
      rw [turnL_get (by omega), turnL_get (by omega), show X.length - 1 - (X.length - 1 - j) = j by omega, show EE.length - 1 - (EE.length - 1 - i) = i by omega, dP_tp, dP_comm]
end Go.Proofs.YtmcodendnpjlaaaDoor
