/- Chapter 37, plain: what Cost accepts is what the best pairs are compared with. No program here. -/
import Derived.Test.YtmcodendnpjlaaaDoorWn37
namespace Go.Proofs.YtmcodendnpjlaaaDoor

theorem toI_cons (p : Pr) (l : List Pr) : toI (p :: l) = ((p.1 : Int), (p.2 : Int)) :: toI l := rfl
theorem getD_set_bool {u : List Bool} {j k : Nat} (hj : j < u.length) : (u.set j true).getD k false = (u.getD k false || decide (j = k)) := by
  by_cases h : j = k
  · subst h
    simp [List.getD_eq_getElem?_getD, hj]
  · simp [List.getD_eq_getElem?_getD, h]
section
variable {E X : List Ps}
theorem costF_full (hX : X.length ≤ 8) : ∀ (l : List Pr) (i used : Nat) (u : List Bool) (b c : Int), b + 1 = (i : Int) → u.length = 8 → (∀ j, j < 8 → u.getD j false = used.testBit j) → VP (okE E X) E.length X.length i used l → costF E X b u c (toI l) = some (c + sumD (dE E X) l - 10 * (l.length : Int))
  | [], i, used, u, b, c, hb, h8, hu, hv => by simp [toI, costF, sumD]
  | p :: l, i, used, u, b, c, hb, h8, hu, hv => by
    obtain ⟨v1, v2, v3, v4, v5, v6⟩ := hv
    have hok := v5
    unfold okE at hok
    have hmn := of_decide_eq_true hok
    rw [toI_cons, costF_ok (by omega) v2 v3 (by rw [hu p.2 (by omega)]; exact v4) hmn, costF_full hX l (p.1 + 1) (used ||| 1 <<< p.2) (u.set p.2 true) p.1 _ (by omega) (by rw [List.length_set]; exact h8) (fun j hj => by rw [getD_set_bool (by omega), bit_or, hu j hj]) v6]
    rw [sumD_cons, List.length_cons]
    have : dP (E.getD p.1 Ps.zero) (X.getD p.2 Ps.zero) = dE E X p.1 p.2 := rfl
    rw [this]
    congr 1
    omega
theorem costF_sound (hX : X.length ≤ 8) : ∀ (l : List (Int × Int)) (used : Nat) (u : List Bool) (b c x : Int), -1 ≤ b → u.length = 8 → (∀ j, j < 8 → u.getD j false = used.testBit j) → costF E X b u c l = some x →
    ∃ l', l = toI l' ∧ VP (okE E X) E.length X.length (b + 1).toNat used l' ∧ x = c + sumD (dE E X) l' - 10 * (l'.length : Int)
  | [], used, u, b, c, x, hb, h8, hu, h => by
    simp only [costF, Option.some.injEq] at h
    exact ⟨[], rfl, trivial, by simp [sumD]; omega⟩
  | p :: l, used, u, b, c, x, hb, h8, hu, h => by
    simp only [costF] at h
    split at h
    · cases h
    split at h
    · cases h
    split at h
    · cases h
    split at h
    · cases h
    split at h
    · cases h
    split at h
    · cases h
    rename_i h1 h2 h3 h4 h5 h6
    obtain ⟨p1, p2⟩ := p
    obtain ⟨i, rfl⟩ : ∃ i : Nat, p1 = (i : Int) := ⟨p1.toNat, by simp only at h1; omega⟩
    obtain ⟨j, rfl⟩ : ∃ j : Nat, p2 = (j : Int) := ⟨p2.toNat, by simp only at h3; omega⟩
    simp only [Int.toNat_natCast] at h h1 h2 h3 h4 h5 h6
    have hj8 : j < 8 := by omega
    obtain ⟨l', rfl, hv, hx⟩ := costF_sound hX l (used ||| 1 <<< j) (u.set j true) i _ x (by omega) (by rw [List.length_set]; exact h8) (fun k hk => by rw [getD_set_bool (by omega), bit_or, hu k hk]) h
    refine ⟨(i, j) :: l', rfl, ⟨by simp only; omega, by simp only; omega, by simp only; omega, by simp only; rw [← hu j hj8]; simpa using h5, by unfold okE; exact decide_eq_true (by simp only; omega), ?_⟩, ?_⟩
    · have e : ((i : Int) + 1).toNat = i + 1 := by omega
      rw [e] at hv
      exact hv
    · have : dP (E.getD i Ps.zero) (X.getD j Ps.zero) = dE E X i j := rfl
      rw [sumD_cons, List.length_cons, hx, this]
      push_cast
      omega
theorem zero_bits : ∀ j, j < 8 → (List.replicate 8 false).getD j false = (0 : Nat).testBit j := fun j hj => by
  have : j = 0 ∨ j = 1 ∨ j = 2 ∨ j = 3 ∨ j = 4 ∨ j = 5 ∨ j = 6 ∨ j = 7 := by omega
  rcases this with rfl | rfl | rfl | rfl | rfl | rfl | rfl | rfl <;> rfl
theorem least_self (hv : (validP E && validP X) = true) : costO E X (toI (best E X).pairs) = some (best E X).cost := by
  have hB := best_is E X
  unfold costO
  rw [if_pos hv, costF_full (validP_len (both_valid hv).2) _ 0 0 _ (-1) _ (by omega) rfl zero_bits hB.valid, hB.cost]
  unfold costP
  rw [leftE_zero]
  congr 1
  omega

/-- A list of pairs of integers is less than another one. -/
def lessT : List (Int × Int) → List (Int × Int) → Bool
  | [], [] => false
  | [], _ :: _ => true
  | _ :: _, [] => false
  | a :: as', b :: bs => if a.1 = b.1 then (if a.2 = b.2 then lessT as' bs else decide (a.2 < b.2)) else decide (a.1 < b.1)
theorem lessT_toI : ∀ a b : List Pr, lessT (toI a) (toI b) = lessP a b
  | [], [] => rfl
  | [], _ :: _ => rfl
  | _ :: _, [] => rfl
  | (a1, a2) :: as', (b1, b2) :: bs => by
    have ih := lessT_toI as' bs
    rw [toI_cons, toI_cons]
    simp only [lessT, lessP, ih]
    by_cases h1 : a1 = b1 <;> by_cases h2 : a2 = b2 <;> simp [h1, h2] <;> omega
theorem least_other (hv : (validP E && validP X) = true) {l : List (Int × Int)} {x : Int} (h : costO E X l = some x) : (best E X).cost < x ∨ (x = (best E X).cost ∧ lessT l (toI (best E X).pairs) = false) := by
  have hB := best_is E X
  unfold costO at h
  rw [if_pos hv] at h
  obtain ⟨l', rfl, hv', hx⟩ := costF_sound (validP_len (both_valid hv).2) l 0 _ (-1) _ x (by omega) rfl zero_bits h
  have hv0 : VP (okE E X) E.length X.length 0 0 l' := hv'
  have hl := hB.least l' hv0
  have hc : costP (dE E X) E.length X.length 0 0 l' = x := by
    unfold costP
    rw [leftE_zero, hx]
    omega
  rw [hc] at hl
  unfold Fd.less at hl
  split at hl
  · rename_i h1
    exact .inr ⟨h1, by rw [lessT_toI]; exact hl⟩
  · rename_i h1
    simp only [decide_eq_false_iff_not] at hl h1
    exact .inl (by omega)
end
end Go.Proofs.YtmcodendnpjlaaaDoor
