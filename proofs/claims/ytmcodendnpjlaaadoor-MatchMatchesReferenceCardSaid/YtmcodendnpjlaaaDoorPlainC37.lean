/- Chapter 37, plain: bounds of the least contradiction; no pair of the best pairs is far. No program here. -/
import Derived.Test.YtmcodendnpjlaaaDoorPlainB37
namespace Go.Proofs.YtmcodendnpjlaaaDoor

section
variable {ok : Nat → Nat → Bool} {d : Nat → Nat → Int} {n m : Nat}
theorem Best.le {i used : Nat} {f : Fd} (h : Best ok d n m i used f) {l : List Pr} (hl : VP ok n m i used l) : f.cost ≤ costP d n m i used l := by
  have := h.least l hl
  unfold Fd.less at this
  split at this
  · simp only at *; omega
  · simp at this; omega
theorem leftE_zero (m : Nat) : leftE m 0 = m := by
  unfold leftE
  rw [List.filter_eq_self.2 (fun k _ => by simp), List.length_range]
theorem VP.freer : ∀ {l : List Pr} {i used used' : Nat}, VP ok n m i used l → (∀ k, used.testBit k = false → used'.testBit k = false) → VP ok n m i used' l
  | [], _, _, _, _, _ => trivial
  | p :: l, _, used, used', h, hu => ⟨h.1, h.2.1, h.2.2.1, hu _ h.2.2.2.1, h.2.2.2.2.1, VP.freer h.2.2.2.2.2 (fun k hk => by
      rw [bit_or, Bool.or_eq_false_iff] at hk ⊢
      exact ⟨hu k hk.1, hk.2⟩)⟩
theorem VP.drop : ∀ {l1 l2 : List Pr} {p : Pr} {i used : Nat}, VP ok n m i used (l1 ++ p :: l2) → VP ok n m i used (l1 ++ l2)
  | [], l2, p, i, used, h => (VP.freer (h.2.2.2.2.2.mono (i' := i) (by have := h.1; omega)) (fun k hk => by
      rw [bit_or, Bool.or_eq_false_iff] at hk
      exact hk.1))
  | q :: l1, l2, p, i, used, h => ⟨h.1, h.2.1, h.2.2.1, h.2.2.2.1, h.2.2.2.2.1, VP.drop (l1 := l1) h.2.2.2.2.2⟩
theorem VP.mem : ∀ {l : List Pr} {i used : Nat} {p : Pr}, VP ok n m i used l → p ∈ l → i ≤ p.1 ∧ p.1 < n ∧ p.2 < m ∧ used.testBit p.2 = false ∧ ok p.1 p.2 = true
  | [], _, _, _, _, hp => by cases hp
  | q :: l, i, used, p, h, hp => by
    rcases List.mem_cons.1 hp with rfl | hp
    · exact ⟨h.1, h.2.1, h.2.2.1, h.2.2.2.1, h.2.2.2.2.1⟩
    · have h1 := VP.mem h.2.2.2.2.2 hp
      have h2 := h1.2.2.2.1
      rw [bit_or, Bool.or_eq_false_iff] at h2
      exact ⟨by have := h.1; omega, h1.2.1, h1.2.2.1, h2.1, h1.2.2.2.2⟩
theorem VP.len_n : ∀ {l : List Pr} {i used : Nat}, VP ok n m i used l → l.length ≤ n - i
  | [], _, _, _ => Nat.zero_le _
  | p :: l, i, used, h => by
    have h1 := VP.len_n h.2.2.2.2.2
    have := h.1
    have := h.2.1
    simp only [List.length_cons]
    omega
theorem VP.len_m : ∀ {l : List Pr} {i used : Nat}, VP ok n m i used l → l.length ≤ leftE m used
  | [], _, _, _ => Nat.zero_le _
  | p :: l, i, used, h => by
    have h1 := VP.len_m h.2.2.2.2.2
    have := leftE_use h.2.2.1 h.2.2.2.1
    simp only [List.length_cons]
    omega
theorem sumD_app (l1 l2 : List Pr) : sumD d (l1 ++ l2) = sumD d l1 + sumD d l2 := by simp [sumD]
theorem sumD_cons (p : Pr) (l : List Pr) : sumD d (p :: l) = d p.1 p.2 + sumD d l := by simp [sumD]
theorem sumD_pos (hd : ∀ i j, 0 ≤ d i j) : ∀ l, 0 ≤ sumD d l
  | [] => by simp [sumD]
  | p :: l => by rw [sumD_cons]; have := hd p.1 p.2; have := sumD_pos hd l; omega
/-- MatchBounds. -/
theorem best_bounds {f : Fd} (hd : ∀ i j, 0 ≤ d i j) (h : Best ok d n m 0 0 f) : f.cost ≤ 5 * ((n : Int) + m) ∧ 5 * (max (n : Int) m - min (n : Int) m) ≤ f.cost ∧ f.pairs.length ≤ min n m := by
  have h1 := h.le (l := []) trivial
  have h2 := h.valid.len_n
  have h3 := h.valid.len_m
  have h4 := sumD_pos hd f.pairs
  have h5 := h.cost
  unfold costP at h1 h5
  rw [leftE_zero] at h1 h3 h5
  simp only [sumD, List.length_nil, List.map_nil, List.sum_nil] at h1
  refine ⟨by omega, ?_, by omega⟩
  omega
/-- MatchFar. -/
theorem best_far {i used : Nat} {f : Fd} (h : Best ok d n m i used f) {p : Pr} (hp : p ∈ f.pairs) : d p.1 p.2 ≤ 10 := by
  obtain ⟨l1, l2, e⟩ := List.append_of_mem hp
  have hv := h.valid
  rw [e] at hv
  have h1 := h.le hv.drop
  have h2 := h.cost
  rw [e] at h2
  unfold costP at h1 h2
  rw [sumD_app] at h1 h2
  rw [sumD_cons] at h2
  simp only [List.length_append, List.length_cons] at h1 h2
  omega
end
end Go.Proofs.YtmcodendnpjlaaaDoor
