/- Chapter 37, plain: pairs without a contradiction. No program here. -/
import Derived.Test.YtmcodendnpjlaaaDoorPlainD37
namespace Go.Proofs.YtmcodendnpjlaaaDoor

section
variable {ok : Nat → Nat → Bool} {d : Nat → Nat → Int} {n m : Nat}
/-- As many pairs as entries: the k-th pair is that of the k-th entry. -/
theorem VP.full : ∀ {l : List Pr} {i used : Nat}, VP ok n m i used l → l.length = n - i → ∀ k, k < l.length → (l.getD k (0, 0)).1 = i + k
  | [], _, _, _, _, k, hk => by simp at hk
  | p :: l, i, used, h, hl, k, hk => by
    have h1 := VP.len_n h.2.2.2.2.2
    have h2 := h.1
    have h3 := h.2.1
    simp only [List.length_cons] at hl hk
    have hpi : p.1 = i := by omega
    cases k with
    | zero => simpa using hpi
    | succ k =>
      have := VP.full h.2.2.2.2.2 (by omega) k (by omega)
      simp only [List.getD_cons_succ]
      omega
theorem sumD_zero (hd : ∀ i j, 0 ≤ d i j) : ∀ {l : List Pr}, sumD d l = 0 → ∀ p ∈ l, d p.1 p.2 = 0
  | [], _, _, hp => by cases hp
  | q :: l, h, p, hp => by
    rw [sumD_cons] at h
    have h1 := hd q.1 q.2
    have h2 := sumD_pos hd l
    rcases List.mem_cons.1 hp with rfl | hp
    · omega
    · exact sumD_zero hd (by omega) p hp
/-- MatchRight: if some pairs have the contradiction 0, the best ones have, pair every entry, and each pair is exact. -/
theorem best_zero {f : Fd} {l : List Pr} (hd : ∀ i j, 0 ≤ d i j) (h : Best ok d n n 0 0 f) (hl : VP ok n n 0 0 l) (hc : costP d n n 0 0 l = 0) :
    f.cost = 0 ∧ f.pairs.length = n ∧ ∀ k, k < n → (f.pairs.getD k (0, 0)).1 = k ∧ (f.pairs.getD k (0, 0)).2 < n ∧ d k (f.pairs.getD k (0, 0)).2 = 0 := by
  have h1 := h.le hl
  have h2 := h.cost
  have h3 := h.valid.len_n
  have h4 := sumD_pos hd f.pairs
  unfold costP at h2
  rw [leftE_zero] at h2
  have h5 : f.pairs.length = n := by omega
  have h6 : sumD d f.pairs = 0 := by omega
  refine ⟨by omega, h5, fun k hk => ?_⟩
  have h7 := h.valid.full (by omega) k (by omega)
  have hmem : f.pairs.getD k (0, 0) ∈ f.pairs := by
    rw [List.getD_eq_getElem?_getD, List.getElem?_eq_getElem (by omega)]
    exact List.getElem_mem (by omega)
  have h8 := sumD_zero hd h6 _ hmem
  have h9 := h.valid.mem hmem
  rw [Nat.zero_add] at h7
  rw [h7] at h8
  exact ⟨h7, h9.2.2.1, h8⟩
theorem sumD_mem (hd : ∀ i j, 0 ≤ d i j) : ∀ {l : List Pr}, ∀ p ∈ l, d p.1 p.2 ≤ sumD d l
  | [], _, hp => by cases hp
  | q :: l, p, hp => by
    rw [sumD_cons]
    have h1 := hd q.1 q.2
    have h2 := sumD_pos hd l
    rcases List.mem_cons.1 hp with rfl | hp
    · omega
    · have := sumD_mem hd p hp
      omega
/-- MatchMisread: if some pairs have a contradiction of at most 9, the best ones pair every entry, and no pair has more than this. -/
theorem best_few {f : Fd} {l : List Pr} {c : Int} (hd : ∀ i j, 0 ≤ d i j) (h : Best ok d n n 0 0 f) (hl : VP ok n n 0 0 l) (hc : costP d n n 0 0 l = c) (h9 : c ≤ 9) :
    f.cost ≤ c ∧ f.cost = sumD d f.pairs ∧ f.pairs.length = n ∧ ∀ k, k < n → (f.pairs.getD k (0, 0)).1 = k ∧ (f.pairs.getD k (0, 0)).2 < n ∧ d k (f.pairs.getD k (0, 0)).2 ≤ f.cost := by
  have h1 := h.le hl
  have h2 := h.cost
  have h3 := h.valid.len_n
  have h4 := sumD_pos hd f.pairs
  unfold costP at h2
  rw [leftE_zero] at h2
  have h5 : f.pairs.length = n := by omega
  have h6 : f.cost = sumD d f.pairs := by omega
  refine ⟨by omega, h6, h5, fun k hk => ?_⟩
  have h7 := h.valid.full (by omega) k (by omega)
  have hmem : f.pairs.getD k (0, 0) ∈ f.pairs := by
    rw [List.getD_eq_getElem?_getD, List.getElem?_eq_getElem (by omega)]
    exact List.getElem_mem (by omega)
  have h8 := sumD_mem hd _ hmem
  have h9 := h.valid.mem hmem
  rw [Nat.zero_add] at h7
  rw [h7] at h8
  exact ⟨h7, h9.2.2.1, by omega⟩
end
end Go.Proofs.YtmcodendnpjlaaaDoor
