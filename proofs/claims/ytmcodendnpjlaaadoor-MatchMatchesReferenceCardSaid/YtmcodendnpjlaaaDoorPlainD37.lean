/- Chapter 37, plain: one pass more or less changes the least contradiction by at most 5. No program here. -/
import Derived.Test.YtmcodendnpjlaaaDoorPlainC37
namespace Go.Proofs.YtmcodendnpjlaaaDoor

section
variable {ok : Nat → Nat → Bool} {d : Nat → Nat → Int} {n m : Nat}
theorem VP.ne : ∀ {l1 l2 : List Pr} {p : Pr} {i used : Nat}, VP ok n m i used (l1 ++ p :: l2) → ∀ q ∈ l1 ++ l2, q.1 ≠ p.1 ∧ q.2 ≠ p.2
  | [], l2, p, i, used, h, q, hq => by
    have h1 := VP.mem h.2.2.2.2.2 hq
    have h2 := h1.2.2.2.1
    rw [bit_or, Bool.or_eq_false_iff] at h2
    exact ⟨by omega, fun e => by simp [e] at h2⟩
  | x :: l1, l2, p, i, used, h, q, hq => by
    rcases List.mem_cons.1 hq with rfl | hq
    · have h1 := VP.mem (p := p) h.2.2.2.2.2 (by simp)
      have h2 := h1.2.2.2.1
      rw [bit_or, Bool.or_eq_false_iff] at h2
      exact ⟨by omega, fun e => by simp [e] at h2⟩
    · exact VP.ne (l1 := l1) h.2.2.2.2.2 q hq
theorem VP.other {n' m' : Nat} : ∀ {l : List Pr} {i used : Nat}, VP ok n m i used l → (∀ p ∈ l, p.1 < n' ∧ p.2 < m') → VP ok n' m' i used l
  | [], _, _, _, _ => trivial
  | p :: l, _, _, h, hp => ⟨h.1, (hp p (by simp)).1, (hp p (by simp)).2, h.2.2.2.1, h.2.2.2.2.1, VP.other h.2.2.2.2.2 (fun q hq => hp q (by simp [hq]))⟩
/-- MatchOneMore, an entry. -/
theorem best_entry {f g : Fd} (hd : ∀ i j, 0 ≤ d i j) (h : Best ok d (n + 1) m 0 0 f) (h' : Best ok d n m 0 0 g) : f.cost ≤ g.cost + 5 ∧ g.cost ≤ f.cost + 5 := by
  have hv := h.valid
  have hv' := h'.valid
  have hc := h.cost
  have hc' := h'.cost
  unfold costP at hc hc'
  rw [leftE_zero] at hc hc'
  constructor
  · have h1 := h.le (hv'.other (n' := n + 1) (m' := m) (fun p hp => by have := hv'.mem hp; exact ⟨by omega, by omega⟩))
    unfold costP at h1
    rw [leftE_zero] at h1
    omega
  · by_cases hex : ∃ p ∈ f.pairs, p.1 = n
    · obtain ⟨p, hp, hpn⟩ := hex
      obtain ⟨l1, l2, e⟩ := List.append_of_mem hp
      rw [e] at hv hc
      have h1 := h'.le (hv.drop.other (n' := n) (m' := m) (fun q hq => by
        have h2 := hv.drop.mem hq
        have h3 := hv.ne q hq
        exact ⟨by omega, h2.2.2.1⟩))
      unfold costP at h1
      rw [leftE_zero] at h1
      rw [sumD_app] at h1 hc
      rw [sumD_cons] at hc
      simp only [List.length_append, List.length_cons] at h1 hc
      have := hd p.1 p.2
      omega
    · have h1 := h'.le (hv.other (n' := n) (m' := m) (fun q hq => by
        have h2 := hv.mem hq
        have h3 : q.1 ≠ n := fun e => hex ⟨q, hq, e⟩
        exact ⟨by omega, h2.2.2.1⟩))
      unfold costP at h1
      rw [leftE_zero] at h1
      omega
/-- MatchOneMore, an exit. -/
theorem best_exit {f g : Fd} (hd : ∀ i j, 0 ≤ d i j) (h : Best ok d n (m + 1) 0 0 f) (h' : Best ok d n m 0 0 g) : f.cost ≤ g.cost + 5 ∧ g.cost ≤ f.cost + 5 := by
  have hv := h.valid
  have hv' := h'.valid
  have hc := h.cost
  have hc' := h'.cost
  unfold costP at hc hc'
  rw [leftE_zero] at hc hc'
  constructor
  · have h1 := h.le (hv'.other (n' := n) (m' := m + 1) (fun p hp => by have := hv'.mem hp; exact ⟨by omega, by omega⟩))
    unfold costP at h1
    rw [leftE_zero] at h1
    omega
  · by_cases hex : ∃ p ∈ f.pairs, p.2 = m
    · obtain ⟨p, hp, hpn⟩ := hex
      obtain ⟨l1, l2, e⟩ := List.append_of_mem hp
      rw [e] at hv hc
      have h1 := h'.le (hv.drop.other (n' := n) (m' := m) (fun q hq => by
        have h2 := hv.drop.mem hq
        have h3 := hv.ne q hq
        exact ⟨h2.2.1, by omega⟩))
      unfold costP at h1
      rw [leftE_zero] at h1
      rw [sumD_app] at h1 hc
      rw [sumD_cons] at hc
      simp only [List.length_append, List.length_cons] at h1 hc
      have := hd p.1 p.2
      omega
    · have h1 := h'.le (hv.other (n' := n) (m' := m) (fun q hq => by
        have h2 := hv.mem hq
        have h3 : q.2 ≠ m := fun e => hex ⟨q, hq, e⟩
        exact ⟨h2.2.1, by omega⟩))
      unfold costP at h1
      rw [leftE_zero] at h1
      omega
end
end Go.Proofs.YtmcodendnpjlaaaDoor
