/- Chapter 37, plain: time turned round. No program here. -/
import Derived.Test.YtmcodendnpjlaaaDoorPlainE37
namespace Go.Proofs.YtmcodendnpjlaaaDoor

section
variable {ok : Nat → Nat → Bool} {d : Nat → Nat → Int} {n m : Nat}
/-- Pairs in any order. -/
structure Mt (ok : Nat → Nat → Bool) (n m : Nat) (l : List Pr) : Prop where
  mem : ∀ p ∈ l, p.1 < n ∧ p.2 < m ∧ ok p.1 p.2 = true
  ne : l.Pairwise (fun p q => p.1 ≠ q.1 ∧ p.2 ≠ q.2)
theorem VP.mt : ∀ {l : List Pr} {i used : Nat}, VP ok n m i used l → Mt ok n m l
  | [], _, _, _ => ⟨fun _ hp => (by cases hp), List.Pairwise.nil⟩
  | p :: l, i, used, h => ⟨fun q hq => by have := VP.mem h hq; exact ⟨this.2.1, this.2.2.1, this.2.2.2.2⟩, List.pairwise_cons.2 ⟨fun q hq => by
      have := VP.ne (l1 := []) h q hq
      exact ⟨fun e => this.1 e.symm, fun e => this.2 e.symm⟩, (VP.mt h.2.2.2.2.2).ne⟩⟩
theorem VP.of_sorted : ∀ {l : List Pr} {i used : Nat}, (∀ p ∈ l, i ≤ p.1 ∧ p.1 < n ∧ p.2 < m ∧ used.testBit p.2 = false ∧ ok p.1 p.2 = true) → l.Pairwise (fun p q => p.1 < q.1 ∧ p.2 ≠ q.2) → VP ok n m i used l
  | [], _, _, _, _ => trivial
  | p :: l, i, used, h, hp => by
    rw [List.pairwise_cons] at hp
    have h1 := h p (by simp)
    refine ⟨h1.1, h1.2.1, h1.2.2.1, h1.2.2.2.1, h1.2.2.2.2, VP.of_sorted (fun q hq => ?_) hp.2⟩
    have h2 := h q (by simp [hq])
    have h3 := hp.1 q hq
    refine ⟨by omega, h2.2.1, h2.2.2.1, ?_, h2.2.2.2.2⟩
    rw [bit_or, h2.2.2.2.1, decide_eq_false h3.2]
    rfl
theorem Mt.perm {l l' : List Pr} (h : Mt ok n m l) (hp : l'.Perm l) : Mt ok n m l' :=
  ⟨fun p hm => h.mem p (hp.mem_iff.1 hm), (hp.pairwise_iff (fun h => ⟨fun e => h.1 e.symm, fun e => h.2 e.symm⟩)).2 h.ne⟩
theorem Mt.sort {l : List Pr} (h : Mt ok n m l) : ∃ l', l'.Perm l ∧ VP ok n m 0 0 l' := by
  have hp := List.mergeSort_perm l (fun a b => decide (a.1 ≤ b.1))
  have hs := List.pairwise_mergeSort (le := fun a b : Pr => decide (a.1 ≤ b.1)) (fun a b c h1 h2 => by simp at h1 h2 ⊢; omega) (fun a b => by simp; omega) l
  have h' := h.perm hp
  refine ⟨_, hp, VP.of_sorted (fun p hm => ?_) ?_⟩
  · have := h'.mem p hm
    exact ⟨Nat.zero_le _, this.1, this.2.1, by simp, this.2.2⟩
  · exact hs.imp₂ (fun a b h1 h2 => ⟨by have := h2.1; simp at h1; omega, h2.2⟩) h'.ne
theorem sumD_perm {l l' : List Pr} (h : l'.Perm l) : sumD d l' = sumD d l := by
  unfold sumD
  induction h with
  | nil => rfl
  | cons x _ ih => simp [ih]
  | swap x y l => simp; omega
  | trans _ _ ih1 ih2 => exact ih1.trans ih2
theorem Best.le_mt {f : Fd} (h : Best ok d n m 0 0 f) {l : List Pr} (hl : Mt ok n m l) : f.cost ≤ 5 * (n : Int) + 5 * m - 10 * (l.length : Nat) + sumD d l := by
  obtain ⟨l', hp, hv⟩ := hl.sort
  have := h.le hv
  unfold costP at this
  rw [leftE_zero, sumD_perm hp, hp.length_eq] at this
  simpa using this
def turnP (n m : Nat) (p : Pr) : Pr := (m - 1 - p.2, n - 1 - p.1)
theorem turn_le {ok' : Nat → Nat → Bool} {d' : Nat → Nat → Int} {f g : Fd} (h : Best ok d n m 0 0 f) (h' : Best ok' d' m n 0 0 g) (ho : ∀ i j, i < n → j < m → ok i j = true → ok' (m - 1 - j) (n - 1 - i) = true) (hd : ∀ i j, i < n → j < m → d' (m - 1 - j) (n - 1 - i) = d i j) : g.cost ≤ f.cost := by
  have hm := h.valid.mt
  have hmt : Mt ok' m n (f.pairs.map (turnP n m)) := by
    refine ⟨fun p hp => ?_, ?_⟩
    · obtain ⟨q, hq, rfl⟩ := List.mem_map.1 hp
      have := hm.mem q hq
      exact ⟨by simp only [turnP]; omega, by simp only [turnP]; omega, ho _ _ this.1 this.2.1 this.2.2⟩
    · rw [List.pairwise_map]
      refine hm.ne.imp_of_mem (fun {p q} hp hq hne => ?_)
      have h1 := hm.mem p hp
      have h2 := hm.mem q hq
      exact ⟨by simp only [turnP]; omega, by simp only [turnP]; omega⟩
  have h1 := h'.le_mt hmt
  have h2 := h.cost
  unfold costP at h2
  rw [leftE_zero] at h2
  have h3 : sumD d' (f.pairs.map (turnP n m)) = sumD d f.pairs := by
    unfold sumD
    rw [List.map_map]
    congr 1
    apply List.map_congr_left
    intro p hp
    have := hm.mem p hp
    exact hd _ _ this.1 this.2.1
  rw [h3, List.length_map] at h1
  omega
end
end Go.Proofs.YtmcodendnpjlaaaDoor
