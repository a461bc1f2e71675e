/- Chapter 37, plain: what lst finds is valid, and nothing is better. No program here. -/
import Derived.Test.YtmcodendnpjlaaaDoorPlain37
namespace Go.Proofs.YtmcodendnpjlaaaDoor

theorem bit_or {used j k : Nat} : (used ||| 1 <<< j).testBit k = (used.testBit k || decide (j = k)) := by
  rw [Nat.testBit_or, Nat.one_shiftLeft, Nat.testBit_two_pow]
theorem filter_one {p q : Nat → Bool} {j : Nat} (hq : ∀ k, q k = (p k && !decide (j = k))) (hp : p j = true) : ∀ m, j < m → ((List.range m).filter p).length = ((List.range m).filter q).length + 1 := by
  have hno : ∀ m, m ≤ j → (List.range m).filter p = (List.range m).filter q := fun m hm => by
    apply List.filter_congr
    intro k hk
    have := List.mem_range.1 hk
    rw [hq k, decide_eq_false (by omega)]
    simp
  intro m
  induction m with
  | zero => intro h; omega
  | succ m ih =>
    intro h
    rw [List.range_succ, List.filter_append, List.filter_append, List.length_append, List.length_append]
    by_cases hjm : j < m
    · have h1 := ih hjm
      have h2 : q m = p m := by rw [hq m, decide_eq_false (by omega)]; simp
      simp only [List.filter_cons, List.filter_nil, h2]
      omega
    · obtain rfl : j = m := by omega
      have h2 : q j = false := by rw [hq j]; simp
      simp only [List.filter_cons, List.filter_nil, h2, hp, hno j (Nat.le_refl _)]
      simp
theorem leftE_use {m used j : Nat} (hj : j < m) (hu : used.testBit j = false) : leftE m used = leftE m (used ||| 1 <<< j) + 1 := by
  unfold leftE
  exact filter_one (p := fun j => !used.testBit j) (q := fun k => !(used ||| 1 <<< j).testBit k) (fun k => by rw [bit_or, Bool.not_or]) (by simp [hu]) m hj

section
variable {ok : Nat → Nat → Bool} {d : Nat → Nat → Int} {n m : Nat}
theorem VP.mono : ∀ {l : List Pr} {i i' used : Nat}, VP ok n m i used l → i' ≤ i → VP ok n m i' used l
  | [], _, _, _, _, _ => trivial
  | _ :: _, _, _, _, h, hi => ⟨Nat.le_trans hi h.1, h.2⟩
theorem costP_cons {i used j : Nat} {l : List Pr} (hi : i < n) (hj : j < m) (hu : used.testBit j = false) : costP d n m i used ((i, j) :: l) = costP d n m (i + 1) (used ||| 1 <<< j) l + d i j := by
  unfold costP sumD
  rw [leftE_use hj hu]
  simp only [List.length_cons, List.map_cons, List.sum_cons]
  omega
theorem costP_skip {i used : Nat} {l : List Pr} (hi : i < n) : costP d n m i used l = costP d n m (i + 1) used l + 5 := by
  unfold costP
  omega
theorem less_cons {p : Pr} {f g : Fd} {c : Int} (h : f.less g = false) : Fd.less ⟨p :: f.pairs, f.cost + c⟩ ⟨p :: g.pairs, g.cost + c⟩ = false := by
  unfold Fd.less at h ⊢
  simp only [lessP, if_true]
  split at h
  · rw [if_pos (by omega)]; exact h
  · rw [if_neg (by omega)]
    simp at h ⊢; omega
theorem less_five {f g : Fd} (h : f.less g = false) : Fd.less ⟨f.pairs, f.cost + 5⟩ ⟨g.pairs, g.cost + 5⟩ = false := by
  unfold Fd.less at h ⊢
  split at h
  · rw [if_pos (by simp only; omega)]; exact h
  · rw [if_neg (by simp only; omega)]
    simp at h ⊢; omega

/-- What it is to be best. -/
structure Best (ok : Nat → Nat → Bool) (d : Nat → Nat → Int) (n m i used : Nat) (f : Fd) : Prop where
  valid : VP ok n m i used f.pairs
  cost : f.cost = costP d n m i used f.pairs
  least : ∀ l, VP ok n m i used l → Fd.less ⟨l, costP d n m i used l⟩ f = false

/-- The loop over the exits. -/
theorem picks {e used : Nat} {rec : Nat → Fd} (he : e < n) (h0 : Best ok d n m (e + 1) used (rec used)) (hrec : ∀ j, j < m → used.testBit j = false → Best ok d n m (e + 1) (used ||| 1 <<< j) (rec (used ||| 1 <<< j))) :
    ∀ t, t ≤ m → ∃ f, (List.range t).foldl (pick ok d e used rec) ⟨(rec used).pairs, (rec used).cost + 5⟩ = f ∧ VP ok n m e used f.pairs ∧ f.cost = costP d n m e used f.pairs ∧
      (∀ l, VP ok n m (e + 1) used l → Fd.less ⟨l, costP d n m e used l⟩ f = false) ∧
      (∀ j, j < t → used.testBit j = false → ok e j = true → ∀ l, VP ok n m (e + 1) (used ||| 1 <<< j) l → Fd.less ⟨(e, j) :: l, costP d n m e used ((e, j) :: l)⟩ f = false) := by
  intro t
  induction t with
  | zero =>
    intro _
    refine ⟨_, rfl, h0.valid.mono (by omega), ?_, fun l hl => ?_, fun j hj => absurd hj (by omega)⟩
    · show (rec used).cost + 5 = costP d n m e used (rec used).pairs
      rw [costP_skip he, h0.cost]
    · rw [costP_skip he]
      exact less_five (h0.least l hl)
  | succ t ih =>
    intro ht
    obtain ⟨f, hf, hv, hc, h1, h2⟩ := ih (by omega)
    rw [List.range_succ, List.foldl_append, hf]
    simp only [List.foldl_cons, List.foldl_nil]
    unfold pick
    by_cases hu : (used.testBit t || !ok e t) = true
    · rw [if_pos hu]
      refine ⟨f, rfl, hv, hc, h1, fun j hj hj1 hj2 l hl => ?_⟩
      by_cases hjt : j = t
      · subst hjt
        simp [hj1, hj2] at hu
      · exact h2 j (by omega) hj1 hj2 l hl
    · rw [if_neg hu]
      simp only [Bool.or_eq_true, Bool.not_eq_true', not_or, Bool.not_eq_true, Bool.not_eq_false] at hu
      have hB := hrec t (by omega) hu.1
      obtain ⟨g, hg⟩ : ∃ g : Fd, (⟨(e, t) :: (rec (used ||| 1 <<< t)).pairs, (rec (used ||| 1 <<< t)).cost + d e t⟩ : Fd) = g := ⟨_, rfl⟩
      have hgv : VP ok n m e used g.pairs := by rw [← hg]; exact ⟨Nat.le_refl _, he, by omega, hu.1, hu.2, hB.valid⟩
      have hgc : g.cost = costP d n m e used g.pairs := by rw [← hg]; simp only; rw [costP_cons he (by omega) hu.1, hB.cost]
      have hgl : ∀ l, VP ok n m (e + 1) (used ||| 1 <<< t) l → Fd.less ⟨(e, t) :: l, costP d n m e used ((e, t) :: l)⟩ g = false := fun l hl => by
        rw [← hg, costP_cons he (by omega) hu.1]
        exact less_cons (hB.least l hl)
      rw [hg]
      by_cases hl : g.less f = true
      · rw [if_pos hl]
        have hfg := less_asymm hl
        refine ⟨g, rfl, hgv, hgc, fun l h => nless_trans (h1 l h) hfg, fun j hj hj1 hj2 l h => ?_⟩
        by_cases hjt : j = t
        · subst hjt; exact hgl l h
        · exact nless_trans (h2 j (by omega) hj1 hj2 l h) hfg
      · rw [if_neg hl]
        refine ⟨f, rfl, hv, hc, h1, fun j hj hj1 hj2 l h => ?_⟩
        by_cases hjt : j = t
        · subst hjt; exact nless_trans (hgl l h) (by simpa using hl)
        · exact h2 j (by omega) hj1 hj2 l h

theorem lst_best : ∀ k, k ≤ n → ∀ used, Best ok d n m (n - k) used (lst ok d n m k used) := by
  intro k
  induction k with
  | zero =>
    intro _ used
    have hnil : ∀ l, VP ok n m n used l → l = [] := fun l hl => by
      cases l with
      | nil => rfl
      | cons p l => have := hl.1; have := hl.2.1; omega
    refine ⟨trivial, ?_, fun l hl => ?_⟩
    · simp [lst, costP, sumD]
    · rw [hnil l hl]
      have : costP d n m (n - 0) used [] = 5 * (leftE m used : Nat) := by simp [costP, sumD]
      rw [this]
      exact less_irrefl _
  | succ k ih =>
    intro hk used
    have he : n - (k + 1) + 1 = n - k := by omega
    obtain ⟨f, hf, hv, hc, h1, h2⟩ := picks (ok := ok) (d := d) (n := n) (m := m) (e := n - (k + 1)) (used := used) (rec := lst ok d n m k) (by omega) (by rw [he]; exact ih (by omega) used) (fun j _ _ => by rw [he]; exact ih (by omega) _) m (Nat.le_refl _)
    have hl : lst ok d n m (k + 1) used = f := hf
    rw [hl]
    refine ⟨hv, hc, fun l hl => ?_⟩
    cases l with
    | nil => exact h1 [] trivial
    | cons p l =>
      obtain ⟨e, j⟩ := p
      by_cases hpe : e = n - (k + 1)
      · subst hpe
        exact h2 j hl.2.2.1 hl.2.2.2.1 hl.2.2.2.2.1 l hl.2.2.2.2.2
      · exact h1 _ ⟨by have := hl.1; simp only at this ⊢; omega, hl.2⟩
end
end Go.Proofs.YtmcodendnpjlaaaDoor
