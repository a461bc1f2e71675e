/- Chapter 26 in plain Lean: offsets between and at changes. -/
import Derived.Test.YtgjnekfmnepjeaaPlainB26
import Derived.Test.YtgjnekfmnepjeaaWh26
namespace Go.Proofs.Ytgjnekfmnepjeaa

theorem calm_off {m M m' : Int} : ∀ {cs : List (Int × Int)} {o : Int}, chB m M cs = false → m ≤ m' → m' ≤ M → offAt m' o cs = offAt m o cs
  | [], _, _, _, _ => rfl
  | x :: xs, o, h, h1, h2 => by
    unfold chB at h
    rw [List.any_cons, Bool.or_eq_false_iff] at h
    rw [offAt, offAt]
    have hx : (if x.1 ≤ m' then x.2 else o) = (if x.1 ≤ m then x.2 else o) := by
      have := h.1
      simp at this
      by_cases hc : x.1 ≤ m
      · rw [if_pos hc, if_pos (by omega)]
      · rw [if_neg hc, if_neg (by have := this (by omega); omega)]
    rw [hx]
    exact calm_off h.2 h1 h2

/-- After the first k changes the offset is z: for every minute that is not before them, what is left decides. -/
def seenTo (o : Int) (cs : List (Int × Int)) (k : Nat) (z : Int) : Prop := ∀ m, (∀ x ∈ cs.take k, x.1 ≤ m) → offAt m o cs = offAt m z (cs.drop k)

theorem seenTo_zero (o : Int) (cs : List (Int × Int)) : seenTo o cs 0 o := fun _ _ => rfl

theorem incr_pair {most : Int} : ∀ {ks : List Int} {b : Int}, incr most b ks = true → ks.Pairwise (· < ·)
  | [], _, _ => List.Pairwise.nil
  | x :: xs, b, h => by
    simp only [incr, Bool.and_eq_true, decide_eq_true_eq] at h
    exact List.pairwise_cons.2 ⟨fun y hy => (incr_gt h.2 y hy).1, incr_pair h.2⟩

theorem sorted_at {most b : Int} {cs : List (Int × Int)} (h : incr most b (cs.map (·.1)) = true) {k : Nat} (hk : k < cs.length) :
    (∀ x ∈ cs.take k, x.1 < (cs.getD k (0, 0)).1) ∧ ∀ y ∈ cs.drop (k + 1), (cs.getD k (0, 0)).1 < y.1 := by
  have hp := List.pairwise_map.1 (incr_pair h)
  have he : cs = cs.take k ++ cs.getD k (0, 0) :: cs.drop (k + 1) := by rw [← drop_getD cs k hk (0, 0), List.take_append_drop]
  rw [he, List.pairwise_append, List.pairwise_cons] at hp
  exact ⟨fun x hx => hp.2.2 x hx _ (List.mem_cons_self ..), fun y hy => hp.2.1.1 y hy⟩

theorem seen_at {most b o z : Int} {cs : List (Int × Int)} (h : incr most b (cs.map (·.1)) = true) {k : Nat} (hs : seenTo o cs k z) (hk : k < cs.length) :
    offAt (cs.getD k (0, 0)).1 o cs = (cs.getD k (0, 0)).2 := by
  obtain ⟨h1, h2⟩ := sorted_at h hk
  rw [hs _ (fun x hx => Int.le_of_lt (h1 x hx)), drop_getD cs k hk (0, 0), offAt, if_pos (Int.le_refl _), offAt_gt h2]

theorem seen_before {most b o z : Int} {cs : List (Int × Int)} (h : incr most b (cs.map (·.1)) = true) {k : Nat} (hs : seenTo o cs k z) (hk : k < cs.length) :
    offAt ((cs.getD k (0, 0)).1 - 1) o cs = z := by
  obtain ⟨h1, h2⟩ := sorted_at h hk
  rw [hs _ (fun x hx => by have := h1 x hx; omega), drop_getD cs k hk (0, 0), offAt, if_neg (by omega), offAt_gt (fun y hy => by have := h2 y hy; omega)]

theorem seen_step {o z : Int} {cs : List (Int × Int)} {k : Nat} (hs : seenTo o cs k z) (hk : k < cs.length) : seenTo o cs (k + 1) (cs.getD k (0, 0)).2 := by
  intro m hm
  have hx : cs.take (k + 1) = cs.take k ++ [cs.getD k (0, 0)] := by
    rw [List.take_add_one, List.getD_eq_getElem?_getD, List.getElem?_eq_getElem hk]
    rfl
  rw [hx] at hm
  rw [hs m (fun x hx => hm x (List.mem_append_left _ hx)), drop_getD cs k hk (0, 0), offAt, if_pos (hm _ (List.mem_append_right _ (List.mem_singleton.2 rfl)))]

theorem seen_end {b o z : Int} {cs : List (Int × Int)} (h : incr 52560000 b (cs.map (·.1)) = true) (hs : seenTo o cs cs.length z) : offAt 52560000 o cs = z := by
  rw [hs _ (fun x hx => ?_), List.drop_length]
  · rfl
  · rw [List.take_length] at hx
    exact (incr_gt h x.1 (List.mem_map.2 ⟨x, hx, rfl⟩)).2

theorem getD_in {cs : List (Int × Int)} {k : Nat} (hk : k < cs.length) : cs.getD k (0, 0) ∈ cs := by
  rw [List.getD_eq_getElem?_getD, List.getElem?_eq_getElem hk]
  exact List.getElem_mem hk

theorem getD_band {cs : List (Int × Int)} (h : ∀ x ∈ cs, inBand x.2 (-1440) 1440 = true) {k : Nat} (hk : k < cs.length) : -1440 ≤ (cs.getD k (0, 0)).2 ∧ (cs.getD k (0, 0)).2 ≤ 1440 :=
  band_iff.1 (h _ (getD_in hk))

theorem getD_key {cs : List (Int × Int)} (h : incr 52560000 (-1) (cs.map (·.1)) = true) {k : Nat} (hk : k < cs.length) : -1 < (cs.getD k (0, 0)).1 ∧ (cs.getD k (0, 0)).1 ≤ 52560000 :=
  incr_gt h _ (List.mem_map.2 ⟨_, getD_in hk, rfl⟩)

end Go.Proofs.Ytgjnekfmnepjeaa
