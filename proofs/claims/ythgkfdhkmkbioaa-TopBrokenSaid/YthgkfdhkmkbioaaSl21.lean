/- The first slot carried out, in plain: what is left of the jobs can be met with what is left of the supply. -/
import Derived.Test.YthgkfdhkmkbioaaAw21
import Derived.Test.YthgkfdhkmkbioaaKp21
namespace Go.Proofs.Ythgkfdhkmkbioaa
open Go.RowKit Go.Shelf

theorem sumN_list {l : List Nat} {f : Nat → Int} : ∀ {k : Nat}, k ≤ l.length → sumN k (fun p => f (l.getD p 0)) = sumF (l.take k) f
  | 0, _ => by rw [List.take_zero]; rfl
  | k + 1, h => by
    show sumN k _ + f (l.getD k 0) = _
    rw [sumF_take (by omega), sumN_list (by omega)]
theorem pick_sum_le {l : List Nat} {n : Nat} {f : Nat → Int} (hn : l.Nodup) (hb : ∀ x ∈ l, x < n) (h0 : ∀ i, i < n → 0 ≤ f i) : sumN l.length (fun p => f (l.getD p 0)) ≤ sumN n f := by
  rw [sumN_list (Nat.le_refl _), List.take_length, sumF_mem hn hb]
  exact sumN_le fun i hi => by
    have := h0 i hi
    split <;> omega
theorem plan_pick {J : List Jb} {S : List Int} {P : Nat → Nat → Int} (hp : PlanOk J S P) {l : List Nat} (hn : l.Nodup) (hb : ∀ x ∈ l, x < J.length) : PlanOk (pickJ J l) S (fun p t => P (l.getD p 0) t) := by
  have hl : ∀ p, p < l.length → l.getD p 0 < J.length := fun p h => hb _ (by rw [List.getD_eq_getElem?_getD, List.getElem?_eq_getElem h]; exact List.getElem_mem h)
  refine ⟨fun i hi t ht => ?_, fun i hi => ?_, fun t ht => ?_⟩
  · rw [pickJ_len] at hi
    rw [getJ_pick hi]
    exact hp.cap _ (hl i hi) t ht
  · rw [pickJ_len] at hi
    rw [getJ_pick hi]
    exact hp.met _ (hl i hi)
  · rw [pickJ_len]
    exact Int.le_trans (pick_sum_le (f := fun i => P i t) hn hb (fun i hi => (hp.cap i hi t ht).1)) (hp.fit t ht)
/-- What the plan gives in the first slot. -/
def doneL (P : Nat → Nat → Int) (n k : Nat) : List Int := (List.range n).map fun i => if i < k then P i 0 else 0
theorem doneL_len (P : Nat → Nat → Int) (n k : Nat) : (doneL P n k).length = n := by simp [doneL]
theorem doneL_get {P : Nat → Nat → Int} {n k i : Nat} (h : i < n) : (doneL P n k).getD i 0 = if i < k then P i 0 else 0 := by simp [doneL, h]
theorem doneL_zero (P : Nat → Nat → Int) (n : Nat) : doneL P n 0 = List.replicate n 0 := by
  unfold doneL
  simp [List.map_const']
theorem doneL_set {P : Nat → Nat → Int} {n k : Nat} : (doneL P n k).set k (P k 0) = doneL P n (k + 1) := by
  unfold doneL
  refine List.ext_getElem (by simp) fun i h1 h2 => ?_
  have hi : i < n := by simpa using h2
  rw [List.getElem_set]
  simp only [List.getElem_map, List.getElem_range]
  by_cases e : k = i
  · subst e
    rw [if_pos rfl, if_pos (by omega)]
  · rw [if_neg e]
    by_cases h3 : i < k
    · rw [if_pos h3, if_pos (by omega)]
    · rw [if_neg h3, if_neg (by omega)]
theorem doneL_all {P : Nat → Nat → Int} {n i : Nat} (h : i < n) : (doneL P n n).getD i 0 = P i 0 := by rw [doneL_get h, if_pos h]
theorem rateAt_adv {m : Nat} {j : Jb} (h : OkJ m j) (d : Int) (t : Nat) : rateAt (advJ j d) t = rateAt j (t + 1) := by
  have h1 := h.f0
  have h2 := h.ft
  unfold rateAt advJ
  dsimp only
  by_cases hc : j.f ≤ ((t + 1 : Nat) : Int) ∧ ((t + 1 : Nat) : Int) < j.t
  · rw [if_pos hc, if_pos (by omega)]
  · rw [if_neg hc, if_neg (by omega)]
theorem plan_tail {S : List Int} {P : Nat → Nat → Int} {i : Nat} (hpos : 0 < S.length) : sumN S.length (P i) = P i 0 + sumN (S.length - 1) (fun t => P i (t + 1)) := by
  have h := sumN_split (f := P i) (a := 1) (b := S.length - 1)
  rw [show 1 + (S.length - 1) = S.length by omega] at h
  rw [h, sumN_congr (f := fun t => P i (1 + t)) (g := fun t => P i (t + 1)) (fun t _ => by rw [Nat.add_comm])]
  show 0 + P i 0 + _ = _
  omega
theorem drop_getD {S : List Int} {t : Nat} : (S.drop 1).getD t 0 = S.getD (t + 1) 0 := by
  rw [List.getD_eq_getElem?_getD, List.getElem?_drop, List.getD_eq_getElem?_getD, Nat.add_comm]
theorem plan_done {J : List Jb} {S : List Int} {P : Nat → Nat → Int} (hv : ValidP J S) (hp : PlanOk J S P) (hpos : 0 < S.length) : DoneOk J S (doneL P J.length J.length) := by
  refine ⟨doneL_len .., hpos, fun i hi => ?_, ?_⟩
  · rw [doneL_all hi]
    have h1 := hp.cap i hi 0 hpos
    have hj := hv.j _ (getJ_mem hi)
    have h2 : sumN (S.length - 1) (fun t => P i (t + 1)) ≥ 0 := sumN_nonneg fun t ht => (hp.cap i hi (t + 1) (by omega)).1
    have h3 := plan_tail (P := P) (i := i) hpos
    rw [hp.met i hi] at h3
    have h4 := hj.f0
    have h5 := hj.r0
    unfold rateAt at h1
    split at h1
    · exact ⟨h1.1, h1.2, by omega, fun _ => by omega⟩
    · exact ⟨h1.1, by omega, by omega, fun _ => by omega⟩
  · rw [sumN_congr (g := fun i => P i 0) (fun i hi => doneL_all hi)]
    exact hp.fit 0 hpos
theorem plan_adv {J : List Jb} {S : List Int} {P : Nat → Nat → Int} (hv : ValidP J S) (hp : PlanOk J S P) (hpos : 0 < S.length) : PlanOk (advL J (doneL P J.length J.length)) (S.drop 1) (fun i t => P i (t + 1)) := by
  have hl : (S.drop 1).length = S.length - 1 := List.length_drop ..
  refine ⟨fun i hi t ht => ?_, fun i hi => ?_, fun t ht => ?_⟩
  · rw [advL_len] at hi
    rw [advL_get hi, rateAt_adv (hv.j _ (getJ_mem hi))]
    exact hp.cap i hi (t + 1) (by omega)
  · rw [advL_len] at hi
    rw [advL_get hi, hl]
    have h3 := plan_tail (P := P) (i := i) hpos
    rw [hp.met i hi] at h3
    show _ = (getJ J i).e - _
    rw [doneL_all hi]
    omega
  · rw [advL_len, drop_getD]
    exact hp.fit (t + 1) (by omega)
theorem adv_over {J : List Jb} {S : List Int} {P : Nat → Nat → Int} (hv : ValidP J S) (hp : PlanOk J S P) (hpos : 0 < S.length) {i : Nat} (hi : i < J.length) (h : (advJ (getJ J i) (P i 0)).t = 0) : (advJ (getJ J i) (P i 0)).e = 0 := by
  have hj := hv.j _ (getJ_mem hi)
  have h3 := plan_tail (P := P) (i := i) hpos
  rw [hp.met i hi] at h3
  have h4 : sumN (S.length - 1) (fun t => P i (t + 1)) = 0 := sumN_zero fun t ht => by
    have h5 := hp.cap i hi (t + 1) (by omega)
    rw [← rateAt_adv hj (P i 0) t] at h5
    unfold rateAt at h5
    rw [if_neg (by rw [h]; omega)] at h5
    omega
  show (getJ J i).e - P i 0 = 0
  omega
theorem plan_ext {J : List Jb} {S E : List Int} {P : Nat → Nat → Int} (hj : ∀ j ∈ J, 0 ≤ j.r) (hp : PlanOk J S P) (hE : ∀ x ∈ E, 0 ≤ x) : PlanOk J (S ++ E) (fun i t => if t < S.length then P i t else 0) := by
  refine ⟨fun i hi t ht => ?_, fun i hi => ?_, fun t ht => ?_⟩
  · by_cases h : t < S.length
    · rw [if_pos h]
      exact hp.cap i hi t h
    · rw [if_neg h]
      have := hj _ (getJ_mem hi)
      unfold rateAt
      split <;> omega
  · rw [List.length_append, sumN_split, sumN_congr (g := P i) (fun t ht => by rw [if_pos ht]), hp.met i hi, sumN_zero (fun t ht => by rw [if_neg (by omega)])]
    omega
  · by_cases h : t < S.length
    · rw [sumN_congr (g := fun i => P i t) (fun i _ => by rw [if_pos h]), List.getD_eq_getElem?_getD, List.getElem?_append_left h, ← List.getD_eq_getElem?_getD]
      exact hp.fit t h
    · rw [sumN_zero (fun i _ => by rw [if_neg h])]
      rw [List.length_append] at ht
      rw [List.getD_eq_getElem?_getD, List.getElem?_append_right (by omega), List.getElem?_eq_getElem (by omega)]
      exact hE _ (List.getElem_mem _)
/-- The jobs that are not over. -/
def leftX (J : List Jb) (D : List Int) (i : Nat) : Bool := decide (0 < (getJ (advL J D) i).t)
def leftJ (J : List Jb) (D : List Int) (k : Nat) : List Jb := pickJ (advL J D) (chosenL (leftX J D) k)
theorem leftJ_succ (J : List Jb) (D : List Int) (k : Nat) : leftJ J D (k + 1) = if leftX J D k = true then leftJ J D k ++ [getJ (advL J D) k] else leftJ J D k := by
  unfold leftJ
  rw [chosenL_succ]
  split
  · unfold pickJ
    rw [List.map_append]
    rfl
  · rfl
theorem leftJ_le (J : List Jb) (D : List Int) (k : Nat) : (leftJ J D k).length ≤ k := by
  unfold leftJ
  rw [pickJ_len]
  exact chosenL_le _ _
theorem okJ_adv {m m' : Nat} {j : Jb} {d : Int} (h : OkJ m j) (hm : m ≤ m' + 1) (hd0 : 0 ≤ d) (hde : d ≤ j.e) : OkJ m' (advJ j d) := by
  have h1 := h.f0
  have h2 := h.ft
  have h3 := h.tm
  have h4 := h.e1
  refine ⟨?_, ?_, ?_, ?_, ?_, h.r0, h.r1, h.k0, h.k1⟩ <;> (unfold advJ; dsimp only; omega)
structure LeftOk (J : List Jb) (S : List Int) (J' : List Jb) : Prop where
  val : ∀ E : List Int, (∀ x ∈ E, 0 ≤ x ∧ x ≤ 1000) → S.length - 1 + E.length ≤ 24 → ValidP J' (S.drop 1 ++ E) ∧ Feas J' (S.drop 1 ++ E)
  pos : ∀ j ∈ J', 0 < j.t
  len : J'.length ≤ J.length
theorem left_ok {J : List Jb} {S : List Int} {P : Nat → Nat → Int} (hv : ValidP J S) (hp : PlanOk J S P) (hpos : 0 < S.length) : LeftOk J S (leftJ J (doneL P J.length J.length) J.length) := by
  have hA := plan_adv hv hp hpos
  have hD := plan_done hv hp hpos
  obtain ⟨D, hDe⟩ : ∃ D, doneL P J.length J.length = D := ⟨_, rfl⟩
  rw [hDe] at hA hD ⊢
  have hl : (S.drop 1).length = S.length - 1 := List.length_drop ..
  have hci := chosenL_inc (leftX J D) J.length
  have hmem : ∀ j ∈ leftJ J D J.length, ∃ i, i < J.length ∧ leftX J D i = true ∧ j = getJ (advL J D) i := fun j hj => by
    unfold leftJ pickJ at hj
    obtain ⟨i, hi, rfl⟩ := List.mem_map.1 hj
    exact ⟨i, (chosenL_mem.1 hi).1, (chosenL_mem.1 hi).2, rfl⟩
  refine ⟨fun E hE hlen => ?_, fun j hj => ?_, leftJ_le ..⟩
  · have hvl : ValidP (leftJ J D J.length) (S.drop 1 ++ E) := by
      refine ⟨Nat.le_trans (leftJ_le ..) hv.j12, by rw [List.length_append, hl]; exact hlen, fun x hx => ?_, fun j hj => ?_⟩
      · rcases List.mem_append.1 hx with h | h
        · exact hv.s x (List.mem_of_mem_drop h)
        · exact hE x h
      · obtain ⟨i, hi, _, rfl⟩ := hmem j hj
        rw [advL_get hi]
        have h1 := hD.d i hi
        exact okJ_adv (hv.j _ (getJ_mem hi)) (by rw [List.length_append, hl]; omega) h1.1 h1.2.2.1
    refine ⟨hvl, _, plan_ext (fun j hj => (hvl.j j hj).r0) (plan_pick hA hci.nodup (fun x hx => by rw [advL_len]; exact hci.bd x hx)) (fun x hx => (hE x hx).1)⟩
  · obtain ⟨i, hi, hx, rfl⟩ := hmem j hj
    unfold leftX at hx
    exact of_decide_eq_true hx
end Go.Proofs.Ythgkfdhkmkbioaa
