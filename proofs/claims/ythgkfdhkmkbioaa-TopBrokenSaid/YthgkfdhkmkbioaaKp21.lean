/- What replan.Keep keeps, in plain; rows of cuts. -/
import Derived.Test.YthgkfdhkmkbioaaPl21
import Derived.Test.YthgkfdhkmkbioaaAd21
import Derived.Test.YthgkfdhkmkbioaaSr21
namespace Go.Proofs.Ythgkfdhkmkbioaa
open Go.RowKit Go.Shelf

theorem sumI_perm {a b : List Int} (h : a.Perm b) : sumI a = sumI b := by
  induction h with
  | nil => rfl
  | cons x _ ih => show x + _ = x + _; rw [ih]
  | swap x y l => show y + (x + sumI l) = x + (y + sumI l); omega
  | trans _ _ h1 h2 => exact h1.trans h2
theorem sumF_perm {a b : List Nat} {f : Nat → Int} (h : a.Perm b) : sumF a f = sumF b f := sumI_perm (h.map f)
theorem sumF_map {l : List Nat} {g : Nat → Nat} {f : Nat → Int} : sumF (l.map g) f = sumF l (fun x => f (g x)) := by
  unfold sumF
  rw [List.map_map]
  rfl
theorem sumF_congr {l : List Nat} {f g : Nat → Int} (h : ∀ x ∈ l, f x = g x) : sumF l f = sumF l g := by
  unfold sumF
  rw [List.map_congr_left h]
theorem getJ_pick {J : List Jb} {l : List Nat} {p : Nat} (h : p < l.length) : getJ (pickJ J l) p = getJ J (l.getD p 0) := by
  unfold pickJ getJ
  rw [List.getD_eq_getElem?_getD, List.getElem?_map, List.getElem?_eq_getElem h, List.getD_eq_getElem?_getD (l := l), List.getElem?_eq_getElem h]
  rfl
theorem outJ_pick {J : List Jb} {l tl : List Nat} {p : Nat} (h : p < l.length) : outJ (pickJ J l) tl p = outJ J tl (l.getD p 0) := by
  unfold outJ
  rw [getJ_pick h]
theorem pick_valid {J : List Jb} {S : List Int} (hv : ValidP J S) {l : List Nat} (hl : ∀ x ∈ l, x < J.length) (h12 : l.length ≤ 12) : ValidP (pickJ J l) S :=
  ⟨by rw [pickJ_len]; exact h12, hv.s24, hv.s, fun j hj => by
    unfold pickJ at hj
    obtain ⟨x, hx, rfl⟩ := List.mem_map.1 hj
    exact hv.j _ (getJ_mem (hl x hx))⟩
theorem cutL_of_sums {J : List Jb} {S : List Int} (hv : ValidP J S) {cl tl : List Nat} (hc : cl.Nodup ∧ ∀ x ∈ cl, x < J.length) (ht : tl.Nodup ∧ ∀ x ∈ tl, x < S.length) (h : sumF tl (fun t => S.getD t 0) + sumF cl (outJ J tl) < sumF cl (fun i => (getJ J i).e)) : CutL J S cl tl := by
  rw [sumF_mem ht.1 ht.2, sumF_mem hc.1 hc.2, sumF_mem hc.1 hc.2] at h
  have e : sumN J.length (fun i => if decide (i ∈ cl) = true then outJ J tl i else 0) = sumN J.length (fun i => if decide (i ∈ cl) = true then sumN S.length (fun t => if decide (t ∈ tl) = true then 0 else rateAt (getJ J i) t) else 0) := sumN_congr fun i hi => by rw [outJ_rate hv hi]
  rw [e] at h
  exact h
/-- A cut that explains that a job does not fit beside some others. -/
structure CutFor (J : List Jb) (S : List Int) (K : List Nat) (i : Nat) (cl tl : List Nat) : Prop where
  c1 : Inc J.length cl
  c2 : Inc S.length tl
  cut : CutL J S cl tl
  mem : i ∈ cl
  sub : ∀ x ∈ cl, x = i ∨ x ∈ K
/-- The list of natural numbers, sorted. -/
def sortN (l : List Nat) : List Nat := (insS ltI (natI l) l.length).map Int.toNat
theorem ltI_ord : OrdLt ltI :=
  ⟨fun a b h => by unfold ltI at *; simp at *; omega, fun a b c h1 h2 => by unfold ltI at *; simp at *; omega⟩
theorem natI_toNat {l : List Int} (h : ∀ x ∈ l, 0 ≤ x) : natI (l.map Int.toNat) = l := by
  unfold natI
  rw [List.map_map]
  exact (List.map_congr_left (fun x hx => Int.toNat_of_nonneg (h x hx))).trans (List.map_id' l)
theorem natI_nonneg {l : List Nat} : ∀ x ∈ natI l, 0 ≤ x := fun x hx => by
  obtain ⟨i, _, rfl⟩ := List.mem_map.1 hx
  omega
theorem insS_nonneg {lt : Int → Int → Bool} {l : List Nat} {k : Nat} (hk : k ≤ l.length) : ∀ x ∈ insS lt (natI l) k, 0 ≤ x := fun x hx => natI_nonneg x ((insS_perm (by rw [natI_length]; exact hk)).mem_iff.1 hx)
theorem sortN_int (l : List Nat) : natI (sortN l) = insS ltI (natI l) l.length := natI_toNat (insS_nonneg (Nat.le_refl _))
theorem sortN_len (l : List Nat) : (sortN l).length = l.length := by unfold sortN; rw [List.length_map, insS_len, natI_length]
theorem map_toNat_natI (l : List Nat) : (natI l).map Int.toNat = l := by
  unfold natI
  rw [List.map_map]
  exact (List.map_congr_left (fun x _ => Int.toNat_natCast x)).trans (List.map_id' l)
theorem sortN_perm (l : List Nat) : (sortN l).Perm l := by
  have h := (insS_perm (lt := ltI) (l := natI l) (i := l.length) (by rw [natI_length]; exact Nat.le_refl _)).map Int.toNat
  rw [map_toNat_natI] at h
  exact h
theorem sortN_inc {n : Nat} {l : List Nat} (hn : l.Nodup) (hb : ∀ x ∈ l, x < n) : Inc n (sortN l) := by
  have hnd : (sortN l).Nodup := (sortN_perm l).nodup_iff.2 hn
  refine ⟨List.pairwise_iff_getElem.2 fun a b ha hb hab => ?_, fun x hx => hb x ((sortN_perm l).mem_iff.1 hx)⟩
  have hl := sortN_len l
  have h1 := insS_sorted ltI_ord (l := natI l) (i := l.length) (by rw [natI_length]; exact Nat.le_refl _) a b hab (by omega)
  rw [← sortN_int, natI_get (by omega), natI_get (by omega)] at h1
  have e1 : (sortN l).getD a 0 = (sortN l)[a] := by rw [List.getD_eq_getElem?_getD, List.getElem?_eq_getElem ha]; rfl
  have e2 : (sortN l).getD b 0 = (sortN l)[b] := by rw [List.getD_eq_getElem?_getD, List.getElem?_eq_getElem hb]; rfl
  rw [e1, e2] at h1
  have hne : (sortN l)[a] ≠ (sortN l)[b] := fun e => by
    have := (List.getElem_inj hnd).1 e
    omega
  unfold ltI at h1
  have h2 := of_decide_eq_false h1
  omega
/-- From the cut of the chosen jobs to that of all. -/
theorem cut_lift {J : List Jb} {S : List Int} (hv : ValidP J S) {K : List Nat} {i : Nat} (hK : (K ++ [i]).Nodup) (hb : ∀ x ∈ K ++ [i], x < J.length) (h12 : (K ++ [i]).length ≤ 12) (hf : Feas (pickJ J K) S) {C T : Nat → Bool} (h : CutOk (pickJ J (K ++ [i])) S C T) :
    CutFor J S K i (sortN ((chosenL C (pickJ J (K ++ [i])).length).map (fun p => (K ++ [i]).getD p 0))) (chosenL T S.length) := by
  have hvp := pick_valid hv hb h12
  have hcl := chosenL_cut h
  obtain ⟨cl, hcle⟩ : ∃ cl, chosenL C (pickJ J (K ++ [i])).length = cl := ⟨_, rfl⟩
  obtain ⟨tl, htle⟩ : ∃ tl, chosenL T S.length = tl := ⟨_, rfl⟩
  have hci : Inc (K ++ [i]).length cl := by
    have := chosenL_inc C (pickJ J (K ++ [i])).length
    rwa [hcle, pickJ_len] at this
  have hti : Inc S.length tl := by have := chosenL_inc T S.length; rwa [htle] at this
  rw [hcle, htle] at hcl ⊢
  have hsum := cut_sums hvp (by rw [pickJ_len]; exact hci) hti hcl
  have hat : ∀ p ∈ cl, p < (K ++ [i]).length := hci.bd
  have hmapn : (cl.map fun p => (K ++ [i]).getD p 0).Nodup := by
    refine List.pairwise_map.2 (hci.nodup.imp_of_mem fun {a b} ha hb hne e => hne ?_)
    have h1 := hat a ha
    have h2 := hat b hb
    rw [List.getD_eq_getElem?_getD, List.getElem?_eq_getElem h1, List.getD_eq_getElem?_getD, List.getElem?_eq_getElem h2] at e
    exact (List.getElem_inj hK).1 e
  have hmapm : ∀ x ∈ cl.map (fun p => (K ++ [i]).getD p 0), x ∈ K ++ [i] := fun x hx => by
    obtain ⟨p, hp, rfl⟩ := List.mem_map.1 hx
    rw [List.getD_eq_getElem?_getD, List.getElem?_eq_getElem (hat p hp)]
    exact List.getElem_mem _
  have hp := sortN_perm (cl.map fun p => (K ++ [i]).getD p 0)
  have hs1 := sortN_inc hmapn (fun x hx => hb x (hmapm x hx))
  have hcut : CutL J S (sortN (cl.map fun p => (K ++ [i]).getD p 0)) tl := by
    refine cutL_of_sums hv ⟨hs1.nodup, hs1.bd⟩ ⟨hti.nodup, hti.bd⟩ ?_
    rw [sumF_perm hp, sumF_perm (f := fun i => (getJ J i).e) hp, sumF_map, sumF_map, sumF_congr (g := outJ (pickJ J (K ++ [i])) tl) (fun p hp => (outJ_pick (hat p hp)).symm), sumF_congr (f := fun p => (getJ J ((K ++ [i]).getD p 0)).e) (g := fun p => (getJ (pickJ J (K ++ [i])) p).e) (fun p hp => by rw [getJ_pick (hat p hp)])]
    exact hsum
  refine ⟨hs1, hti, hcut, ?_, fun x hx => ?_⟩
  · refine hp.mem_iff.2 (Decidable.byContradiction fun hni => ?_)
    have hlt : ∀ p ∈ cl, p < K.length := fun p hp => by
      have h1 := hat p hp
      rw [List.length_append, List.length_singleton] at h1
      refine Decidable.byContradiction fun h2 => hni (List.mem_map.2 ⟨p, hp, ?_⟩)
      obtain rfl : p = K.length := by omega
      rw [List.getD_eq_getElem?_getD, List.getElem?_append_right (Nat.le_refl _), Nat.sub_self]
      rfl
    have hg : ∀ p ∈ cl, (K ++ [i]).getD p 0 = K.getD p 0 := fun p hp => by
      rw [List.getD_eq_getElem?_getD, List.getElem?_append_left (hlt p hp), ← List.getD_eq_getElem?_getD]
    have hb2 : ∀ x ∈ K, x < J.length := fun x hx => hb x (List.mem_append_left _ hx)
    have hl2 : K.length ≤ 12 := by rw [List.length_append, List.length_singleton] at h12; omega
    have hcK : CutL (pickJ J K) S cl tl := by
      refine cutL_of_sums (pick_valid hv hb2 hl2) ⟨hci.nodup, fun x hx => by rw [pickJ_len]; exact hlt x hx⟩ ⟨hti.nodup, hti.bd⟩ ?_
      rw [sumF_congr (f := outJ (pickJ J K) tl) (g := outJ (pickJ J (K ++ [i])) tl) (fun p hp => by rw [outJ_pick (hlt p hp), outJ_pick (hat p hp), hg p hp]), sumF_congr (f := fun p => (getJ (pickJ J K) p).e) (g := fun p => (getJ (pickJ J (K ++ [i])) p).e) (fun p hp => by rw [getJ_pick (hlt p hp), getJ_pick (hat p hp), hg p hp])]
      exact hsum
    obtain ⟨P, hP⟩ := hf
    exact plan_cut hP hcK
  · rcases List.mem_append.1 (hmapm x (hp.mem_iff.1 hx)) with h1 | h1
    · exact .inr h1
    · exact .inl (List.mem_singleton.1 h1)
theorem feas_nil {S : List Int} (h : ∀ t, t < S.length → 0 ≤ S.getD t 0) : Feas [] S :=
  ⟨fun _ _ => 0, fun _i hi => absurd hi (Nat.not_lt_zero _), fun _i hi => absurd hi (Nat.not_lt_zero _), fun t ht => h t ht⟩
/-- The jobs in the order of their ranks, as numbers. -/
def ordN (J : List Jb) : List Nat := (ordJ J).map Int.toNat
theorem ordN_int (J : List Jb) : natI (ordN J) = ordJ J := natI_toNat (fun x hx => by
  unfold ordJ natsI at hx
  exact insS_nonneg (l := List.range J.length) (by simp) x hx)
theorem ordN_len (J : List Jb) : (ordN J).length = J.length := by unfold ordN; rw [List.length_map, ordJ_len]
theorem ordN_perm (J : List Jb) : (ordN J).Perm (List.range J.length) := by
  have h := (insS_perm (lt := ltC (lexJ J)) (l := natsI J.length) (i := J.length) (by rw [natsI_len]; exact Nat.le_refl _)).map Int.toNat
  have e : (natsI J.length).map Int.toNat = List.range J.length := map_toNat_natI _
  rw [e] at h
  exact h
theorem ordN_nodup (J : List Jb) : (ordN J).Nodup := (ordN_perm J).nodup_iff.2 List.nodup_range
theorem ordN_lt {J : List Jb} {i : Nat} (h : i ∈ ordN J) : i < J.length := List.mem_range.1 ((ordN_perm J).mem_iff.1 h)
/-- From what is kept and what is broken, through the rest of the order, to the end. -/
def KeepsF (J : List Jb) (S : List Int) : List Nat → List (Nat × List Nat × List Nat) → List Nat → List Nat → List (Nat × List Nat × List Nat) → Prop
  | K, CL, [], K', CL' => K' = K ∧ CL' = CL
  | K, CL, i :: l, K', CL' => (Feas (pickJ J (K ++ [i])) S ∧ KeepsF J S (K ++ [i]) CL l K' CL') ∨ (∃ cl tl, CutFor J S K i cl tl ∧ ¬ Feas (pickJ J (K ++ [i])) S ∧ KeepsF J S K (CL ++ [(i, cl, tl)]) l K' CL')
theorem keeps_feas {J : List Jb} {S : List Int} : ∀ {l K : List Nat} {CL : List (Nat × List Nat × List Nat)} {K' : List Nat} {CL' : List (Nat × List Nat × List Nat)}, KeepsF J S K CL l K' CL' → Feas (pickJ J K) S → Feas (pickJ J K') S
  | [], _, _, _, _, h, hf => by rw [h.1]; exact hf
  | _ :: _, _, _, _, _, .inl h, _ => keeps_feas h.2 h.1
  | _ :: _, _, _, _, _, .inr ⟨_, _, _, _, h⟩, hf => keeps_feas h hf
/-- What is kept goes on from what was kept, with numbers of the rest. -/
theorem keeps_more {J : List Jb} {S : List Int} : ∀ {l K : List Nat} {CL : List (Nat × List Nat × List Nat)} {K' : List Nat} {CL' : List (Nat × List Nat × List Nat)}, KeepsF J S K CL l K' CL' → ∃ M, K' = K ++ M ∧ M.Sublist l
  | [], K, _, _, _, h => ⟨[], by rw [h.1, List.append_nil], List.Sublist.refl _⟩
  | i :: l, K, _, _, _, .inl h => by
    obtain ⟨M, h1, h2⟩ := keeps_more h.2
    exact ⟨i :: M, by rw [h1]; simp, h2.cons_cons i⟩
  | i :: l, K, _, _, _, .inr ⟨_, _, _, _, h⟩ => by
    obtain ⟨M, h1, h2⟩ := keeps_more h
    exact ⟨M, h1, h2.cons i⟩
theorem keeps_count {J : List Jb} {S : List Int} : ∀ {l K : List Nat} {CL : List (Nat × List Nat × List Nat)} {K' : List Nat} {CL' : List (Nat × List Nat × List Nat)}, KeepsF J S K CL l K' CL' → K'.length + CL'.length = K.length + CL.length + l.length
  | [], _, _, _, _, h => by rw [h.1, h.2]; rfl
  | _ :: _, _, _, _, _, .inl h => by
    have := keeps_count h.2
    simp at this ⊢
    omega
  | _ :: _, _, _, _, _, .inr ⟨_, _, _, _, h⟩ => by
    have := keeps_count h
    simp at this ⊢
    omega
/-- Each cut is a right one; the list of the cuts goes on from the one before. -/
theorem keeps_cuts {J : List Jb} {S : List Int} : ∀ {l K : List Nat} {CL : List (Nat × List Nat × List Nat)} {K' : List Nat} {CL' : List (Nat × List Nat × List Nat)}, KeepsF J S K CL l K' CL' → ∃ D, CL' = CL ++ D ∧ ∀ c ∈ D, Inc J.length c.2.1 ∧ Inc S.length c.2.2 ∧ CutL J S c.2.1 c.2.2
  | [], _, CL, _, _, h => ⟨[], by rw [h.2, List.append_nil], fun c hc => by cases hc⟩
  | _ :: _, _, _, _, _, .inl h => keeps_cuts h.2
  | i :: _, _, CL, _, _, .inr ⟨cl, tl, hc, _, h⟩ => by
    obtain ⟨D, h1, h2⟩ := keeps_cuts h
    refine ⟨(i, cl, tl) :: D, by rw [h1]; simp, fun c hm => ?_⟩
    rcases List.mem_cons.1 hm with rfl | hm
    · exact ⟨hc.c1, hc.c2, hc.cut⟩
    · exact h2 c hm
/-- In one step. -/
theorem keeps_drop {J : List Jb} {S : List Int} {ord K : List Nat} {CL : List (Nat × List Nat × List Nat)} {k : Nat} (hk : k < ord.length) {K' : List Nat} {CL' : List (Nat × List Nat × List Nat)} : KeepsF J S K CL (ord.drop k) K' CL' ↔ (Feas (pickJ J (K ++ [ord.getD k 0])) S ∧ KeepsF J S (K ++ [ord.getD k 0]) CL (ord.drop (k + 1)) K' CL') ∨ (∃ cl tl, CutFor J S K (ord.getD k 0) cl tl ∧ ¬ Feas (pickJ J (K ++ [ord.getD k 0])) S ∧ KeepsF J S K (CL ++ [(ord.getD k 0, cl, tl)]) (ord.drop (k + 1)) K' CL') := by
  rw [List.drop_eq_getElem_cons hk, List.getD_eq_getElem?_getD, List.getElem?_eq_getElem hk]
  exact Iff.rfl
/-- The numbers kept so far are of the order, ahead of the k-th. -/
structure KeptOk (J : List Jb) (S : List Int) (K : List Nat) (k : Nat) : Prop where
  sub : K.Sublist ((ordN J).take k)
  feas : Feas (pickJ J K) S
theorem KeptOk.zero {J : List Jb} {S : List Int} (hv : ValidP J S) : KeptOk J S [] 0 :=
  ⟨List.nil_sublist _, feas_nil fun t ht => (hv.s _ (by rw [List.getD_eq_getElem?_getD, List.getElem?_eq_getElem ht]; exact List.getElem_mem ht)).1⟩
theorem ordN_take {J : List Jb} {k : Nat} (h : k < J.length) : (ordN J).take (k + 1) = (ordN J).take k ++ [(ordN J).getD k 0] := take_snocN (by rw [ordN_len]; exact h)
theorem KeptOk.keep {J : List Jb} {S : List Int} {K : List Nat} {k : Nat} (h : KeptOk J S K k) (hk : k < J.length) (hf : Feas (pickJ J (K ++ [(ordN J).getD k 0])) S) : KeptOk J S (K ++ [(ordN J).getD k 0]) (k + 1) :=
  ⟨by rw [ordN_take hk]; exact h.sub.append (List.Sublist.refl _), hf⟩
theorem KeptOk.skip {J : List Jb} {S : List Int} {K : List Nat} {k : Nat} (h : KeptOk J S K k) (hk : k < J.length) : KeptOk J S K (k + 1) :=
  ⟨by rw [ordN_take hk]; exact h.sub.trans (List.sublist_append_left _ _), h.feas⟩
theorem KeptOk.facts {J : List Jb} {S : List Int} {K : List Nat} {k : Nat} (h : KeptOk J S K k) (hk : k < J.length) : (K ++ [(ordN J).getD k 0]).Nodup ∧ (∀ x ∈ K ++ [(ordN J).getD k 0], x < J.length) ∧ (K ++ [(ordN J).getD k 0]).length ≤ J.length := by
  have h1 : (K ++ [(ordN J).getD k 0]).Sublist ((ordN J).take (k + 1)) := by rw [ordN_take hk]; exact h.sub.append (List.Sublist.refl _)
  have h2 := h1.trans (List.take_sublist (k + 1) (ordN J))
  refine ⟨h2.nodup (ordN_nodup J), fun x hx => ordN_lt (h2.subset hx), ?_⟩
  have := h2.length_le
  rwa [ordN_len] at this
end Go.Proofs.Ythgkfdhkmkbioaa
