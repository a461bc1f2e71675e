/- Chapter 37, plain: one plate misread. No program here. -/
import Derived.Test.YtmcodendnpjlaaaDoorPlainL37
namespace Go.Proofs.YtmcodendnpjlaaaDoor

theorem sumD_le_one {d : Nat → Nat → Int} {r : Nat} : ∀ {l : List Pr}, l.Pairwise (fun p q => p.2 ≠ q.2) → (∀ p ∈ l, (p.2 = r → d p.1 p.2 ≤ 1) ∧ (p.2 ≠ r → d p.1 p.2 ≤ 0)) → sumD d l ≤ 1
  | [], _, _ => by simp [sumD]
  | p :: l, hp, h => by
    rw [List.pairwise_cons] at hp
    rw [sumD_cons]
    by_cases e : p.2 = r
    · have h1 := (h p (by simp)).1 e
      have h2 : sumD d l ≤ 0 := by
        have hz : ∀ q ∈ l, d q.1 q.2 ≤ 0 := fun q hq => (h q (by simp [hq])).2 (fun e2 => hp.1 q hq (by rw [e, e2]))
        clear h hp h1
        induction l with
        | nil => simp [sumD]
        | cons q l ih =>
          rw [sumD_cons]
          have h3 := hz q (by simp)
          have h4 := ih (fun x hx => hz x (by simp [hx]))
          omega
      omega
    · have h1 := (h p (by simp)).2 e
      have h2 := sumD_le_one hp.2 (fun q hq => h q (by simp [hq]))
      omega
theorem dP_E {p q : Ps} (hp : validS p.s = true) (hq : validS q.s = true) : dP p q = ((E (bs p.s) (bs q.s) : Nat) : Int) := by
  unfold dP
  rw [if_pos (by rw [hp, hq]; rfl)]
/-- The exits, one of them misread. -/
def misL (EE : List Ps) (M : Int) (of : List Nat) (r : Nat) (rs : ByteArray) : List Ps := (outL EE M of).set r ⟨rs, M + 1 + (r : Int)⟩
theorem misL_len (EE : List Ps) (M : Int) (of : List Nat) (r : Nat) (rs : ByteArray) : (misL EE M of r rs).length = of.length := by simp [misL, outL_len]
theorem misL_get {EE : List Ps} {M : Int} {of : List Nat} {r j : Nat} {rs : ByteArray} (h : j < of.length) : (misL EE M of r rs).getD j Ps.zero = if r = j then ⟨rs, M + 1 + (j : Int)⟩ else ⟨(EE.getD (of.getD j 0) Ps.zero).s, M + 1 + (j : Int)⟩ := by
  have h2 := outL_get (E := EE) (M := M) h
  rw [List.getD_eq_getElem?_getD] at h2 ⊢
  unfold misL
  rw [List.getElem?_set]
  by_cases e : r = j
  · subst e
    rw [if_pos rfl, if_pos rfl, if_pos (by rw [outL_len]; exact h)]
    rfl
  · rw [if_neg e, if_neg e]
    exact h2
theorem misread_best {EE : List Ps} {of : List Nat} {M : Int} {r : Nat} {rs : ByteArray} (hx : ExF EE of M) (hv : validP EE = true) (hr : r < of.length) (hw : validP (misL EE M of r rs) = true)
    (hfar : ∀ i k, i < EE.length → k < i → 4 ≤ E (bs (EE.getD i Ps.zero).s) (bs (EE.getD k Ps.zero).s)) (h1 : E (bs (EE.getD (of.getD r 0) Ps.zero).s) (bs rs) = 1) :
    (best EE (misL EE M of r rs)).cost = 1 ∧ RightP (best EE (misL EE M of r rs)) of EE.length := by
  have hn : of.length = EE.length := by have := hx.perm.length_eq; rwa [List.length_range] at this
  have hfar2 : ∀ i k, i < EE.length → k < EE.length → E (bs (EE.getD i Ps.zero).s) (bs (EE.getD k Ps.zero).s) ≤ 3 → i = k := fun i k hi hk he => by
    rcases Nat.lt_trichotomy i k with h | h | h
    · have := hfar k i hk h
      rw [E_symm] at this
      omega
    · exact h
    · have := hfar i k hi h
      omega
  have hofl : ∀ j, j < of.length → of.getD j 0 < EE.length := fun j hj => by
    have : of.getD j 0 ∈ of := by rw [List.getD_eq_getElem?_getD, List.getElem?_eq_getElem hj]; exact List.getElem_mem hj
    exact List.mem_range.1 (hx.perm.mem_iff.1 this)
  have hinj : ∀ j k, j < of.length → k < of.length → of.getD j 0 = of.getD k 0 → j = k := fun j k hj hk e => by
    have hnd : of.Nodup := hx.perm.nodup_iff.2 List.nodup_range
    rw [List.getD_eq_getElem?_getD, List.getD_eq_getElem?_getD, List.getElem?_eq_getElem hj, List.getElem?_eq_getElem hk] at e
    exact (List.getElem_inj hnd).1 e
  have hB := best_is EE (misL EE M of r rs)
  rw [misL_len, hn] at hB
  have hok : ∀ i j, i < EE.length → j < EE.length → okE EE (misL EE M of r rs) i j = true := fun i j hi hj => by
    unfold okE
    rw [misL_get (by omega), decide_eq_true_eq]
    have := hx.le i hi
    split <;> (simp only; omega)
  -- what a pair costs
  have hvX : ∀ j, j < of.length → validS ((misL EE M of r rs).getD j Ps.zero).s = true := fun j hj => validP_mem hw (by rw [misL_len]; exact hj)
  have hd : ∀ i j, i < EE.length → j < of.length → dE EE (misL EE M of r rs) i j = ((E (bs (EE.getD i Ps.zero).s) (bs ((misL EE M of r rs).getD j Ps.zero).s) : Nat) : Int) := fun i j hi hj => dP_E (validP_mem hv hi) (hvX j hj)
  have hown : ∀ j, j < of.length → E (bs (EE.getD (of.getD j 0) Ps.zero).s) (bs ((misL EE M of r rs).getD j Ps.zero).s) = if r = j then 1 else 0 := fun j hj => by
    rw [misL_get hj]
    by_cases e : r = j
    · subst e; rw [if_pos rfl, if_pos rfl]; exact h1
    · rw [if_neg e, if_neg e]; exact E_self _
  have hR := right_VP hx.perm hok
  have hc : sumD (dE EE (misL EE M of r rs)) (rightL of EE.length) ≤ 1 := by
    refine sumD_le_one (r := r) ?_ (fun p hm => ?_)
    · exact hR.mt.ne.imp (fun h => h.2)
    · obtain ⟨g1, g2⟩ := rightL_mem hm
      have g3 := idx_of hx.perm g1
      have g4 := hown (of.idxOf p.1) (by omega)
      rw [g3.2] at g4
      rw [g2, hd _ _ g1 (by omega), g4]
      refine ⟨fun e => by split <;> simp, fun e => by rw [if_neg (fun e2 => e e2.symm)]; simp⟩
  have hcost : costP (dE EE (misL EE M of r rs)) EE.length EE.length 0 0 (rightL of EE.length) = sumD (dE EE (misL EE M of r rs)) (rightL of EE.length) := by
    unfold costP
    rw [leftE_zero]
    simp [rightL]
    omega
  obtain ⟨r1, r2, r3, r4⟩ := best_few (dE_pos EE (misL EE M of r rs)) hB hR hcost (by omega)
  have hright : ∀ k, k < EE.length → of.getD ((best EE (misL EE M of r rs)).pairs.getD k (0, 0)).2 0 = k ∧ ((best EE (misL EE M of r rs)).pairs.getD k (0, 0)).1 = k ∧ ((best EE (misL EE M of r rs)).pairs.getD k (0, 0)).2 < of.length := fun k hk => by
    obtain ⟨s1, s2, s3⟩ := r4 k hk
    obtain ⟨j, hj⟩ : ∃ j, ((best EE (misL EE M of r rs)).pairs.getD k (0, 0)).2 = j := ⟨_, rfl⟩
    rw [hj] at s2 s3 ⊢
    rw [hd k j hk (by omega)] at s3
    have g4 := hown j (by omega)
    have ht := E_tri (bs (EE.getD k Ps.zero).s) (bs ((misL EE M of r rs).getD j Ps.zero).s) (bs (EE.getD (of.getD j 0) Ps.zero).s)
    rw [E_symm (bs ((misL EE M of r rs).getD j Ps.zero).s), g4] at ht
    have g5 : (if r = j then 1 else 0) ≤ 1 := by split <;> omega
    exact ⟨(hfar2 k _ hk (hofl j (by omega)) (by omega)).symm, s1, by omega⟩
  refine ⟨?_, r3, fun k hk => ?_⟩
  · -- the pair of the misread exit
    have hk0 := hofl r hr
    obtain ⟨t1, t2, t3⟩ := hright _ hk0
    have hjr := hinj _ _ t3 hr t1
    have hmem : (best EE (misL EE M of r rs)).pairs.getD (of.getD r 0) (0, 0) ∈ (best EE (misL EE M of r rs)).pairs := by
      rw [List.getD_eq_getElem?_getD, List.getElem?_eq_getElem (by omega)]
      exact List.getElem_mem (by omega)
    have hle := sumD_mem (dE_pos EE (misL EE M of r rs)) _ hmem
    rw [t2, hjr, hd _ _ hk0 hr, hown r hr, if_pos rfl] at hle
    omega
  · obtain ⟨t1, t2, t3⟩ := hright k hk
    exact ⟨_, by rw [toI_getD (by omega), t2], by rw [toI_getD (by omega)], t3, t1⟩
end Go.Proofs.YtmcodendnpjlaaaDoor
