/- The record of an accepted claim, in plain. -/
import Derived.Test.YtkfmmiekajgdjaaGreatNf43
import Derived.Test.YtkfmmiekajgdjaaGreatRp43
namespace Go.Proofs.YtkfmmiekajgdjaaGreat
open Go.RowKit

theorem ver_chained {c : ClA} (hv : verA c = 0) : chainedA c.seed c.rds = true := by
  cases h : chainedA c.seed c.rds with
  | true => rfl
  | false => rw [verA_def, if_pos h] at hv; cases hv
theorem ver_der {c : ClA} (hv : verA c = 0) : derOk c.rds = true ∧ cmpA c.s (folS c) = true := by
  rw [verA_def] at hv
  by_cases h1 : chainedA c.seed c.rds = false
  · rw [if_pos h1] at hv; cases hv
  rw [if_neg h1] at hv
  by_cases h2 : tarA c.nm c.arts = false
  · rw [if_pos h2] at hv; cases hv
  rw [if_neg h2] at hv
  by_cases h3 : datA c.off c.chg c.hol = false
  · rw [if_pos h3] at hv; cases hv
  rw [if_neg h3] at hv
  by_cases h4 : derOk c.rds = false
  · rw [if_pos h4] at hv; cases hv
  rw [if_neg h4] at hv
  by_cases h5 : cmpA c.s (folS c) = false
  · rw [if_pos h5] at hv; cases hv
  exact ⟨by simpa using h4, by simpa using h5⟩
/-- What an accepted claim's session says. -/
structure VerF (c : ClA) : Prop where
  len : c.rds.length ≤ 64
  all : ∀ x ∈ c.s.l, 0 ≤ x.2 ∧ x.2 ≤ 1000000000
  n : c.s.l.length ≤ 48
  sum : sumL c.s.l = energy c.rds (atN c.rds c.s.f c.rds.length) (c.rds.length - atN c.rds c.s.f c.rds.length)
theorem ver_facts {c : ClA} (hv : verA c = 0) : VerF c := by
  have h1 := chained_ok (ver_chained hv)
  obtain ⟨h2, h3⟩ := ver_der hv
  have h4 := derOk_ses h1 h2 none 0
  unfold cmpA at h3
  simp only [Bool.and_eq_true, decide_eq_true_eq] at h3
  have hf : c.s.f = derF c.rds := h3.1
  have hl : c.s.l = derL c.rds := h3.2.2.2
  refine ⟨h1.n64, ?_, ?_, ?_⟩
  · rw [hl]
    exact fun x hx => by have := h4.all x hx; omega
  · rw [hl]
    exact h4.n
  · rw [hl, hf]
    exact sum_derL h1
/-- The record of a claim, before it is closed. -/
def recOf (c : ClA) (r : Rc) : Rc := { r with fi := ((atN c.rds c.s.f c.rds.length : Nat) : Int), la := (c.rds.length : Int), am := c.b.tot }
/-- What its closing gives. -/
structure Recd (c : ClA) (r x : Rc) (k : K4) : Prop where
  ok : validC x = true
  chk : chkC x k = -1
  en : x.en = sumL c.s.l
  hs : x.hs = r.hs
  ho : x.ho = r.ho
  am : x.am = c.b.tot
theorem sgd_f (r : Rc) (k : K4) : (sgd r k 4).se = r.se ∧ (sgd r k 4).ch = r.ch ∧ (sgd r k 4).ca = r.ca ∧ (sgd r k 4).ho = r.ho ∧ (sgd r k 4).hs = r.hs ∧ (sgd r k 4).fi = r.fi ∧ (sgd r k 4).la = r.la ∧ (sgd r k 4).en = r.en ∧ (sgd r k 4).am = r.am := by
  simp only [sgd, and_self]
theorem validC_sgd (r : Rc) (k : K4) : validC (sgd r k 4) = validC r := by
  obtain ⟨a1, a2, a3, a4, a5, a6, a7, a8, a9⟩ := sgd_f r k
  unfold validC
  rw [a1, a2, a3, a4, a5, a6, a7, a8, a9]
theorem chkC_sgd {r : Rc} {k : K4} (h : validC r = true) : chkC (sgd r k 4) k = -1 := by
  refine chkC_all (by rw [validC_sgd]; exact h) ⟨fun _ => ?_, fun _ => ?_, fun _ => ?_, fun _ => ?_⟩ <;> rw [sig_sgd] <;> simp only [sgd]
theorem recd {c : ClA} {r : Rc} {k : K4} (hv : VerF c) (hc : clOk (recOf c r) c.rds = true) : Recd c r (sgd { recOf c r with en := enN c.rds (recOf c r).fi (recOf c r).la } k 4) k := by
  have he : enN c.rds (recOf c r).fi (recOf c r).la = sumL c.s.l := by
    unfold clOk at hc
    have h2 := (Bool.and_eq_true _ _ ▸ hc).2
    unfold enN
    rw [if_pos h2, hv.sum]
    show energy c.rds (((atN c.rds c.s.f c.rds.length : Nat) : Int)).toNat ((c.rds.length : Int) - ((atN c.rds c.s.f c.rds.length : Nat) : Int)).toNat = _
    have := atN_le c.rds c.s.f c.rds.length
    rw [Int.toNat_natCast, show ((c.rds.length : Int) - ((atN c.rds c.s.f c.rds.length : Nat) : Int)).toNat = c.rds.length - atN c.rds c.s.f c.rds.length by omega]
  rw [he]
  have hb := sumL_bound hv.all _ (Nat.le_refl _)
  rw [List.take_length] at hb
  have hn := hv.n
  have hval : validC { recOf c r with en := sumL c.s.l } = true := by
    unfold clOk at hc
    have h1 := (Bool.and_eq_true _ _ ▸ hc).1
    unfold validC enZero at h1
    unfold validC
    simp only [decide_eq_true_eq] at h1 ⊢
    omega
  obtain ⟨a1, a2, a3, a4, a5, a6, a7, a8, a9⟩ := sgd_f { recOf c r with en := sumL c.s.l } k
  exact ⟨by rw [validC_sgd]; exact hval, chkC_sgd hval, a8, a5, a4, a9⟩
/-- What the networks owe. -/
theorem owed {u d : Int} {a : Int} (hu : 0 ≤ u ∧ u ≤ 7) (hd : 0 ≤ d ∧ d ≤ 7) {i : Nat} (hi : i < 8) : (addAt (addAt (List.replicate 8 0) u.toNat a) d.toNat (-a)).getD i 0 = (if (i : Int) = u then a else 0) - (if (i : Int) = d then a else 0) := by
  have h0 : ∀ j, j < 8 → (List.replicate 8 (0 : Int)).getD j 0 = 0 := fun j hj => by
    rcases (by omega : j = 0 ∨ j = 1 ∨ j = 2 ∨ j = 3 ∨ j = 4 ∨ j = 5 ∨ j = 6 ∨ j = 7) with rfl | rfl | rfl | rfl | rfl | rfl | rfl | rfl <;> decide
  have h1 : ∀ (l : List Int) (j n : Nat) (x : Int), n < l.length → (addAt l n x).getD j 0 = l.getD j 0 + (if j = n then x else 0) := fun l j n x hn => by
    unfold addAt
    by_cases e : j = n
    · subst e
      rw [if_pos rfl]
      simp [List.getD_eq_getElem?_getD, hn]
    · rw [if_neg e]
      simp [List.getD_eq_getElem?_getD, List.getElem?_set_ne (Ne.symm e)]
  rw [h1 _ _ _ _ (by rw [addAt_len, List.length_replicate]; omega), h1 _ _ _ _ (by rw [List.length_replicate]; omega), h0 i hi]
  by_cases e1 : (i : Int) = u
  · rw [if_pos (by omega : i = u.toNat), if_pos e1]
    by_cases e2 : (i : Int) = d
    · rw [if_pos (by omega : i = d.toNat), if_pos e2]; omega
    · rw [if_neg (by omega : ¬ i = d.toNat), if_neg e2]; omega
  · rw [if_neg (by omega : ¬ i = u.toNat), if_neg e1]
    by_cases e2 : (i : Int) = d
    · rw [if_pos (by omega : i = d.toNat), if_pos e2]; omega
    · rw [if_neg (by omega : ¬ i = d.toNat), if_neg e2]; omega
end Go.Proofs.YtkfmmiekajgdjaaGreat
