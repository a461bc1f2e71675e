/- What is metered minute by minute, in plain: the claim, and that it is accepted. -/
import Derived.Test.YtkfmmiekajgdjaaGreatPm43
namespace Go.Proofs.YtkfmmiekajgdjaaGreat
open Go.RowKit

def apOk (f : Int) (k : Nat) : Bool := decide (0 ≤ f) && decide (f + (k : Int) ≤ 52560000)
theorem apOk_iff {f : Int} {k : Nat} : apOk f k = true ↔ 0 ≤ f ∧ f + (k : Int) ≤ 52560000 := by unfold apOk; simp
def metOk (c : ClA) (f : Int) (ms : List (Nat × Nat)) : Bool := apOk f ms.length && billOk c ⟨f, f + ms.length, metE ms f ms.length, none, 0, metS ms f ms.length⟩
/-- The claim that is metered; od, cd, os, cs, ob, cb: where its readings, slices and lines lie. -/
@[reducible] def claimM (c : ClA) (hs : c.seed < 18446744073709551616) (f : Int) (ms : List (Nat × Nat)) (od : Option Addr) (cd : Nat) (os : Option Addr) (cs : Nat) (ob : Option Addr) (cb : Nat) : ClA :=
  { c with od := od, cd := cd, rds := metL c.seed hs ms f ms.length, s := ⟨f, f + ms.length, metE ms f ms.length, os, cs, metS ms f ms.length⟩, b := ⟨ob, cb, linA c ⟨f, f + ms.length, metE ms f ms.length, os, cs, metS ms f ms.length⟩ c.arts.length, netB c ⟨f, f + ms.length, metE ms f ms.length, os, cs, metS ms f ms.length⟩, taxB c ⟨f, f + ms.length, metE ms f ms.length, os, cs, metS ms f ms.length⟩, netB c ⟨f, f + ms.length, metE ms f ms.length, os, cs, metS ms f ms.length⟩ + taxB c ⟨f, f + ms.length, metE ms f ms.length, os, cs, metS ms f ms.length⟩⟩ }

theorem costA_eq (a : Art) {c d : ClA} {s t : SesA} (h1 : d.off = c.off) (h2 : d.chg = c.chg) (h3 : d.hol = c.hol) (g1 : t.f = s.f) (g2 : t.t = s.t) (g3 : t.e = s.e) (g4 : t.l = s.l) : costA a d t = costA a c s := by
  obtain ⟨nm, oa, ca, arts, off, oc, cc, chg, oh, ch, hol, od, cd, rds, seed, ss, b⟩ := c
  obtain ⟨nm', oa', ca', arts', off', oc', cc', chg', oh', ch', hol', od', cd', rds', seed', ss', b'⟩ := d
  obtain ⟨f, tt, e, o, cap, l⟩ := s
  obtain ⟨f', tt', e', o', cap', l'⟩ := t
  dsimp only at h1 h2 h3 g1 g2 g3 g4
  subst h1 h2 h3 g1 g2 g3 g4
  have hap : ∀ m, appA a ⟨nm', oa', ca', arts', off', oc', cc', chg', oh', ch', hol', od', cd', rds', seed', ss', b'⟩ m = appA a ⟨nm, oa, ca, arts, off', oc, cc, chg', oh, ch, hol', od, cd, rds, seed, ss, b⟩ m := fun _ => rfl
  have hen : ∀ l, engA a ⟨nm', oa', ca', arts', off', oc', cc', chg', oh', ch', hol', od', cd', rds', seed', ss', b'⟩ l = engA a ⟨nm, oa, ca, arts, off', oc, cc, chg', oh, ch, hol', od, cd, rds, seed, ss, b⟩ l := fun _ => rfl
  have hcn : ∀ f n, cntA a ⟨nm', oa', ca', arts', off', oc', cc', chg', oh', ch', hol', od', cd', rds', seed', ss', b'⟩ f n = cntA a ⟨nm, oa, ca, arts, off', oc, cc, chg', oh, ch, hol', od, cd, rds, seed, ss, b⟩ f n := fun f n => by
    induction n with
    | zero => rfl
    | succ n ih => unfold cntA; rw [ih, hap]
  have hst : ∀ f t, startedA a ⟨nm', oa', ca', arts', off', oc', cc', chg', oh', ch', hol', od', cd', rds', seed', ss', b'⟩ f t = startedA a ⟨nm, oa, ca, arts, off', oc, cc, chg', oh, ch, hol', od, cd, rds, seed, ss, b⟩ f t := fun f t => by
    unfold startedA; rw [hcn]
  unfold costA
  simp only [hap, hen, hst]
theorem linA_eq {c d : ClA} {s t : SesA} (h0 : d.arts = c.arts) (h1 : d.off = c.off) (h2 : d.chg = c.chg) (h3 : d.hol = c.hol) (g1 : t.f = s.f) (g2 : t.t = s.t) (g3 : t.e = s.e) (g4 : t.l = s.l) : ∀ k, linA d t k = linA c s k
  | 0 => rfl
  | k + 1 => by
    have ih := linA_eq h0 h1 h2 h3 g1 g2 g3 g4 k
    unfold linA
    rw [ih, h0, costA_eq _ h1 h2 h3 g1 g2 g3 g4]

/-- The readings of a meter lead to the session that it was metered for. -/
theorem met_der (seed : Nat) (hs : seed < 18446744073709551616) (ms : List (Nat × Nat)) (f : Int) (n : Nat) : ∀ k, k ≤ n → derP (metL seed hs ms f n) k = (metE ms f k, metS ms f k)
  | 0, _ => by
    have := metL_get seed hs ms f n 0 (Nat.zero_le _)
    show ((getR (metL seed hs ms f n) 0).m, ([] : List (Int × Int))) = (f, [])
    rw [this.2.1]
    simp
  | k + 1, hk => by
    have ih := met_der seed hs ms f n k (by omega)
    obtain ⟨a1, a2, a3⟩ := metL_get seed hs ms f n k (by omega)
    obtain ⟨b1, b2, b3⟩ := metL_get seed hs ms f n (k + 1) hk
    obtain ⟨_, c2, _⟩ := metL_get seed hs ms f n 0 (Nat.zero_le _)
    unfold derP
    rw [ih, a1, a3, b1, b2, b3, c2, if_pos ⟨rfl, by push_cast; omega⟩]
    rw [show metE ms f (k + 1) = if whN ms (k + 1) = whN ms k then metE ms f k else f + k + 1 from rfl, show metS ms f (k + 1) = if whN ms (k + 1) = whN ms k then metS ms f k else metS ms f k ++ [(f + k, whN ms (k + 1) - whN ms k)] from rfl]
    unfold addP
    by_cases h : whN ms (k + 1) = whN ms k
    · rw [if_pos (by omega), if_pos h, if_pos h]
    · rw [if_neg (by omega), if_neg h, if_neg h, if_neg]
      · have e : f + ((k + 1 : Nat) : Int) - 1 = f + (k : Int) := by push_cast; omega
        rw [e]
      · rintro ⟨h1, h2⟩
        replace h1 : 0 < (metS ms f k).length := h1
        replace h2 : ((metS ms f k).getD ((metS ms f k).length - 1) (0, 0)).1 = f + ((k + 1 : Nat) : Int) - 1 := h2
        have hin := getD_memP (show (metS ms f k).length - 1 < (metS ms f k).length by omega)
        have := metS_min ms f k _ hin
        push_cast at h2
        omega
theorem met_fol {c : ClA} {hs : c.seed < 18446744073709551616} {f : Int} {ms : List (Nat × Nat)} {od : Option Addr} {cd : Nat} {os : Option Addr} {cs : Nat} {ob : Option Addr} {cb : Nat} : folS (claimM c hs f ms od cd os cs ob cb) = ⟨f, f + ms.length, metE ms f ms.length, none, 0, metS ms f ms.length⟩ := by
  have hl := metL_len c.seed hs ms f ms.length
  have hd := met_der c.seed hs ms f ms.length ms.length (Nat.le_refl _)
  have h0 := metL_get c.seed hs ms f ms.length 0 (Nat.zero_le _)
  have hn := metL_get c.seed hs ms f ms.length ms.length (Nat.le_refl _)
  unfold folS derF derT derE derL
  show (⟨(getR (metL c.seed hs ms f ms.length) 0).m, (getR (metL c.seed hs ms f ms.length) ((metL c.seed hs ms f ms.length).length - 1)).m, (derP (metL c.seed hs ms f ms.length) ((metL c.seed hs ms f ms.length).length - 1)).1, none, 0, (derP (metL c.seed hs ms f ms.length) ((metL c.seed hs ms f ms.length).length - 1)).2⟩ : SesA) = _
  rw [hl, show ms.length + 1 - 1 = ms.length from rfl, hd, hn.2.1, h0.2.1]
  simp
/-- What is metered is accepted. -/
theorem met_ver {c : ClA} {hs : c.seed < 18446744073709551616} {f : Int} {ms : List (Nat × Nat)} {od : Option Addr} {cd : Nat} {os : Option Addr} {cs : Nat} {ob : Option Addr} {cb : Nat} (hk : ms.length ≤ 40) (h : metOk c f ms = true) : verA (claimM c hs f ms od cd os cs ob cb) = 0 := by
  unfold metOk billOk at h
  simp only [Bool.and_eq_true] at h
  obtain ⟨ha, ht, hd, hb, hsm⟩ := h
  rw [apOk_iff] at ha
  have hl := metL_len c.seed hs ms f ms.length
  have hfs := met_fol (c := c) (hs := hs) (f := f) (ms := ms) (od := od) (cd := cd) (os := os) (cs := cs) (ob := ob) (cb := cb)
  have hch : chainedA c.seed (metL c.seed hs ms f ms.length) = true := (chained_iff _ _).2 ⟨by omega, by omega, met_chain c.seed hs ms f ha.1 ms.length hk ha.2⟩
  have hso := sesB_ok hb
  have e1 : derF (metL c.seed hs ms f ms.length) = f := congrArg SesA.f hfs
  have e2 : derT (metL c.seed hs ms f ms.length) = f + ms.length := congrArg SesA.t hfs
  have e3 : derE (metL c.seed hs ms f ms.length) = metE ms f ms.length := congrArg SesA.e hfs
  have e4 : derL (metL c.seed hs ms f ms.length) = metS ms f ms.length := congrArg SesA.l hfs
  have hdr : derOk (metL c.seed hs ms f ms.length) = true := by
    unfold derOk derHd derSm
    rw [e1, e2, e4]
    have h1 : f < f + (ms.length : Int) := hso.ft
    have h2 : f + (ms.length : Int) - f ≤ 2880 := hso.len
    have h3 : (metS ms f ms.length).length ≤ 48 := hso.n
    have h4 : ∀ x ∈ metS ms f ms.length, x.2 ≤ 10000 := fun x hx => (hso.all x hx).2.2.2
    simp only [Bool.and_eq_true, decide_eq_true_eq, List.all_eq_true]
    exact ⟨⟨h1, h2, by omega⟩, h4⟩
  have hlin : ∀ k, linA (claimM c hs f ms od cd os cs ob cb) (folS (claimM c hs f ms od cd os cs ob cb)) k = linA c ⟨f, f + ms.length, metE ms f ms.length, os, cs, metS ms f ms.length⟩ k := by rw [hfs]; exact linA_eq rfl rfl rfl rfl rfl rfl rfl rfl
  have hlin0 : ∀ k, linA c ⟨f, f + ms.length, metE ms f ms.length, none, 0, metS ms f ms.length⟩ k = linA c ⟨f, f + ms.length, metE ms f ms.length, os, cs, metS ms f ms.length⟩ k := linA_eq rfl rfl rfl rfl rfl rfl rfl rfl
  have hnet : netA (claimM c hs f ms od cd os cs ob cb) = netB c ⟨f, f + ms.length, metE ms f ms.length, os, cs, metS ms f ms.length⟩ := by
    unfold netA netB
    rw [hlin]
  have hnet0 : netB c ⟨f, f + ms.length, metE ms f ms.length, none, 0, metS ms f ms.length⟩ = netB c ⟨f, f + ms.length, metE ms f ms.length, os, cs, metS ms f ms.length⟩ := by
    unfold netB
    rw [hlin0]
  unfold sumOk at hsm
  simp only [Bool.and_eq_true] at hsm
  have hlo : linOk (claimM c hs f ms od cd os cs ob cb) (folS (claimM c hs f ms od cd os cs ob cb)) = true := by
    have := hsm.1
    unfold linOk at this ⊢
    rw [hlin0] at this
    rw [hlin]
    exact this
  have hcm : cmpA (claimM c hs f ms od cd os cs ob cb).s (folS (claimM c hs f ms od cd os cs ob cb)) = true := by
    rw [hfs]
    unfold cmpA
    simp
  have had : addOk (netA (claimM c hs f ms od cd os cs ob cb)) (rateN c.arts) = true := by
    rw [hnet, ← hnet0]
    exact hsm.2
  rw [verA_def]
  rw [if_neg (by rw [hch]; decide), if_neg (by rw [ht]; decide), if_neg (by rw [hd]; decide), if_neg (by rw [hdr]; decide), if_neg (by rw [hcm]; decide), if_neg (by rw [hlo]; decide), if_neg, if_neg (by rw [had]; decide), if_neg]
  · rw [Bool.not_eq_false]
    unfold sumsA
    rw [hnet]
    simp only [taxB, decide_true, Bool.and_self]
  · rw [hlin]
    simp
end Go.Proofs.YtkfmmiekajgdjaaGreat
