/- Package auditor, in plain: the session that follows from readings. -/
import Derived.Test.YtkfmmiekajgdjaaGreatWo43
namespace Go.Proofs.YtkfmmiekajgdjaaGreat
open Go.RowKit

/-- What the first readings give: the end and the slices. -/
def derP (l : List Rd) : Nat → Int × List (Int × Int)
  | 0 => ((getR l 0).m, [])
  | k + 1 => if (getR l (k + 1)).s = (getR l k).s ∧ (getR l 0).m < (getR l (k + 1)).m then addP ((getR l (k + 1)).m - 1) ((getR l (k + 1)).r - (getR l k).r) (derP l k) else derP l k
def derF (l : List Rd) : Int := (getR l 0).m
def derT (l : List Rd) : Int := (getR l (l.length - 1)).m
def derE (l : List Rd) : Int := (derP l (l.length - 1)).1
def derL (l : List Rd) : List (Int × Int) := (derP l (l.length - 1)).2
def derHd (l : List Rd) : Bool := decide (derF l < derT l) && (decide (derT l - derF l ≤ 2880) && decide (((derL l).length : Int) ≤ 48))
def derSm (l : List Rd) : Bool := (derL l).all fun x => decide (x.2 ≤ 10000)
def derOk (l : List Rd) : Bool := derHd l && derSm l

/-- Readings that are a chain, but for their links. -/
structure ChOk (l : List Rd) : Prop where
  n1 : 1 ≤ l.length
  n64 : l.length ≤ 64
  m : ∀ k, k < l.length → 0 ≤ (getR l k).m ∧ (getR l k).m ≤ 52560000
  r : ∀ k, k < l.length → 0 ≤ (getR l k).r ∧ (getR l k).r ≤ 1000000000
  fl : ∀ k, k + 1 < l.length → followsA (getR l k) (getR l (k + 1)) = true
theorem follows_m {b x : Rd} (h : followsA b x = true) : b.m ≤ x.m := by
  unfold followsA at h
  split at h
  · simp only [Bool.and_eq_true, decide_eq_true_eq] at h; exact h.1
  · have := of_decide_eq_true h; omega
theorem follows_r {b x : Rd} (h : followsA b x = true) (hs : x.s = b.s) : b.r ≤ x.r := by
  unfold followsA at h
  rw [if_pos hs] at h
  simp only [Bool.and_eq_true, decide_eq_true_eq] at h
  exact h.2
theorem ChOk.mono {l : List Rd} (h : ChOk l) : ∀ {j k : Nat}, j ≤ k → k < l.length → (getR l j).m ≤ (getR l k).m
  | j, 0, h1, _ => by obtain rfl : j = 0 := by omega
                      exact Int.le_refl _
  | j, k + 1, h1, h2 => by
    by_cases e : j = k + 1
    · subst e; exact Int.le_refl _
    · exact Int.le_trans (h.mono (j := j) (k := k) (by omega) (by omega)) (follows_m (h.fl k h2))
/-- What the slices keep to. -/
structure DInv (f : Int) (k : Nat) (m : Int) (st : Int × List (Int × Int)) : Prop where
  fe : f ≤ st.1
  em : st.1 ≤ m
  n : st.2.length ≤ k
  all : ∀ x ∈ st.2, f ≤ x.1 ∧ x.1 < st.1 ∧ 0 ≤ x.2 ∧ x.2 ≤ 1000000000 * k
theorem DInv.wait {f m m' : Int} {k : Nat} {st : Int × List (Int × Int)} (h : DInv f k m st) (hm : m ≤ m') : DInv f (k + 1) m' st :=
  ⟨h.fe, Int.le_trans h.em hm, by have := h.n; omega, fun x hx => by have := h.all x hx; push_cast; omega⟩
theorem DInv.add {f m m' en : Int} {k : Nat} {st : Int × List (Int × Int)} (h : DInv f k m st) (hm : m ≤ m') (hf : f < m') (e0 : 0 ≤ en) (e1 : en ≤ 1000000000) : DInv f (k + 1) m' (addP (m' - 1) en st) := by
  unfold addP
  split
  · exact h.wait hm
  · split
    · next h2 =>
      have hin := getD_memP (show st.2.length - 1 < st.2.length by omega)
      have hx := h.all _ hin
      refine ⟨h.fe, Int.le_trans h.em hm, by simp; have := h.n; omega, fun x hx' => ?_⟩
      rcases List.mem_or_eq_of_mem_set hx' with h3 | h3
      · have := h.all x h3; push_cast; omega
      · subst h3
        simp only
        rw [← h2.2]
        push_cast
        omega
    · refine ⟨by show f ≤ m' - 1 + 1; omega, by show m' - 1 + 1 ≤ m'; omega, by simp; exact h.n, fun x hx' => ?_⟩
      show f ≤ x.1 ∧ x.1 < m' - 1 + 1 ∧ 0 ≤ x.2 ∧ x.2 ≤ 1000000000 * ((k + 1 : Nat) : Int)
      rcases List.mem_append.1 hx' with h3 | h3
      · have := h.all x h3; have := h.em; push_cast; omega
      · obtain rfl := List.mem_singleton.1 h3
        simp only
        push_cast
        omega
theorem derP_inv {l : List Rd} (h : ChOk l) : ∀ k, k < l.length → DInv (derF l) k (getR l k).m (derP l k)
  | 0, _ => ⟨Int.le_refl _, Int.le_refl _, Nat.le_refl _, fun x hx => by cases hx⟩
  | k + 1, hk => by
    have ih := derP_inv h k (by omega)
    have hm := follows_m (h.fl k hk)
    have hr1 := h.r (k + 1) hk
    have hr0 := h.r k (by omega)
    unfold derP
    split
    · next h2 =>
      have hr := follows_r (h.fl k hk) h2.1
      exact ih.add hm h2.2 (by omega) (by omega)
    · exact ih.wait hm
/-- Where the checks hold, the session is valid. -/
theorem derOk_ses {l : List Rd} (h : ChOk l) (hd : derOk l = true) (o : Option Addr) (cap : Nat) : SesOk ⟨derF l, derT l, derE l, o, cap, derL l⟩ := by
  unfold derOk derHd derSm at hd
  simp only [Bool.and_eq_true, decide_eq_true_eq, List.all_eq_true] at hd
  have hn := h.n1
  have hI := derP_inv h (l.length - 1) (by omega)
  exact ⟨(h.m 0 (by omega)).1, hI.fe, hI.em, hd.1.1, (h.m _ (by omega)).2, hd.1.2.1, by have := hd.1.2.2; show (derL l).length ≤ 48; omega, fun x hx => ⟨(hI.all x hx).1, (hI.all x hx).2.1, (hI.all x hx).2.2.1, hd.2 x hx⟩⟩
theorem chA_facts : ∀ (l : List Rd) (st i : Nat) (pv : Option Rd), chA st i pv l = true → (∀ k, k < l.length → ok2 (getR l k) = true) ∧ (∀ k, k + 1 < l.length → followsA (getR l k) (getR l (k + 1)) = true) ∧ (0 < l.length → ok3 pv (getR l 0) = true)
  | [], _, _, _, _ => ⟨fun k hk => absurd hk (Nat.not_lt_zero _), fun k hk => absurd hk (Nat.not_lt_zero _), fun hk => absurd hk (Nat.not_lt_zero _)⟩
  | x :: l, st, i, pv, h => by
    rw [chA_cons] at h
    simp only [Bool.and_eq_true] at h
    have ih := chA_facts l _ _ _ h.2.2.2.2
    refine ⟨fun k hk => ?_, fun k hk => ?_, fun _ => h.2.2.1⟩
    · cases k with
      | zero => exact h.2.1
      | succ k => exact ih.1 k (by simpa using hk)
    · cases k with
      | zero => exact ih.2.2 (by simpa using hk)
      | succ k => exact ih.2.1 k (by simpa using hk)
theorem chained_ok {seed : Nat} {l : List Rd} (h : chainedA seed l = true) : ChOk l := by
  unfold chainedA lenA at h
  simp only [Bool.and_eq_true, decide_eq_true_eq] at h
  obtain ⟨a, b, _⟩ := chA_facts l _ _ _ h.2
  have ok : ∀ k, k < l.length → (0 ≤ (getR l k).m ∧ (getR l k).m ≤ 52560000) ∧ (0 ≤ (getR l k).r ∧ (getR l k).r ≤ 1000000000) := fun k hk => by
    have := a k hk
    unfold ok2 at this
    simpa using this
  exact ⟨by omega, by omega, fun k hk => (ok k hk).1, fun k hk => (ok k hk).2, b⟩
end Go.Proofs.YtkfmmiekajgdjaaGreat
