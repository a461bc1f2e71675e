/- Flows and cuts, in plain: what a way of steps adds to a flow, and what a closed side proves. No program in sight. -/
import Derived.Test.YthgkfdhkmkbioaaUBase
namespace Go.Proofs.Ythgkfdhkmkbioaa

/-! ### Sums -/
def sumN : Nat → (Nat → Int) → Int
  | 0, _ => 0
  | n + 1, f => sumN n f + f n
theorem sumN_congr {f g : Nat → Int} : ∀ {n : Nat}, (∀ i, i < n → f i = g i) → sumN n f = sumN n g
  | 0, _ => rfl
  | n + 1, h => by
    unfold sumN
    rw [sumN_congr (fun i hi => h i (by omega)), h n (by omega)]
theorem sumN_add {f g : Nat → Int} : ∀ {n : Nat}, sumN n (fun i => f i + g i) = sumN n f + sumN n g
  | 0 => rfl
  | n + 1 => by unfold sumN; rw [sumN_add]; dsimp only; omega
theorem sumN_sub {f g : Nat → Int} : ∀ {n : Nat}, sumN n (fun i => f i - g i) = sumN n f - sumN n g
  | 0 => rfl
  | n + 1 => by unfold sumN; rw [sumN_sub]; dsimp only; omega
theorem sumN_zero {f : Nat → Int} : ∀ {n : Nat}, (∀ i, i < n → f i = 0) → sumN n f = 0
  | 0, _ => rfl
  | n + 1, h => by unfold sumN; rw [sumN_zero (fun i hi => h i (by omega)), h n (by omega)]; rfl
theorem sumN_le {f g : Nat → Int} : ∀ {n : Nat}, (∀ i, i < n → f i ≤ g i) → sumN n f ≤ sumN n g
  | 0, _ => Int.le_refl _
  | n + 1, h => by
    unfold sumN
    have h1 := sumN_le (f := f) (g := g) (n := n) (fun i hi => h i (by omega))
    have h2 := h n (by omega)
    omega
/-- Sums that are the same, of terms none of which is greater: the terms are the same. -/
theorem sumN_eq {f g : Nat → Int} : ∀ {n : Nat}, (∀ i, i < n → f i ≤ g i) → sumN n g ≤ sumN n f → ∀ i, i < n → f i = g i
  | 0, _, _, i, hi => absurd hi (Nat.not_lt_zero _)
  | n + 1, h, hs, i, hi => by
    replace hs : sumN n g + g n ≤ sumN n f + f n := hs
    have h1 := sumN_le (f := f) (g := g) (n := n) (fun i hi => h i (by omega))
    have h2 := h n (by omega)
    by_cases e : i = n
    · subst e; omega
    · exact sumN_eq (n := n) (fun i hi => h i (by omega)) (by omega) i (by omega)
theorem sumN_one {a : Nat} {x : Int} : ∀ {n : Nat}, sumN n (fun i => if i = a then x else 0) = if a < n then x else 0
  | 0 => by simp [sumN]
  | n + 1 => by
    unfold sumN
    rw [sumN_one]
    dsimp only
    by_cases h : n = a
    · subst h
      rw [if_neg (by omega), if_pos rfl, if_pos (by omega)]
      omega
    · rw [if_neg h]
      by_cases h2 : a < n
      · rw [if_pos h2, if_pos (by omega)]; omega
      · rw [if_neg h2, if_neg (by omega)]; omega
theorem sumN_swap {f : Nat → Nat → Int} {m : Nat} : ∀ {n : Nat}, sumN n (fun i => sumN m (fun j => f i j)) = sumN m (fun j => sumN n (fun i => f i j))
  | 0 => (sumN_zero fun _ _ => rfl).symm
  | n + 1 => by
    show sumN n (fun i => sumN m (fun j => f i j)) + sumN m (fun j => f n j) = sumN m (fun j => sumN n (fun i => f i j) + f n j)
    rw [sumN_swap, sumN_add]
theorem sumN_nonneg {f : Nat → Int} {n : Nat} (h : ∀ i, i < n → 0 ≤ f i) : 0 ≤ sumN n f := by
  have := sumN_le (f := fun _ => 0) (g := f) (n := n) h
  rwa [sumN_zero (fun _ _ => rfl)] at this
theorem sumN_shift {f : Nat → Int} : ∀ {n : Nat}, sumN (n + 1) f = f 0 + sumN n (fun i => f (i + 1))
  | 0 => by simp [sumN]
  | n + 1 => by
    rw [show sumN (n + 1 + 1) f = sumN (n + 1) f + f (n + 1) from rfl, sumN_shift, show sumN (n + 1) (fun i => f (i + 1)) = sumN n (fun i => f (i + 1)) + f (n + 1) from rfl]
    omega
/-- The sum of a list. -/
def sumI : List Int → Int
  | [] => 0
  | x :: l => x + sumI l
theorem sumI_append : ∀ {a b : List Int}, sumI (a ++ b) = sumI a + sumI b
  | [], b => by simp [sumI]
  | x :: a, b => by show x + sumI (a ++ b) = x + sumI a + sumI b; rw [sumI_append]; omega
theorem sumI_sumN : ∀ {l : List Int}, sumI l = sumN l.length (fun i => l.getD i 0)
  | [] => rfl
  | x :: l => by
    rw [List.length_cons, sumN_shift]
    show x + sumI l = _
    rw [sumI_sumN]
    rfl

/-! ### Networks -/
/-- An edge. -/
structure Ed where
  f : Nat
  t : Nat
  c : Int
def Ed.zero : Ed := ⟨0, 0, 0⟩
def getE (E : List Ed) (i : Nat) : Ed := E.getD i Ed.zero
/-- What leaves a node, less what comes to it. -/
def netL : List (Ed × Int) → Nat → Int
  | [], _ => 0
  | p :: l, w => (if p.1.f = w then p.2 else 0) - (if p.1.t = w then p.2 else 0) + netL l w
theorem netL_append {w : Nat} : ∀ {a b : List (Ed × Int)}, netL (a ++ b) w = netL a w + netL b w
  | [], b => by simp [netL]
  | p :: a, b => by
    show _ + netL (a ++ b) w = _ + netL a w + netL b w
    rw [netL_append]; omega
/-- More on one edge. -/
theorem netL_set {w : Nat} {d : Int} : ∀ {E : List Ed} {fl : List Int} {i : Nat}, E.length = fl.length → i < E.length →
    netL (E.zip (fl.set i (fl.getD i 0 + d))) w = netL (E.zip fl) w + ((if (getE E i).f = w then d else 0) - (if (getE E i).t = w then d else 0))
  | [], _, _, _, hi => absurd hi (Nat.not_lt_zero _)
  | _ :: _, [], _, h, _ => by cases h
  | e :: E, x :: fl, 0, h, _ => by
    show (if e.f = w then x + d else 0) - (if e.t = w then x + d else 0) + netL (E.zip fl) w = (if e.f = w then x else 0) - (if e.t = w then x else 0) + netL (E.zip fl) w + ((if e.f = w then d else 0) - (if e.t = w then d else 0))
    by_cases h1 : e.f = w <;> by_cases h2 : e.t = w
    · rw [if_pos h1, if_pos h1, if_pos h1, if_pos h2, if_pos h2, if_pos h2]; omega
    · rw [if_pos h1, if_pos h1, if_pos h1, if_neg h2, if_neg h2, if_neg h2]; omega
    · rw [if_neg h1, if_neg h1, if_neg h1, if_pos h2, if_pos h2, if_pos h2]; omega
    · rw [if_neg h1, if_neg h1, if_neg h1, if_neg h2, if_neg h2, if_neg h2]; omega
  | e :: E, x :: fl, i + 1, h, hi => by
    show (if e.f = w then x else 0) - (if e.t = w then x else 0) + netL (E.zip (fl.set i (fl.getD i 0 + d))) w = (if e.f = w then x else 0) - (if e.t = w then x else 0) + netL (E.zip fl) w + ((if (getE E i).f = w then d else 0) - (if (getE E i).t = w then d else 0))
    rw [netL_set (E := E) (fl := fl) (i := i) (by simpa using h) (by simpa using hi)]
    omega
theorem netL_none : ∀ {l : List (Ed × Int)} {w : Nat}, (∀ p ∈ l, p.1.f ≠ w ∧ p.1.t ≠ w) → netL l w = 0
  | [], _, _ => rfl
  | p :: l, w, h => by
    have := h p (List.mem_cons_self ..)
    unfold netL
    rw [if_neg this.1, if_neg this.2, netL_none (fun q hq => h q (List.mem_cons_of_mem _ hq))]
    rfl
/-- What leaves a side, less what comes to it. -/
def outL (S : Nat → Bool) : List (Ed × Int) → Int
  | [] => 0
  | p :: l => (if S p.1.f = true then p.2 else 0) - (if S p.1.t = true then p.2 else 0) + outL S l
theorem outL_sum {S : Nat → Bool} {N : Nat} : ∀ {l : List (Ed × Int)}, (∀ p ∈ l, p.1.f < N ∧ p.1.t < N) → sumN N (fun v => if S v = true then netL l v else 0) = outL S l
  | [], _ => sumN_zero fun i _ => by show (if S i = true then (0 : Int) else 0) = 0; split <;> rfl
  | p :: l, h => by
    have hp := h p (List.mem_cons_self ..)
    have ih := outL_sum (S := S) (l := l) (fun q hq => h q (List.mem_cons_of_mem _ hq))
    unfold outL
    rw [← ih]
    have e1 : sumN N (fun v => if S v = true then netL (p :: l) v else 0) = sumN N (fun v => ((if v = p.1.f then (if S p.1.f = true then p.2 else 0) else 0) - (if v = p.1.t then (if S p.1.t = true then p.2 else 0) else 0)) + (if S v = true then netL l v else 0)) := sumN_congr fun v _ => by
      show (if S v = true then (if p.1.f = v then p.2 else 0) - (if p.1.t = v then p.2 else 0) + netL l v else 0) = _
      by_cases h1 : v = p.1.f <;> by_cases h2 : v = p.1.t
      · rw [if_pos h1.symm, if_pos h2.symm, if_pos h1, if_pos h2, ← h1, ← h2]; split <;> omega
      · rw [if_pos h1.symm, if_neg (Ne.symm h2), if_pos h1, if_neg h2, ← h1]; split <;> omega
      · rw [if_neg (Ne.symm h1), if_pos h2.symm, if_neg h1, if_pos h2, ← h2]; split <;> omega
      · rw [if_neg (Ne.symm h1), if_neg (Ne.symm h2), if_neg h1, if_neg h2]; split <;> omega
    rw [e1, sumN_add, sumN_sub, sumN_one, sumN_one, if_pos hp.1, if_pos hp.2]
def capL (S : Nat → Bool) : List Ed → Int
  | [] => 0
  | e :: l => (if S e.f = true ∧ S e.t = false then e.c else 0) + capL S l
theorem capL_append {S : Nat → Bool} : ∀ {a b : List Ed}, capL S (a ++ b) = capL S a + capL S b
  | [], b => by simp [capL]
  | e :: a, b => by
    show _ + capL S (a ++ b) = _ + capL S a + capL S b
    rw [capL_append]; omega
theorem outL_cap {S : Nat → Bool} : ∀ {E : List Ed} {fl : List Int}, E.length = fl.length → (∀ i, i < E.length → (S (getE E i).f = true → S (getE E i).t = false → fl.getD i 0 = (getE E i).c) ∧ (S (getE E i).f = false → S (getE E i).t = true → fl.getD i 0 = 0)) → outL S (E.zip fl) = capL S E
  | [], _, _, _ => rfl
  | _ :: _, [], h, _ => by cases h
  | e :: E, x :: fl, hl, h => by
    have h0 := h 0 (by simp)
    have ih := outL_cap (S := S) (E := E) (fl := fl) (by simpa using hl) (fun i hi => h (i + 1) (by simpa using hi))
    have h1 : S e.f = true → S e.t = false → x = e.c := h0.1
    have h2 : S e.f = false → S e.t = true → x = 0 := h0.2
    show (if S e.f = true then x else 0) - (if S e.t = true then x else 0) + outL S (E.zip fl) = (if S e.f = true ∧ S e.t = false then e.c else 0) + capL S E
    rw [ih]
    cases hf : S e.f <;> cases ht : S e.t
    · simp
    · simp [h2 hf ht]
    · simp [h1 hf ht]
    · simp
/-- A flow of an amount from a source to a sink. -/
structure FlowOk (E : List Ed) (fl : List Int) (s t : Nat) (a : Int) : Prop where
  len : E.length = fl.length
  cap : ∀ i, i < E.length → 0 ≤ fl.getD i 0 ∧ fl.getD i 0 ≤ (getE E i).c
  net : ∀ v, v ≠ s → v ≠ t → netL (E.zip fl) v = 0
  src : netL (E.zip fl) s = a
/-- A side from which no step leads away. -/
structure Shut (E : List Ed) (fl : List Int) (S : Nat → Bool) : Prop where
  fw : ∀ i, i < E.length → S (getE E i).f = true → S (getE E i).t = false → fl.getD i 0 = (getE E i).c
  bw : ∀ i, i < E.length → S (getE E i).t = true → S (getE E i).f = false → fl.getD i 0 = 0
theorem mem_zip_left {E : List Ed} {fl : List Int} {p : Ed × Int} (h : p ∈ E.zip fl) : p.1 ∈ E := (List.of_mem_zip h).1
/-- The amount is the capacity of a cut. -/
theorem flow_cut {E : List Ed} {fl : List Int} {s t N : Nat} {a : Int} {S : Nat → Bool} (h : FlowOk E fl s t a) (hs : Shut E fl S) (hN : ∀ e ∈ E, e.f < N ∧ e.t < N) (hsN : s < N) (h1 : S s = true) (h2 : S t = false) : a = capL S E := by
  rw [← outL_cap (S := S) h.len (fun i hi => ⟨hs.fw i hi, fun a b => hs.bw i hi b a⟩), ← outL_sum (S := S) (N := N) (fun p hp => hN _ (mem_zip_left hp))]
  have : sumN N (fun v => if S v = true then netL (E.zip fl) v else 0) = sumN N (fun v => if v = s then a else 0) := sumN_congr fun v _ => by
    by_cases e : v = s
    · subst e; rw [if_pos h1, if_pos rfl, h.src]
    · rw [if_neg e]
      split
      · next hv => exact h.net v e (fun e2 => by rw [e2, h2] at hv; cases hv)
      · rfl
  rw [this, sumN_one, if_pos hsN]

/-! ### Steps and ways -/
/-- A step. -/
structure Stp where
  e : Nat
  to : Nat
  room : Int
  fw : Bool
def Stp.zero : Stp := ⟨0, 0, 0, false⟩
def getS (l : List Stp) (i : Nat) : Stp := l.getD i Stp.zero
def frm (E : List Ed) (x : Stp) : Nat := if x.fw = true then (getE E x.e).f else (getE E x.e).t
/-- A step to v with room left. -/
structure StpOk (E : List Ed) (fl : List Int) (v : Nat) (x : Stp) : Prop where
  e : x.e < E.length
  to : x.to = v
  fw : x.fw = true → (getE E x.e).t = v ∧ x.room = (getE E x.e).c - fl.getD x.e 0
  bw : x.fw = false → (getE E x.e).f = v ∧ x.room = fl.getD x.e 0
  room : 0 < x.room
/-- What was reached, and by which steps; rk: in which order. -/
structure Reach (E : List Ed) (fl : List Int) (N s : Nat) (seen : List Bool) (by' : List Stp) (rk : Nat → Nat) : Prop where
  ls : seen.length = N
  lb : by'.length = N
  sN : s < N
  src : seen.getD s false = true
  ok : ∀ v, v < N → seen.getD v false = true → v ≠ s → StpOk E fl v (getS by' v) ∧ frm E (getS by' v) < N ∧ seen.getD (frm E (getS by' v)) false = true ∧ rk (frm E (getS by' v)) < rk v
/-- The nodes on the way back from the sink. -/
def nd (E : List Ed) (by' : List Stp) (s t : Nat) : Nat → Nat
  | 0 => t
  | k + 1 => if nd E by' s t k = s then s else frm E (getS by' (nd E by' s t k))
theorem nd_succ {E : List Ed} {by' : List Stp} {s t k : Nat} (h : nd E by' s t k ≠ s) : nd E by' s t (k + 1) = frm E (getS by' (nd E by' s t k)) := by
  show (if nd E by' s t k = s then s else frm E (getS by' (nd E by' s t k))) = _
  rw [if_neg h]
theorem nd_seen {E : List Ed} {fl : List Int} {N s t : Nat} {seen : List Bool} {by' : List Stp} {rk : Nat → Nat} (h : Reach E fl N s seen by' rk) (ht : t < N) (h1 : seen.getD t false = true) : ∀ k, nd E by' s t k < N ∧ seen.getD (nd E by' s t k) false = true
  | 0 => ⟨ht, h1⟩
  | k + 1 => by
    have ih := nd_seen h ht h1 k
    by_cases e : nd E by' s t k = s
    · have e2 : nd E by' s t (k + 1) = s := by
        show (if nd E by' s t k = s then s else _) = _
        rw [if_pos e]
      rw [e2]; exact ⟨h.sN, h.src⟩
    · rw [nd_succ e]
      have := h.ok _ ih.1 ih.2 e
      exact ⟨this.2.1, this.2.2.1⟩
/-- Different nodes are reached by different edges. -/
theorem reach_edge {E : List Ed} {fl : List Int} {N s : Nat} {seen : List Bool} {by' : List Stp} {rk : Nat → Nat} (h : Reach E fl N s seen by' rk) {u v : Nat} (hu : u < N) (su : seen.getD u false = true) (us : u ≠ s) (hv : v < N) (sv : seen.getD v false = true) (vs : v ≠ s) (hne : u ≠ v) : (getS by' u).e ≠ (getS by' v).e := fun he => by
  obtain ⟨ou, _, _, ru⟩ := h.ok u hu su us
  obtain ⟨ov, _, _, rv⟩ := h.ok v hv sv vs
  unfold frm at ru rv
  cases fu : (getS by' u).fw <;> cases fv : (getS by' v).fw
  · have a := (ou.bw fu).1; have b := (ov.bw fv).1; rw [he] at a; omega
  · have a := (ou.bw fu).1; have b := (ov.fw fv).1
    rw [fu, if_neg (by decide)] at ru
    rw [fv, if_pos rfl] at rv
    rw [he] at a ru
    rw [a] at rv
    rw [b] at ru
    omega
  · have a := (ou.fw fu).1; have b := (ov.bw fv).1
    rw [fu, if_pos rfl] at ru
    rw [fv, if_neg (by decide)] at rv
    rw [he] at a ru
    rw [a] at rv
    rw [b] at ru
    omega
  · have a := (ou.fw fu).1; have b := (ov.fw fv).1; rw [he] at a; omega
/-- While the flow grows along the way: v is the node that is next. -/
structure AugSt (E : List Ed) (fl fl' : List Int) (N s t : Nat) (a r : Int) (seen : List Bool) (by' : List Stp) (rk : Nat → Nat) (v : Nat) : Prop where
  len : E.length = fl'.length
  cap : ∀ i, i < E.length → 0 ≤ fl'.getD i 0 ∧ fl'.getD i 0 ≤ (getE E i).c
  old : ∀ u, u < N → seen.getD u false = true → u ≠ s → rk u ≤ rk v → fl'.getD (getS by' u).e 0 = fl.getD (getS by' u).e 0
  net : ∀ w, netL (E.zip fl') w = netL (E.zip fl) w + ((if w = v then r else 0) - (if w = t then r else 0))
theorem aug_start {E : List Ed} {fl : List Int} {N s t : Nat} {a r : Int} {seen : List Bool} {by' : List Stp} {rk : Nat → Nat} (h : FlowOk E fl s t a) : AugSt E fl fl N s t a r seen by' rk t :=
  ⟨h.len, h.cap, fun _ _ _ _ _ => rfl, fun w => by omega⟩
/-- By how much the edge of a step changes. -/
def sgn (x : Stp) (r : Int) : Int := if x.fw = true then r else -r
theorem getD_set_self {l : List Int} {i : Nat} {x : Int} (h : i < l.length) : (l.set i x).getD i 0 = x := by simp [List.getD_eq_getElem?_getD, h]
theorem getD_set_ne {l : List Int} {i j : Nat} {x : Int} (h : i ≠ j) : (l.set i x).getD j 0 = l.getD j 0 := by simp [List.getD_eq_getElem?_getD, List.getElem?_set_ne h]
theorem ite_turn (a b : Nat) (x : Int) : (if a = b then x else 0) = (if b = a then x else 0) := by
  by_cases h : a = b
  · rw [if_pos h, if_pos h.symm]
  · rw [if_neg h, if_neg (Ne.symm h)]
theorem ite_three (p q u : Prop) [Decidable p] [Decidable q] [Decidable u] (X r : Int) : X + ((if p then r else 0) - (if u then r else 0)) + ((if p then -r else 0) - (if q then -r else 0)) = X + ((if q then r else 0) - (if u then r else 0)) := by
  by_cases hp : p <;> by_cases hq : q <;> by_cases hu : u <;> simp only [hp, hq, hu, if_true, if_false] <;> omega
theorem ite_three' (p q u : Prop) [Decidable p] [Decidable q] [Decidable u] (X r : Int) : X + ((if p then r else 0) - (if u then r else 0)) + ((if q then r else 0) - (if p then r else 0)) = X + ((if q then r else 0) - (if u then r else 0)) := by
  by_cases hp : p <;> by_cases hq : q <;> by_cases hu : u <;> simp only [hp, hq, hu, if_true, if_false] <;> omega
theorem aug_step {E : List Ed} {fl fl' : List Int} {N s t : Nat} {a r : Int} {seen : List Bool} {by' : List Stp} {rk : Nat → Nat} {v : Nat} (hR : Reach E fl N s seen by' rk) (h : AugSt E fl fl' N s t a r seen by' rk v) (hv : v < N) (sv : seen.getD v false = true) (vs : v ≠ s) (r0 : 0 ≤ r) (r1 : r ≤ (getS by' v).room) :
    AugSt E fl (fl'.set (getS by' v).e (fl'.getD (getS by' v).e 0 + sgn (getS by' v) r)) N s t a r seen by' rk (frm E (getS by' v)) := by
  obtain ⟨ov, fN, _, rv⟩ := hR.ok v hv sv vs
  have he := ov.e
  have ho := h.old v hv sv vs (Nat.le_refl _)
  have hl := h.len
  refine ⟨by simp [hl], fun i hi => ?_, fun u hu su us hur => ?_, fun w => ?_⟩
  · by_cases e : i = (getS by' v).e
    · subst e
      rw [getD_set_self (by omega), ho]
      have hc := h.cap _ he
      rw [ho] at hc
      unfold sgn
      cases hf : (getS by' v).fw
      · have := (ov.bw hf).2; rw [if_neg (by decide)]; omega
      · have := (ov.fw hf).2; rw [if_pos rfl]; omega
    · rw [getD_set_ne (fun h => e h.symm)]
      exact h.cap i hi
  · have hne : u ≠ v := fun e => by subst e; omega
    rw [getD_set_ne (fun h2 => reach_edge hR hu su us hv sv vs hne h2.symm)]
    exact h.old u hu su us (by omega)
  · rw [netL_set hl he, h.net w]
    cases hf : (getS by' v).fw
    · have a1 := (ov.bw hf).1
      have e1 : frm E (getS by' v) = (getE E (getS by' v).e).t := by unfold frm; rw [hf]; rfl
      have e2 : sgn (getS by' v) r = -r := by unfold sgn; rw [hf]; rfl
      rw [e1, e2, a1, ite_turn v w, ite_turn _ w]
      exact ite_three ..
    · have a1 := (ov.fw hf).1
      have e1 : frm E (getS by' v) = (getE E (getS by' v).e).f := by unfold frm; rw [hf]; rfl
      have e2 : sgn (getS by' v) r = r := by unfold sgn; rw [hf]; rfl
      rw [e1, e2, a1, ite_turn v w, ite_turn _ w]
      exact ite_three' ..
theorem aug_end {E : List Ed} {fl fl' : List Int} {N s t : Nat} {a r : Int} {seen : List Bool} {by' : List Stp} {rk : Nat → Nat} (hF : FlowOk E fl s t a) (h : AugSt E fl fl' N s t a r seen by' rk s) (hst : s ≠ t) : FlowOk E fl' s t (a + r) :=
  ⟨h.len, h.cap, fun v v1 v2 => by rw [h.net v, hF.net v v1 v2, if_neg v1, if_neg v2]; rfl, by rw [h.net s, hF.src, if_pos rfl, if_neg hst]; omega⟩
/-- No flow is greater than what the source's edges take. -/
theorem netL_le {w : Nat} : ∀ {E : List Ed} {fl : List Int}, E.length = fl.length → (∀ i, i < E.length → 0 ≤ fl.getD i 0 ∧ fl.getD i 0 ≤ (getE E i).c) → netL (E.zip fl) w ≤ capL (fun v => v == w) E
  | [], _, _, _ => Int.le_refl _
  | _ :: _, [], h, _ => by cases h
  | e :: E, x :: fl, hl, h => by
    have ih := netL_le (w := w) (E := E) (fl := fl) (by simpa using hl) (fun i hi => h (i + 1) (by simpa using hi))
    have h0 : 0 ≤ x ∧ x ≤ e.c := h 0 (by simp)
    show (if e.f = w then x else 0) - (if e.t = w then x else 0) + netL (E.zip fl) w ≤ (if (e.f == w) = true ∧ (e.t == w) = false then e.c else 0) + capL (fun v => v == w) E
    by_cases h1 : e.f = w <;> by_cases h2 : e.t = w
    · rw [if_pos h1, if_pos h2, if_neg (by simp [h2])]; omega
    · rw [if_pos h1, if_neg h2, if_pos (by simp [h1, h2])]; omega
    · rw [if_neg h1, if_pos h2, if_neg (by simp [h1])]; omega
    · rw [if_neg h1, if_neg h2, if_neg (by simp [h1])]; omega
theorem capL_le {S : Nat → Bool} {M : Int} (hM : 0 ≤ M) : ∀ {E : List Ed}, (∀ e ∈ E, e.c ≤ M) → capL S E ≤ M * E.length
  | [], _ => by simp [capL]
  | e :: E, h => by
    have ih := capL_le (S := S) hM (E := E) (fun x hx => h x (List.mem_cons_of_mem _ hx))
    have h0 := h e (List.mem_cons_self ..)
    have e1 : M * ((e :: E).length : Int) = M * (E.length : Int) + M := by rw [List.length_cons]; push_cast; rw [Int.mul_add, Int.mul_one]
    rw [e1]
    unfold capL
    split <;> omega
end Go.Proofs.Ythgkfdhkmkbioaa
