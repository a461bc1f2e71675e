/- Plans and cuts, in plain: what the graph of jobs says. No program in sight. -/
import Derived.Test.YthgkfdhkmkbioaaPg21
namespace Go.Proofs.Ythgkfdhkmkbioaa

/-! ### More sums -/
theorem sumN_split {f : Nat → Int} {a : Nat} : ∀ {b : Nat}, sumN (a + b) f = sumN a f + sumN b (fun i => f (a + i))
  | 0 => by simp [sumN]
  | b + 1 => by
    show sumN (a + b) f + f (a + b) = sumN a f + (sumN b (fun i => f (a + i)) + f (a + b))
    rw [sumN_split]; omega
theorem sumN_pick {g : Nat → Int} {a : Nat} : ∀ {n : Nat}, sumN n (fun d => if d = a then g d else 0) = if a < n then g a else 0
  | 0 => by simp [sumN]
  | n + 1 => by
    unfold sumN
    rw [sumN_pick]
    try dsimp only
    by_cases h : n = a
    · subst h
      rw [if_neg (by omega), if_pos rfl, if_pos (by omega)]
      omega
    · rw [if_neg h]
      by_cases h2 : a < n
      · rw [if_pos h2, if_pos (by omega)]; omega
      · rw [if_neg h2, if_neg (by omega)]; omega
/-- The terms of a stretch. -/
theorem sumN_range {g : Nat → Int} {f : Nat} : ∀ {m T : Nat}, f ≤ T → T ≤ m → sumN m (fun t => if f ≤ t ∧ t < T then g (t - f) else 0) = sumN (T - f) g
  | 0, T, h1, h2 => by
    obtain rfl : T = 0 := by omega
    rw [Nat.zero_sub]; rfl
  | m + 1, T, h1, h2 => by
    show sumN m (fun t => if f ≤ t ∧ t < T then g (t - f) else 0) + (if f ≤ m ∧ m < T then g (m - f) else 0) = _
    by_cases e : T = m + 1
    · subst e
      by_cases e2 : f = m + 1
      · subst e2
        rw [if_neg (by omega), Nat.sub_self, sumN_zero (fun i hi => if_neg (by omega))]
        rfl
      · rw [if_pos (by omega), sumN_congr (g := fun t => if f ≤ t ∧ t < m then g (t - f) else 0) (fun i hi => by
          by_cases h : f ≤ i
          · rw [if_pos ⟨h, by omega⟩, if_pos ⟨h, hi⟩]
          · rw [if_neg (fun h2 => h h2.1), if_neg (fun h2 => h h2.1)]), sumN_range (m := m) (T := m) (by omega) (Nat.le_refl _), show m + 1 - f = (m - f) + 1 by omega]
        rfl
    · rw [if_neg (by omega), sumN_range (m := m) (T := T) h1 (by omega)]
      omega
theorem sumN_at {g : Nat → Int} {f L t : Nat} : sumN L (fun d => if f + d = t then g d else 0) = if f ≤ t ∧ t < f + L then g (t - f) else 0 := by
  by_cases h : f ≤ t
  · rw [sumN_congr (g := fun d => if d = t - f then g d else 0) (fun d _ => by
      by_cases e : d = t - f
      · rw [if_pos e, if_pos (by omega)]
      · rw [if_neg e, if_neg (by omega)]), sumN_pick]
    by_cases h2 : t - f < L
    · rw [if_pos h2, if_pos ⟨h, by omega⟩]
    · rw [if_neg h2, if_neg (by omega)]
  · rw [sumN_zero (fun d _ => if_neg (by omega)), if_neg (by omega)]
theorem sumN_if {c : Prop} [Decidable c] {f : Nat → Int} {n : Nat} : sumN n (fun i => if c then f i else 0) = if c then sumN n f else 0 := by
  by_cases h : c
  · simp only [h, if_true]
  · simp only [h, if_false]; exact sumN_zero fun _ _ => rfl

/-! ### Plans and cuts -/
def rateAt (j : Jb) (t : Nat) : Int := if j.f ≤ t ∧ (t : Int) < j.t then j.r else 0
/-- A plan that meets all jobs. -/
structure PlanOk (J : List Jb) (S : List Int) (P : Nat → Nat → Int) : Prop where
  cap : ∀ i, i < J.length → ∀ t, t < S.length → 0 ≤ P i t ∧ P i t ≤ rateAt (getJ J i) t
  met : ∀ i, i < J.length → sumN S.length (P i) = (getJ J i).e
  fit : ∀ t, t < S.length → sumN J.length (fun i => P i t) ≤ S.getD t 0
def needC (J : List Jb) (C : Nat → Bool) : Int := sumN J.length (fun i => if C i = true then (getJ J i).e else 0)
def roomC (J : List Jb) (S : List Int) (C T : Nat → Bool) : Int := sumN S.length (fun t => if T t = true then S.getD t 0 else 0) + sumN J.length (fun i => if C i = true then sumN S.length (fun t => if T t = true then 0 else rateAt (getJ J i) t) else 0)
/-- A cut that shows that some jobs cannot be met. -/
def CutOk (J : List Jb) (S : List Int) (C T : Nat → Bool) : Prop := roomC J S C T < needC J C
def giveC (J : List Jb) (S : List Int) (C : Nat → Bool) : Int := sumN S.length (fun t => min (S.getD t 0) (sumN J.length (fun i => if C i = true then rateAt (getJ J i) t else 0)))
theorem rateAt_nonneg {m : Nat} {j : Jb} (h : OkJ m j) (t : Nat) : 0 ≤ rateAt j t := by
  unfold rateAt
  split
  · exact h.r0
  · exact Int.le_refl _
/-- With a plan, no set needs more than all slots can give to it. -/
theorem plan_hall {J : List Jb} {S : List Int} {P : Nat → Nat → Int} (h : PlanOk J S P) (C : Nat → Bool) : needC J C ≤ giveC J S C := by
  have e1 : needC J C = sumN S.length (fun t => sumN J.length (fun i => if C i = true then P i t else 0)) := by
    unfold needC
    rw [← sumN_swap]
    exact sumN_congr fun i hi => by rw [sumN_if, h.met i hi]
  rw [e1]
  refine sumN_le fun t ht => ?_
  have a1 : sumN J.length (fun i => if C i = true then P i t else 0) ≤ S.getD t 0 := by
    refine Int.le_trans (sumN_le fun i hi => ?_) (h.fit t ht)
    try dsimp only
    split
    · exact Int.le_refl _
    · exact (h.cap i hi t ht).1
  have a2 : sumN J.length (fun i => if C i = true then P i t else 0) ≤ sumN J.length (fun i => if C i = true then rateAt (getJ J i) t else 0) := sumN_le fun i hi => by
    try dsimp only
    split
    · exact (h.cap i hi t ht).2
    · exact Int.le_refl _
  exact Int.le_min.2 ⟨a1, a2⟩
/-- With a cut, its set needs more than all slots can give to it. -/
theorem cut_hall {J : List Jb} {S : List Int} {C T : Nat → Bool} (h : CutOk J S C T) : giveC J S C < needC J C := by
  refine Int.lt_of_le_of_lt ?_ h
  have e1 : roomC J S C T = sumN S.length (fun t => (if T t = true then S.getD t 0 else 0) + sumN J.length (fun i => if C i = true then (if T t = true then 0 else rateAt (getJ J i) t) else 0)) := by
    unfold roomC
    rw [sumN_add, ← sumN_swap]
    congr 1
    exact sumN_congr fun i hi => by rw [sumN_if]
  rw [e1]
  refine sumN_le fun t ht => ?_
  by_cases hT : T t = true
  · rw [if_pos hT]
    have : sumN J.length (fun i => if C i = true then (if T t = true then 0 else rateAt (getJ J i) t) else 0) = 0 := sumN_zero fun i _ => by rw [if_pos hT]; split <;> rfl
    rw [this]
    have := Int.min_le_left (S.getD t 0) (sumN J.length (fun i => if C i = true then rateAt (getJ J i) t else 0))
    omega
  · rw [if_neg hT]
    have : sumN J.length (fun i => if C i = true then (if T t = true then 0 else rateAt (getJ J i) t) else 0) = sumN J.length (fun i => if C i = true then rateAt (getJ J i) t else 0) := sumN_congr fun i _ => by rw [if_neg hT]
    rw [this]
    have := Int.min_le_right (S.getD t 0) (sumN J.length (fun i => if C i = true then rateAt (getJ J i) t else 0))
    omega
/-- A plan and a cut: never both. -/
theorem plan_cut {J : List Jb} {S : List Int} {P : Nat → Nat → Int} {C T : Nat → Bool} (h : PlanOk J S P) (hc : CutOk J S C T) : False := by
  have h1 := plan_hall h C
  have h2 := cut_hall hc
  omega

/-! ### The graph of jobs -/
def lenJ (j : Jb) : Nat := j.t.toNat - j.f.toNat
def gA (J : List Jb) (k : Nat) : List Ed := (List.range k).map fun i => ⟨0, 2 + i, (getJ J i).e⟩
def gB (n : Nat) (S : List Int) (k : Nat) : List Ed := (List.range k).map fun t => ⟨2 + n + t, 1, S.getD t 0⟩
def gR (n i : Nat) (j : Jb) : List Ed := (List.range (lenJ j)).map fun d => ⟨2 + i, 2 + n + (j.f.toNat + d), j.r⟩
def gC (J : List Jb) (n : Nat) : Nat → List Ed
  | 0 => []
  | k + 1 => gC J n k ++ gR n k (getJ J k)
def graph (J : List Jb) (S : List Int) : List Ed := gA J J.length ++ gB J.length S S.length ++ gC J J.length J.length
def offJ (J : List Jb) : Nat → Nat
  | 0 => 0
  | k + 1 => offJ J k + lenJ (getJ J k)
theorem gA_len (J : List Jb) (k : Nat) : (gA J k).length = k := by simp [gA]
theorem gB_len (n : Nat) (S : List Int) (k : Nat) : (gB n S k).length = k := by simp [gB]
theorem gC_len (J : List Jb) (n : Nat) : ∀ k, (gC J n k).length = offJ J k
  | 0 => rfl
  | k + 1 => by
    show (gC J n k ++ gR n k (getJ J k)).length = _
    rw [List.length_append, gC_len J n k]
    simp [gR, offJ]
theorem gA_succ (J : List Jb) (k : Nat) : gA J (k + 1) = gA J k ++ [⟨0, 2 + k, (getJ J k).e⟩] := by simp [gA, List.range_succ]
theorem gB_succ (n : Nat) (S : List Int) (k : Nat) : gB n S (k + 1) = gB n S k ++ [⟨2 + n + k, 1, S.getD k 0⟩] := by simp [gB, List.range_succ]
theorem graph_len (J : List Jb) (S : List Int) : (graph J S).length = J.length + S.length + offJ J J.length := by
  unfold graph
  rw [List.length_append, List.length_append, gA_len, gB_len, gC_len]
theorem getE_left {A B : List Ed} {i : Nat} (h : i < A.length) : getE (A ++ B) i = getE A i := by
  unfold getE
  rw [List.getD_eq_getElem?_getD, List.getD_eq_getElem?_getD, List.getElem?_append_left h]
theorem getE_right {A B : List Ed} {i : Nat} : getE (A ++ B) (A.length + i) = getE B i := by
  unfold getE
  rw [List.getD_eq_getElem?_getD, List.getD_eq_getElem?_getD, List.getElem?_append_right (by omega), Nat.add_sub_cancel_left]
theorem offJ_le {J : List Jb} {i : Nat} : ∀ {k : Nat}, i < k → offJ J i + lenJ (getJ J i) ≤ offJ J k
  | 0, h => absurd h (Nat.not_lt_zero _)
  | k + 1, h => by
    show _ ≤ offJ J k + lenJ (getJ J k)
    by_cases e : i = k
    · subst e; exact Nat.le_refl _
    · have := offJ_le (J := J) (i := i) (k := k) (by omega)
      omega
theorem graph_a {J : List Jb} {S : List Int} {i : Nat} (h : i < J.length) : getE (graph J S) i = ⟨0, 2 + i, (getJ J i).e⟩ := by
  unfold graph
  rw [getE_left (by rw [List.length_append, gA_len]; omega), getE_left (by rw [gA_len]; exact h)]
  simp [getE, gA, h]
theorem graph_b {J : List Jb} {S : List Int} {t : Nat} (h : t < S.length) : getE (graph J S) (J.length + t) = ⟨2 + J.length + t, 1, S.getD t 0⟩ := by
  unfold graph
  rw [getE_left (by rw [List.length_append, gA_len, gB_len]; omega)]
  have := getE_right (A := gA J J.length) (B := gB J.length S S.length) (i := t)
  rw [gA_len] at this
  rw [this]
  simp [getE, gB, h]
theorem gC_get {J : List Jb} {n i d : Nat} : ∀ {k : Nat}, i < k → d < lenJ (getJ J i) → getE (gC J n k) (offJ J i + d) = ⟨2 + i, 2 + n + ((getJ J i).f.toNat + d), (getJ J i).r⟩
  | 0, h, _ => absurd h (Nat.not_lt_zero _)
  | k + 1, h, hd => by
    show getE (gC J n k ++ gR n k (getJ J k)) (offJ J i + d) = _
    by_cases e : i = k
    · subst e
      have := getE_right (A := gC J n i) (B := gR n i (getJ J i)) (i := d)
      rw [gC_len] at this
      rw [this]
      simp [getE, gR, hd]
    · have h1 := offJ_le (J := J) (i := i) (k := k) (by omega)
      rw [getE_left (by rw [gC_len]; omega)]
      exact gC_get (by omega) hd
theorem graph_c {J : List Jb} {S : List Int} {i d : Nat} (h : i < J.length) (hd : d < lenJ (getJ J i)) : getE (graph J S) (J.length + S.length + (offJ J i + d)) = ⟨2 + i, 2 + J.length + ((getJ J i).f.toNat + d), (getJ J i).r⟩ := by
  unfold graph
  have := getE_right (A := gA J J.length ++ gB J.length S S.length) (B := gC J J.length J.length) (i := offJ J i + d)
  rw [List.length_append, gA_len, gB_len] at this
  rw [this]
  exact gC_get h hd
theorem sumN_off {J : List Jb} {g : Nat → Int} : ∀ {k : Nat}, sumN (offJ J k) g = sumN k (fun i => sumN (lenJ (getJ J i)) (fun d => g (offJ J i + d)))
  | 0 => rfl
  | k + 1 => by
    show sumN (offJ J k + lenJ (getJ J k)) g = sumN k (fun i => sumN (lenJ (getJ J i)) (fun d => g (offJ J i + d))) + sumN (lenJ (getJ J k)) (fun d => g (offJ J k + d))
    rw [sumN_split, sumN_off]
theorem sumN_graph {J : List Jb} {S : List Int} {g : Nat → Int} : sumN (graph J S).length g = sumN J.length g + sumN S.length (fun t => g (J.length + t)) + sumN J.length (fun i => sumN (lenJ (getJ J i)) (fun d => g (J.length + S.length + (offJ J i + d)))) := by
  rw [graph_len, sumN_split, sumN_split, sumN_off]
theorem netL_index {v : Nat} : ∀ {E : List Ed} {fl : List Int}, E.length = fl.length → netL (E.zip fl) v = sumN E.length (fun i => (if (getE E i).f = v then fl.getD i 0 else 0) - (if (getE E i).t = v then fl.getD i 0 else 0))
  | [], [], _ => rfl
  | [], _ :: _, h => by cases h
  | _ :: _, [], h => by cases h
  | e :: E, x :: fl, h => by
    rw [List.length_cons, sumN_shift]
    show (if e.f = v then x else 0) - (if e.t = v then x else 0) + netL (E.zip fl) v = _
    rw [netL_index (by simpa using h)]
    rfl
theorem capL_index {S : Nat → Bool} : ∀ {E : List Ed}, capL S E = sumN E.length (fun i => if S (getE E i).f = true ∧ S (getE E i).t = false then (getE E i).c else 0)
  | [] => rfl
  | e :: E => by
    rw [List.length_cons, sumN_shift]
    show (if S e.f = true ∧ S e.t = false then e.c else 0) + capL S E = _
    rw [capL_index]
    rfl
/-- The plan that a flow carries. -/
def flowP (J : List Jb) (S : List Int) (fl : List Int) (i t : Nat) : Int := if (getJ J i).f.toNat ≤ t ∧ t < (getJ J i).t.toNat then fl.getD (J.length + S.length + (offJ J i + (t - (getJ J i).f.toNat))) 0 else 0
theorem rateAt_nat {m : Nat} {j : Jb} (h : OkJ m j) (t : Nat) : rateAt j t = if j.f.toNat ≤ t ∧ t < j.t.toNat then j.r else 0 := by
  have h1 := h.f0
  have h2 := h.ft
  unfold rateAt
  by_cases hc : j.f ≤ t ∧ (t : Int) < j.t
  · rw [if_pos hc, if_pos (by omega)]
  · rw [if_neg hc, if_neg (by omega)]
theorem flow_plan {J : List Jb} {S : List Int} (hv : ValidP J S) {fl : List Int} {a : Int} (h : FlowOk (graph J S) fl 0 1 a) (ha : sumN J.length (fun i => (getJ J i).e) ≤ a) : PlanOk J S (flowP J S fl) := by
  have hj : ∀ i, i < J.length → OkJ S.length (getJ J i) := fun i hi => hv.j _ (getJ_mem hi)
  have hcA : ∀ i, i < J.length → 0 ≤ fl.getD i 0 ∧ fl.getD i 0 ≤ (getJ J i).e := fun i hi => by
    have := h.cap i (by rw [graph_len]; omega)
    rwa [graph_a hi] at this
  have hcB : ∀ t, t < S.length → 0 ≤ fl.getD (J.length + t) 0 ∧ fl.getD (J.length + t) 0 ≤ S.getD t 0 := fun t ht => by
    have := h.cap (J.length + t) (by rw [graph_len]; omega)
    rwa [graph_b ht] at this
  have hcC : ∀ i, i < J.length → ∀ d, d < lenJ (getJ J i) → 0 ≤ fl.getD (J.length + S.length + (offJ J i + d)) 0 ∧ fl.getD (J.length + S.length + (offJ J i + d)) 0 ≤ (getJ J i).r := fun i hi d hd => by
    have h1 := offJ_le (J := J) (i := i) (k := J.length) hi
    have := h.cap (J.length + S.length + (offJ J i + d)) (by rw [graph_len]; omega)
    rwa [graph_c hi hd] at this
  have hsrc : sumN J.length (fun i => fl.getD i 0) = a := by
    have := h.src
    rw [netL_index h.len, sumN_graph] at this
    rw [sumN_congr (g := fun i => fl.getD i 0) (fun i hi => by rw [graph_a hi]; (try dsimp only); rw [if_pos rfl, if_neg (by omega)]; omega),
      sumN_zero (n := S.length) (fun t ht => by (try dsimp only); rw [graph_b ht]; (try dsimp only); rw [if_neg (by omega), if_neg (by omega)]; rfl),
      sumN_zero (n := J.length) (f := fun i => sumN (lenJ (getJ J i)) _) (fun i hi => sumN_zero fun d hd => by (try dsimp only); rw [graph_c hi hd]; (try dsimp only); rw [if_neg (by omega), if_neg (by omega)]; rfl)] at this
    omega
  have heq : ∀ i, i < J.length → fl.getD i 0 = (getJ J i).e := sumN_eq (fun i hi => (hcA i hi).2) (by rw [hsrc]; exact ha)
  have hjob : ∀ i, i < J.length → sumN (lenJ (getJ J i)) (fun d => fl.getD (J.length + S.length + (offJ J i + d)) 0) = (getJ J i).e := fun i0 hi0 => by
    have := h.net (2 + i0) (by omega) (by omega)
    rw [netL_index h.len, sumN_graph] at this
    rw [sumN_congr (g := fun i => if i = i0 then - fl.getD i0 0 else 0) (fun i hi => by
        rw [graph_a hi]; (try dsimp only)
        by_cases e : i = i0
        · rw [if_neg (by omega), if_pos (by omega), if_pos e, e]; omega
        · rw [if_neg (by omega), if_neg (by omega), if_neg e]; rfl),
      sumN_zero (n := S.length) (fun t ht => by (try dsimp only); rw [graph_b ht]; (try dsimp only); rw [if_neg (by omega), if_neg (by omega)]; rfl),
      sumN_congr (n := J.length) (f := fun i => sumN (lenJ (getJ J i)) _) (g := fun i => if i = i0 then sumN (lenJ (getJ J i)) (fun d => fl.getD (J.length + S.length + (offJ J i + d)) 0) else 0) (fun i hi => by
        try dsimp only
        by_cases e : i = i0
        · rw [if_pos e]
          exact sumN_congr fun d hd => by rw [graph_c hi hd]; (try dsimp only); rw [if_pos (by omega), if_neg (by omega)]; omega
        · rw [if_neg e]
          exact sumN_zero fun d hd => by rw [graph_c hi hd]; (try dsimp only); rw [if_neg (by omega), if_neg (by omega)]; rfl),
      sumN_one, sumN_pick, if_pos hi0, if_pos hi0, heq i0 hi0] at this
    omega
  have hslot : ∀ t, t < S.length → sumN J.length (fun i => flowP J S fl i t) = fl.getD (J.length + t) 0 := fun t0 ht0 => by
    have := h.net (2 + J.length + t0) (by omega) (by omega)
    rw [netL_index h.len, sumN_graph] at this
    rw [sumN_zero (n := J.length) (fun i hi => by rw [graph_a hi]; (try dsimp only); rw [if_neg (by omega), if_neg (by omega)]; rfl),
      sumN_congr (n := S.length) (g := fun t => if t = t0 then fl.getD (J.length + t0) 0 else 0) (fun t ht => by
        (try dsimp only); rw [graph_b ht]; (try dsimp only)
        by_cases e : t = t0
        · rw [if_pos (by omega), if_neg (by omega), if_pos e, e]; omega
        · rw [if_neg (by omega), if_neg (by omega), if_neg e]; rfl),
      sumN_congr (n := J.length) (f := fun i => sumN (lenJ (getJ J i)) _) (g := fun i => 0 - flowP J S fl i t0) (fun i hi => by
        try dsimp only
        rw [sumN_congr (g := fun d => 0 - (if (getJ J i).f.toNat + d = t0 then fl.getD (J.length + S.length + (offJ J i + d)) 0 else 0)) (fun d hd => by
          rw [graph_c hi hd]; (try dsimp only)
          by_cases e : (getJ J i).f.toNat + d = t0
          · rw [if_neg (by omega), if_pos (by omega), if_pos e]
          · rw [if_neg (by omega), if_neg (by omega), if_neg e]), sumN_sub (f := fun _ => 0), sumN_zero (f := fun _ => 0) (fun _ _ => rfl), sumN_at]
        unfold flowP
        have h1 := (hj i hi).ft
        have h0 := (hj i hi).f0
        by_cases e : (getJ J i).f.toNat ≤ t0 ∧ t0 < (getJ J i).t.toNat
        · rw [if_pos e, if_pos (by unfold lenJ; omega)]
        · rw [if_neg e, if_neg (by unfold lenJ; omega)]),
      sumN_one, if_pos ht0, sumN_sub (f := fun _ => 0), sumN_zero (f := fun _ => 0) (fun _ _ => rfl)] at this
    omega
  refine ⟨fun i hi t ht => ?_, fun i hi => ?_, fun t ht => ?_⟩
  · rw [rateAt_nat (hj i hi)]
    unfold flowP
    by_cases e : (getJ J i).f.toNat ≤ t ∧ t < (getJ J i).t.toNat
    · rw [if_pos e, if_pos e]
      exact hcC i hi _ (by unfold lenJ; omega)
    · rw [if_neg e, if_neg e]
      exact ⟨Int.le_refl _, Int.le_refl _⟩
  · rw [← hjob i hi]
    have h0 := (hj i hi).f0
    have h1 := (hj i hi).ft
    have h2 := (hj i hi).tm
    exact sumN_range (g := fun d => fl.getD (J.length + S.length + (offJ J i + d)) 0) (by omega) (by omega)
  · rw [hslot t ht]
    exact (hcB t ht).2
theorem cap_cut {J : List Jb} {S : List Int} (hv : ValidP J S) {X : Nat → Bool} (h0 : X 0 = true) (h1 : X 1 = false) (hlt : capL X (graph J S) < sumN J.length (fun i => (getJ J i).e)) : CutOk J S (fun i => X (2 + i)) (fun t => X (2 + J.length + t)) := by
  have hj : ∀ i, i < J.length → OkJ S.length (getJ J i) := fun i hi => hv.j _ (getJ_mem hi)
  rw [capL_index, sumN_graph] at hlt
  rw [sumN_congr (g := fun i => (getJ J i).e - (if X (2 + i) = true then (getJ J i).e else 0)) (fun i hi => by
      rw [graph_a hi]; (try dsimp only)
      cases hx : X (2 + i) with
      | true => rw [if_neg (by simp), if_pos rfl]; omega
      | false => rw [if_pos ⟨h0, rfl⟩, if_neg (by simp)]; omega),
    sumN_congr (n := S.length) (g := fun t => if X (2 + J.length + t) = true then S.getD t 0 else 0) (fun t ht => by
      (try dsimp only); rw [graph_b ht]; (try dsimp only)
      cases hx : X (2 + J.length + t) with
      | true => rw [if_pos ⟨rfl, h1⟩, if_pos rfl]
      | false => rw [if_neg (by simp), if_neg (by simp)]),
    sumN_congr (n := J.length) (f := fun i => sumN (lenJ (getJ J i)) _) (g := fun i => if X (2 + i) = true then sumN S.length (fun t => if X (2 + J.length + t) = true then 0 else rateAt (getJ J i) t) else 0) (fun i hi => by
      try dsimp only
      have a0 := (hj i hi).f0
      have a1 := (hj i hi).ft
      have a2 := (hj i hi).tm
      cases hx : X (2 + i) with
      | false =>
        rw [if_neg (by simp)]
        exact sumN_zero fun d hd => by rw [graph_c hi hd]; (try dsimp only); rw [hx, if_neg (by simp)]
      | true =>
        rw [if_pos rfl]
        have e2 : sumN S.length (fun t => if X (2 + J.length + t) = true then 0 else rateAt (getJ J i) t) = sumN S.length (fun t => if (getJ J i).f.toNat ≤ t ∧ t < (getJ J i).t.toNat then (fun d => if X (2 + J.length + ((getJ J i).f.toNat + d)) = true then 0 else (getJ J i).r) (t - (getJ J i).f.toNat) else 0) := sumN_congr fun t ht => by
          try dsimp only
          rw [rateAt_nat (hj i hi)]
          by_cases e : (getJ J i).f.toNat ≤ t ∧ t < (getJ J i).t.toNat
          · rw [if_pos e, if_pos e, show (getJ J i).f.toNat + (t - (getJ J i).f.toNat) = t by omega]
          · rw [if_neg e, if_neg e]; split <;> rfl
        refine Eq.trans ?_ (e2.trans (sumN_range (g := fun d => if X (2 + J.length + ((getJ J i).f.toNat + d)) = true then 0 else (getJ J i).r) (f := (getJ J i).f.toNat) (T := (getJ J i).t.toNat) (by omega) (by omega))).symm
        show _ = sumN (lenJ (getJ J i)) _
        exact sumN_congr fun d hd => by
          rw [graph_c hi hd]; (try dsimp only)
          rw [hx]
          cases X (2 + J.length + ((getJ J i).f.toNat + d)) with
          | true => rw [if_neg (by simp), if_pos rfl]
          | false => rw [if_pos ⟨rfl, rfl⟩, if_neg (by simp)]),
    sumN_sub] at hlt
  unfold CutOk roomC needC
  try dsimp only
  omega
theorem gA_mem {J : List Jb} {k : Nat} {e : Ed} (h : e ∈ gA J k) : ∃ i, i < k ∧ e = ⟨0, 2 + i, (getJ J i).e⟩ := by
  unfold gA at h
  obtain ⟨i, hi, rfl⟩ := List.mem_map.1 h
  exact ⟨i, List.mem_range.1 hi, rfl⟩
theorem gB_mem {n k : Nat} {S : List Int} {e : Ed} (h : e ∈ gB n S k) : ∃ t, t < k ∧ e = ⟨2 + n + t, 1, S.getD t 0⟩ := by
  unfold gB at h
  obtain ⟨i, hi, rfl⟩ := List.mem_map.1 h
  exact ⟨i, List.mem_range.1 hi, rfl⟩
theorem gC_mem {J : List Jb} {n : Nat} {e : Ed} : ∀ {k : Nat}, e ∈ gC J n k → ∃ i d, i < k ∧ d < lenJ (getJ J i) ∧ e = ⟨2 + i, 2 + n + ((getJ J i).f.toNat + d), (getJ J i).r⟩
  | 0, h => by cases h
  | k + 1, h => by
    rcases List.mem_append.1 h with h | h
    · obtain ⟨i, d, h1, h2, h3⟩ := gC_mem h
      exact ⟨i, d, by omega, h2, h3⟩
    · unfold gR at h
      obtain ⟨d, hd, rfl⟩ := List.mem_map.1 h
      exact ⟨k, d, by omega, List.mem_range.1 hd, rfl⟩
/-- The graph is a right one. -/
theorem graph_ok {J : List Jb} {S : List Int} (hv : ValidP J S) : (∀ e ∈ graph J S, e.f < 2 + J.length + S.length ∧ e.t < 2 + J.length + S.length) ∧ (∀ e ∈ graph J S, 0 ≤ e.c ∧ e.c ≤ 1000000) ∧ 2 + J.length + S.length ≤ 64 ∧ (graph J S).length ≤ 512 := by
  have hj : ∀ i, i < J.length → OkJ S.length (getJ J i) := fun i hi => hv.j _ (getJ_mem hi)
  have hs : ∀ t, t < S.length → 0 ≤ S.getD t 0 ∧ S.getD t 0 ≤ 1000 := fun t ht => hv.s _ (by rw [List.getD_eq_getElem?_getD, List.getElem?_eq_getElem ht]; exact List.getElem_mem ht)
  have h12 := hv.j12
  have h24 := hv.s24
  have hall : ∀ e ∈ graph J S, (e.f < 2 + J.length + S.length ∧ e.t < 2 + J.length + S.length) ∧ 0 ≤ e.c ∧ e.c ≤ 1000000 := fun e he => by
    unfold graph at he
    rcases List.mem_append.1 he with he | he
    · rcases List.mem_append.1 he with he | he
      · obtain ⟨i, hi, rfl⟩ := gA_mem he
        have := hj i hi
        have a1 := this.e0
        have a2 := this.e1
        try dsimp only
        omega
      · obtain ⟨t, ht, rfl⟩ := gB_mem he
        have := hs t ht
        try dsimp only
        omega
    · obtain ⟨i, d, hi, hd, rfl⟩ := gC_mem he
      have := hj i hi
      have a0 := this.f0
      have a1 := this.ft
      have a2 := this.tm
      have a3 := this.r0
      have a4 := this.r1
      unfold lenJ at hd
      try dsimp only
      omega
  have hoff : ∀ k, k ≤ J.length → offJ J k ≤ 24 * k := fun k hk => by
    induction k with
    | zero => exact Nat.le_refl _
    | succ k ih =>
      have := hj k (by omega)
      have a0 := this.f0
      have a2 := this.tm
      have ih2 := ih (by omega)
      show offJ J k + lenJ (getJ J k) ≤ _
      unfold lenJ
      omega
  have h3 := hoff J.length (Nat.le_refl _)
  exact ⟨fun e he => (hall e he).1, fun e he => (hall e he).2, by omega, by rw [graph_len]; omega⟩
end Go.Proofs.Ythgkfdhkmkbioaa
