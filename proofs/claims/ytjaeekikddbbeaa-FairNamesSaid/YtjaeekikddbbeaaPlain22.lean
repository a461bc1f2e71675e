/- Chapter 22 in plain Lean: rows, limits, orders, what is permitted, how numbers are shared, which are fairer. No statement about the program. -/
import Derived.Below
namespace Go.Proofs.Ytjaeekikddbbeaa

structure Rw where
  c : Int
  ms : List Int
deriving DecidableEq

def Rw.zero : Rw := ⟨0, []⟩
def getW (l : List Rw) (i : Nat) : Rw := l.getD i Rw.zero
def atI (l : List Int) (m : Int) : Int := l.getD m.toNat 0

def incOk (n : Int) : Int → List Int → Bool
  | _, [] => true
  | b, m :: ms => decide (b < m) && decide (m < n) && incOk n m ms
def validRw (n : Int) (r : Rw) : Bool := decide (0 ≤ r.c ∧ r.c ≤ 1000000) && incOk n (-1) r.ms
def validRws (n : Int) (rows : List Rw) : Bool := decide (0 ≤ n ∧ n ≤ 64) && decide (rows.length ≤ 64) && rows.all (validRw n)
def limits (most : List Int) : Bool := most.all (fun m => decide (0 ≤ m ∧ m ≤ 1000))
def validLim (rows : List Rw) (most : List Int) : Bool := validRws (most.length : Nat) rows && limits most
def ordOk (n : Int) : List Int → List Int → Bool
  | _, [] => true
  | seen, m :: ms => decide (0 ≤ m ∧ m < n) && !seen.contains m && ordOk n (m :: seen) ms
def isOrd (order : List Int) (n : Int) : Bool := decide ((order.length : Int) = n) && ordOk n [] order
def sumR (r : Rw) (x : List Int) : Int := (r.ms.map (atI x)).sum
def inLim (most x : List Int) : Bool := decide (∀ i, i < x.length → 0 ≤ x.getD i 0 ∧ x.getD i 0 ≤ most.getD i 0)
def fitsB (rows : List Rw) (most x : List Int) : Bool := validLim rows most && decide (x.length = most.length) && inLim most x && rows.all (fun r => decide (sumR r x ≤ r.c))

/-! ### Sharing -/
def can (rows : List Rw) (most x : List Int) (m : Int) : Bool := decide (atI x m ≠ atI most m) && rows.all (fun r => !r.ms.contains m || decide (sumR r x ≠ r.c))
def inc (x : List Int) (m : Int) : List Int := x.set m.toNat (atI x m + 1)
def pass (rows : List Rw) (most : List Int) : List Int → List Int → List Int × List Int
  | [], x => (x, [])
  | m :: ms, x => if can rows most x m = true then ((pass rows most ms (inc x m)).1, m :: (pass rows most ms (inc x m)).2) else pass rows most ms x
def lev (rows : List Rw) (most : List Int) : Nat → List Int → List Int → List Int
  | 0, _, x => x
  | f + 1, rs, x => if (pass rows most rs x).2 = [] then (pass rows most rs x).1 else lev rows most f (pass rows most rs x).2 (pass rows most rs x).1
def shareF (rows : List Rw) (most order : List Int) : List Int := lev rows most 1002 order (List.replicate most.length 0)

/-! ### Comparing -/
def betGo (x y : List Int) : List Int → Int → Int → Int
  | [], _, b => b
  | m :: ms, l, b =>
    if atI x m < 0 ∨ atI y m < 0 then 0
    else if atI x m = atI y m then betGo x y ms l b
    else if b = 0 ∨ min (atI x m) (atI y m) < l then betGo x y ms (min (atI x m) (atI y m)) (if atI x m < atI y m then -1 else 1)
    else betGo x y ms l b
def bet (x y order : List Int) : Int := if x.length = y.length ∧ isOrd order (x.length : Nat) = true then betGo x y order 0 0 else 0

/-! ### Orders -/
theorem ordOk_iff {n : Int} : ∀ {l seen : List Int}, ordOk n seen l = true ↔ (∀ m ∈ l, 0 ≤ m ∧ m < n) ∧ l.Nodup ∧ ∀ m ∈ l, m ∉ seen
  | [], seen => by simp [ordOk]
  | a :: as, seen => by
    rw [ordOk, Bool.and_eq_true, Bool.and_eq_true, decide_eq_true_eq, Bool.not_eq_true', ordOk_iff, List.nodup_cons]
    simp only [List.contains_eq_mem, decide_eq_false_iff_not, List.mem_cons, not_or, forall_eq_or_imp]
    constructor
    · rintro ⟨⟨h1, h2⟩, h3, h4, h5⟩
      exact ⟨⟨h1, h3⟩, ⟨fun h => (h5 a h).1 rfl, h4⟩, h2, fun m hm => (h5 m hm).2⟩
    · rintro ⟨⟨h1, h2⟩, ⟨h3, h4⟩, h5, h6⟩
      exact ⟨⟨h1, h5⟩, h2, h4, fun m hm => ⟨fun e => h3 (e ▸ hm), h6 m hm⟩⟩
theorem isOrd_iff {order : List Int} {n : Int} : isOrd order n = true ↔ (order.length : Int) = n ∧ (∀ m ∈ order, 0 ≤ m ∧ m < n) ∧ order.Nodup := by
  rw [isOrd, Bool.and_eq_true, decide_eq_true_eq, ordOk_iff]
  simp
/-- A list of n different numbers below n holds each of them. -/
theorem ord_all : ∀ (n : Nat) (l : List Int), l.length = n → (∀ m ∈ l, 0 ≤ m ∧ m < n) → l.Nodup → ∀ m : Int, 0 ≤ m → m < n → m ∈ l
  | 0, _, _, _, _, m, h1, h2 => by omega
  | n + 1, l, hl, hb, hn, m, h1, h2 => by
    have hex : (n : Int) ∈ l := by
      -- else all are below n: too many
      by_cases h : (n : Int) ∈ l
      · exact h
      · exfalso
        have hb' : ∀ k ∈ l, 0 ≤ k ∧ k < n := fun k hk => by
          have h3 := hb k hk
          have h4 : k ≠ (n : Int) := fun e => h (e ▸ hk)
          omega
        have : ∀ (n : Nat) (l : List Int), (∀ k ∈ l, 0 ≤ k ∧ k < n) → l.Nodup → l.length ≤ n := by
          intro n
          induction n with
          | zero =>
            intro l hb hn
            cases l with
            | nil => simp
            | cons a as => have := hb a (List.mem_cons_self ..); omega
          | succ n ih =>
            intro l hb hn
            have h1 := ih (l.erase (n : Int)) (fun k hk => by
              have h3 := hb k (List.mem_of_mem_erase hk)
              have h4 : k ≠ (n : Int) := fun e => by
                subst e
                exact (List.Nodup.not_mem_erase hn) hk
              omega) (hn.erase _)
            have h2 : l.length ≤ (l.erase (n : Int)).length + 1 := by
              rw [List.length_erase]
              split <;> omega
            omega
        have := this n l hb' hn
        omega
    by_cases hm : m = (n : Int)
    · subst hm; exact hex
    · have h3 := ord_all n (l.erase (n : Int)) (by rw [List.length_erase_of_mem hex]; omega) (fun k hk => by
        have h3 := hb k (List.mem_of_mem_erase hk)
        have h4 : k ≠ (n : Int) := fun e => by
          subst e
          exact (List.Nodup.not_mem_erase hn) hk
        omega) (hn.erase _) m h1 (by omega)
      exact List.mem_of_mem_erase h3

/-! ### Rows -/
theorem incOk_spec {n : Int} : ∀ {ms : List Int} {b : Int}, incOk n b ms = true → (∀ m ∈ ms, b < m ∧ m < n) ∧ ms.Pairwise (· < ·)
  | [], _, _ => ⟨fun _ h => (by cases h), List.Pairwise.nil⟩
  | a :: as, b, h => by
    rw [incOk, Bool.and_eq_true, Bool.and_eq_true, decide_eq_true_eq, decide_eq_true_eq] at h
    obtain ⟨i1, i2⟩ := incOk_spec h.2
    refine ⟨fun m hm => ?_, List.pairwise_cons.2 ⟨fun m hm => (i1 m hm).1, i2⟩⟩
    rcases List.mem_cons.1 hm with rfl | hm
    · exact h.1
    · have := i1 m hm
      omega
theorem incOk_of {n : Int} : ∀ {ms : List Int} {b : Int}, (∀ m ∈ ms, b < m ∧ m < n) → ms.Pairwise (· < ·) → incOk n b ms = true
  | [], _, _, _ => rfl
  | a :: as, b, h1, h2 => by
    obtain ⟨h3, h4⟩ := List.pairwise_cons.1 h2
    rw [incOk, Bool.and_eq_true, Bool.and_eq_true, decide_eq_true_eq, decide_eq_true_eq]
    exact ⟨h1 a (List.mem_cons_self ..), incOk_of (fun m hm => ⟨h3 m hm, (h1 m (List.mem_cons_of_mem _ hm)).2⟩) h4⟩
theorem validRw_iff {n : Int} {r : Rw} : validRw n r = true ↔ (0 ≤ r.c ∧ r.c ≤ 1000000) ∧ (∀ m ∈ r.ms, 0 ≤ m ∧ m < n) ∧ r.ms.Pairwise (· < ·) := by
  rw [validRw, Bool.and_eq_true, decide_eq_true_eq]
  constructor
  · rintro ⟨h1, h2⟩
    obtain ⟨h3, h4⟩ := incOk_spec h2
    exact ⟨h1, fun m hm => by have := h3 m hm; omega, h4⟩
  · rintro ⟨h1, h2, h3⟩
    exact ⟨h1, incOk_of (fun m hm => by have := h2 m hm; omega) h3⟩
theorem Rw.nodup {ms : List Int} (h : ms.Pairwise (· < ·)) : ms.Nodup := h.imp (fun hab => by omega)

structure VL (rows : List Rw) (most : List Int) : Prop where
  n64 : most.length ≤ 64
  r64 : rows.length ≤ 64
  row : ∀ r ∈ rows, (0 ≤ r.c ∧ r.c ≤ 1000000) ∧ (∀ m ∈ r.ms, 0 ≤ m ∧ m < (most.length : Int)) ∧ r.ms.Pairwise (· < ·)
  lim : ∀ m ∈ most, 0 ≤ m ∧ m ≤ 1000
theorem validLim_iff {rows : List Rw} {most : List Int} : validLim rows most = true ↔ VL rows most := by
  rw [validLim, validRws, limits, Bool.and_eq_true, Bool.and_eq_true, Bool.and_eq_true, decide_eq_true_eq, decide_eq_true_eq, List.all_eq_true, List.all_eq_true]
  constructor
  · rintro ⟨⟨⟨h1, h2⟩, h3⟩, h4⟩
    exact ⟨by omega, h2, fun r hr => validRw_iff.1 (h3 r hr), fun m hm => by simpa using h4 m hm⟩
  · rintro ⟨h1, h2, h3, h4⟩
    exact ⟨⟨⟨⟨by omega, by omega⟩, h2⟩, fun r hr => validRw_iff.2 (h3 r hr)⟩, fun m hm => by simpa using h4 m hm⟩

theorem atI_set {x : List Int} {m m' v : Int} (h : 0 ≤ m ∧ m < x.length) (h' : 0 ≤ m') : atI (x.set m.toNat v) m' = if m' = m then v else atI x m' := by
  unfold atI
  rw [List.getD_eq_getElem?_getD, List.getD_eq_getElem?_getD, List.getElem?_set]
  by_cases he : m' = m
  · subst he
    rw [if_pos rfl, if_pos (by omega), if_pos rfl]
    rfl
  · rw [if_neg (by omega), if_neg he]
theorem atI_mem {x : List Int} {m : Int} (h : 0 ≤ m ∧ m < x.length) : atI x m ∈ x := by
  unfold atI
  rw [List.getD_eq_getElem?_getD, List.getElem?_eq_getElem (by omega)]
  exact List.getElem_mem _

/-- Numbers that are permitted. -/
structure Fit (rows : List Rw) (most x : List Int) : Prop where
  vl : VL rows most
  len : x.length = most.length
  lim : ∀ m : Int, 0 ≤ m → m < most.length → 0 ≤ atI x m ∧ atI x m ≤ atI most m
  sum : ∀ r ∈ rows, sumR r x ≤ r.c
theorem inLim_iff {most x : List Int} (h : x.length = most.length) : inLim most x = true ↔ ∀ m : Int, 0 ≤ m → m < most.length → 0 ≤ atI x m ∧ atI x m ≤ atI most m := by
  rw [inLim, decide_eq_true_eq]
  constructor
  · intro h1 m h2 h3
    exact h1 m.toNat (by omega)
  · intro h1 i hi
    have := h1 (i : Int) (by omega) (by omega)
    simpa [atI] using this
theorem fitsB_iff {rows : List Rw} {most x : List Int} : fitsB rows most x = true ↔ Fit rows most x := by
  rw [fitsB, Bool.and_eq_true, Bool.and_eq_true, Bool.and_eq_true, validLim_iff, decide_eq_true_eq, List.all_eq_true]
  constructor
  · rintro ⟨⟨⟨h1, h2⟩, h3⟩, h4⟩
    exact ⟨h1, h2, (inLim_iff h2).1 h3, fun r hr => by simpa using h4 r hr⟩
  · rintro ⟨h1, h2, h3, h4⟩
    exact ⟨⟨⟨h1, h2⟩, (inLim_iff h2).2 h3⟩, fun r hr => by simpa using h4 r hr⟩

/-! ### Sums -/
theorem sum_congr {l : List Int} {f g : Int → Int} (h : ∀ m ∈ l, f m = g m) : (l.map f).sum = (l.map g).sum := by
  rw [List.map_congr_left h]
theorem sum_le {f g : Int → Int} : ∀ {l : List Int}, (∀ m ∈ l, f m ≤ g m) → (l.map f).sum ≤ (l.map g).sum
  | [], _ => by simp
  | a :: as, h => by
    have h1 := h a (List.mem_cons_self ..)
    have h2 := sum_le (l := as) (fun m hm => h m (List.mem_cons_of_mem _ hm))
    simp only [List.map_cons, List.sum_cons]
    omega
/-- One number is another one. -/
theorem sum_one {f g : Int → Int} {a d : Int} : ∀ {l : List Int}, l.Nodup → (∀ m ∈ l, m ≠ a → g m = f m) → g a = f a + d → (l.map g).sum = (l.map f).sum + if a ∈ l then d else 0
  | [], _, _, _ => by simp
  | b :: bs, hn, h, hd => by
    rw [List.nodup_cons] at hn
    have ih := sum_one (l := bs) hn.2 (fun m hm => h m (List.mem_cons_of_mem _ hm)) hd
    simp only [List.map_cons, List.sum_cons, ih]
    by_cases hb : b = a
    · subst hb
      rw [if_neg hn.1, if_pos (List.mem_cons_self ..), hd]
      omega
    · rw [h b (List.mem_cons_self ..) hb]
      have : (a ∈ b :: bs) = (a ∈ bs) := by
        apply propext
        rw [List.mem_cons]
        exact ⟨fun h => h.resolve_left (fun e => hb e.symm), .inr⟩
      simp only [this]
      omega

section
variable {rows : List Rw} {most x y order : List Int}
theorem inc_len (x : List Int) (m : Int) : (inc x m).length = x.length := by simp [inc]
theorem inc_at {m m' : Int} (h : 0 ≤ m ∧ m < x.length) (h' : 0 ≤ m') : atI (inc x m) m' = if m' = m then atI x m + 1 else atI x m' := atI_set h h'
theorem inc_sum {r : Rw} {m : Int} (hr : ∀ k ∈ r.ms, 0 ≤ k) (hn : r.ms.Pairwise (· < ·)) (h : 0 ≤ m ∧ m < x.length) : sumR r (inc x m) = sumR r x + if m ∈ r.ms then 1 else 0 := by
  refine sum_one (Rw.nodup hn) (fun k hk hne => ?_) ?_
  · rw [inc_at h (hr k hk), if_neg hne]
  · rw [inc_at h h.1, if_pos rfl]
theorem can_spec {m : Int} : can rows most x m = true ↔ atI x m ≠ atI most m ∧ ∀ r ∈ rows, m ∈ r.ms → sumR r x ≠ r.c := by
  rw [can, Bool.and_eq_true, decide_eq_true_eq, List.all_eq_true]
  constructor
  · rintro ⟨h1, h2⟩
    refine ⟨h1, fun r hr hm => ?_⟩
    have := h2 r hr
    simpa [hm] using this
  · rintro ⟨h1, h2⟩
    refine ⟨h1, fun r hr => ?_⟩
    by_cases hm : m ∈ r.ms
    · simpa [hm] using h2 r hr hm
    · simp [hm]
theorem inc_fit {m : Int} (h : Fit rows most x) (hm : 0 ≤ m ∧ m < most.length) (hc : can rows most x m = true) : Fit rows most (inc x m) := by
  obtain ⟨h1, h2⟩ := can_spec.1 hc
  have hmx : 0 ≤ m ∧ m < x.length := by rw [h.len]; exact hm
  refine ⟨h.vl, by rw [inc_len, h.len], fun k hk1 hk2 => ?_, fun r hr => ?_⟩
  · have h3 := h.lim k hk1 hk2
    rw [inc_at hmx hk1]
    split
    · rename_i he
      subst he
      omega
    · exact h3
  · have h3 := h.vl.row r hr
    rw [inc_sum (fun k hk => (h3.2.1 k hk).1) h3.2.2 hmx]
    have h4 := h.sum r hr
    split
    · have := h2 r hr (by assumption)
      omega
    · omega

/-! ### The levels, over the whole order -/
def passO (rows : List Rw) (most : List Int) (v : Int) : List Int → List Int → List Int
  | [], x => x
  | m :: ms, x => if atI x m = v ∧ can rows most x m = true then passO rows most v ms (inc x m) else passO rows most v ms x
def levO (rows : List Rw) (most order : List Int) : Nat → Int → List Int → List Int
  | 0, _, x => x
  | f + 1, v, x => levO rows most order f (v + 1) (passO rows most v order x)

theorem passO_len (v : Int) : ∀ (l x : List Int), (passO rows most v l x).length = x.length
  | [], x => rfl
  | m :: ms, x => by
    rw [passO]
    split
    · rw [passO_len, inc_len]
    · rw [passO_len]
theorem passO_fit {v : Int} : ∀ {l x : List Int}, (∀ m ∈ l, 0 ≤ m ∧ m < (most.length : Int)) → Fit rows most x → Fit rows most (passO rows most v l x)
  | [], x, _, h => h
  | m :: ms, x, hl, h => by
    have hl' := fun k hk => hl k (List.mem_cons_of_mem _ hk)
    rw [passO]
    split
    · rename_i hc
      exact passO_fit hl' (inc_fit h (hl m (List.mem_cons_self ..)) hc.2)
    · exact passO_fit hl' h
/-- What a pass does to a number. -/
theorem passO_at {v : Int} : ∀ {l x : List Int} {k : Int}, l.Nodup → (∀ m ∈ l, 0 ≤ m ∧ m < (x.length : Int)) → 0 ≤ k →
    (k ∉ l → atI (passO rows most v l x) k = atI x k) ∧ (atI x k ≠ v → atI (passO rows most v l x) k = atI x k) ∧ (atI x k = v → atI (passO rows most v l x) k = v ∨ atI (passO rows most v l x) k = v + 1)
  | [], x, k, _, _, _ => ⟨fun _ => rfl, fun _ => rfl, fun h => .inl h⟩
  | m :: ms, x, k, hn, hl, hk => by
    rw [List.nodup_cons] at hn
    have hl' : ∀ m ∈ ms, 0 ≤ m ∧ m < (x.length : Int) := fun k hk => hl k (List.mem_cons_of_mem _ hk)
    have hm := hl m (List.mem_cons_self ..)
    rw [passO]
    split
    · rename_i hc
      have hl2 : ∀ m' ∈ ms, 0 ≤ m' ∧ m' < ((inc x m).length : Int) := by rw [inc_len]; exact hl'
      obtain ⟨i1, i2, i3⟩ := passO_at (v := v) (k := k) hn.2 hl2 hk
      have he := inc_at (x := x) hm hk
      by_cases hkm : k = m
      · subst hkm
        rw [if_pos rfl] at he
        have e1 := i1 hn.1
        rw [he] at e1
        refine ⟨fun h => absurd (List.mem_cons_self ..) h, fun h => absurd hc.1 h, fun h => .inr (by rw [e1, h])⟩
      · rw [if_neg hkm] at he
        rw [he] at i1 i2 i3
        exact ⟨fun h => i1 (fun h' => h (List.mem_cons_of_mem _ h')), i2, i3⟩
    · obtain ⟨i1, i2, i3⟩ := passO_at (v := v) (k := k) hn.2 hl' hk
      exact ⟨fun h => i1 (fun h' => h (List.mem_cons_of_mem _ h')), i2, i3⟩

/-- The pass over those that rise is the pass over the whole order. -/
theorem pass_eq {v : Int} : ∀ {l x : List Int}, l.Nodup → (∀ m ∈ l, 0 ≤ m ∧ m < (x.length : Int)) → (∀ m ∈ l, atI x m ≤ v) →
    pass rows most (l.filter fun m => decide (atI x m = v)) x = (passO rows most v l x, l.filter fun m => decide (atI (passO rows most v l x) m = v + 1))
  | [], x, _, _, _ => rfl
  | m :: ms, x, hn, hl, hle => by
    have hn' := hn
    rw [List.nodup_cons] at hn
    have hl' : ∀ m ∈ ms, 0 ≤ m ∧ m < (x.length : Int) := fun k hk => hl k (List.mem_cons_of_mem _ hk)
    have hm := hl m (List.mem_cons_self ..)
    have hle' := fun k hk => hle k (List.mem_cons_of_mem _ hk)
    by_cases hv : atI x m = v
    · rw [List.filter_cons_of_pos (by simpa using hv), pass, passO]
      by_cases hc : can rows most x m = true
      · rw [if_pos hc, if_pos ⟨hv, hc⟩]
        have hl2 : ∀ m' ∈ ms, 0 ≤ m' ∧ m' < ((inc x m).length : Int) := by rw [inc_len]; exact hl'
        have hsame : ∀ k ∈ ms, atI (inc x m) k = atI x k := fun k hk => by
          rw [inc_at hm (hl' k hk).1, if_neg (fun e : k = m => hn.1 (e ▸ hk))]
        have ih := pass_eq (v := v) (x := inc x m) hn.2 hl2 (fun k hk => by rw [hsame k hk]; exact hle' k hk)
        have ef : (ms.filter fun m' => decide (atI (inc x m) m' = v)) = ms.filter fun m' => decide (atI x m' = v) := by
          apply List.filter_congr
          intro k hk
          rw [hsame k hk]
        rw [ef] at ih
        rw [ih]
        have e2 := (passO_at (rows := rows) (most := most) (v := v) (k := m) hn.2 hl2 hm.1).1 hn.1
        rw [inc_at hm hm.1, if_pos rfl, hv] at e2
        rw [List.filter_cons_of_pos (by simpa using e2)]
      · rw [if_neg hc, if_neg (fun h => hc h.2), pass_eq hn.2 hl' hle']
        have e2 := (passO_at (rows := rows) (most := most) (v := v) (k := m) hn.2 hl' hm.1).1 hn.1
        rw [List.filter_cons_of_neg (by rw [e2, hv]; simp; omega)]
    · rw [List.filter_cons_of_neg (by simpa using hv), passO, if_neg (fun h => hv h.1), pass_eq hn.2 hl' hle']
      have e2 := (passO_at (rows := rows) (most := most) (v := v) (k := m) hn.2 hl' hm.1).1 hn.1
      have := hle m (List.mem_cons_self ..)
      rw [List.filter_cons_of_neg (by rw [e2]; simp; omega)]

theorem levO_len : ∀ (f : Nat) (v : Int) (x : List Int), (levO rows most order f v x).length = x.length
  | 0, _, _ => rfl
  | f + 1, v, x => by rw [levO, levO_len, passO_len]
theorem levO_fit (hl : ∀ m ∈ order, 0 ≤ m ∧ m < (most.length : Int)) : ∀ (f : Nat) (v : Int) (x : List Int), Fit rows most x → Fit rows most (levO rows most order f v x)
  | 0, _, _, h => h
  | f + 1, v, _, h => levO_fit hl f (v + 1) _ (passO_fit hl h)
/-- What the levels do to a number. -/
theorem levO_at (hn : order.Nodup) : ∀ (f : Nat) (v : Int) (x : List Int) (k : Int), (∀ m ∈ order, 0 ≤ m ∧ m < (x.length : Int)) → 0 ≤ k → (atI x k < v → atI (levO rows most order f v x) k = atI x k) ∧ atI x k ≤ atI (levO rows most order f v x) k
  | 0, _, _, _, _, _ => ⟨fun _ => rfl, Int.le_refl _⟩
  | f + 1, v, x, k, hl, hk => by
    obtain ⟨i1, i2, i3⟩ := passO_at (rows := rows) (most := most) (v := v) (k := k) hn hl hk
    obtain ⟨j1, j2⟩ := levO_at hn f (v + 1) (passO rows most v order x) k (by rw [passO_len]; exact hl) hk
    rw [levO]
    refine ⟨fun h => ?_, ?_⟩
    · rw [j1 (by rw [i2 (by omega)]; omega), i2 (by omega)]
    · by_cases hv : atI x k = v
      · rcases i3 hv with h | h <;> omega
      · rw [i2 hv] at j2
        exact j2
/-- Nobody rises any more. -/
theorem levO_end (hn : order.Nodup) : ∀ (f : Nat) (v : Int) (x : List Int), (∀ m ∈ order, 0 ≤ m ∧ m < (x.length : Int)) → (∀ m ∈ order, atI x m < v) → levO rows most order f v x = x
  | 0, _, _, _, _ => rfl
  | f + 1, v, x, hl, h => by
    have e : ∀ (l : List Int), (∀ m ∈ l, atI x m < v) → passO rows most v l x = x := by
      intro l
      induction l with
      | nil => intro _; rfl
      | cons m ms ih =>
        intro h
        rw [passO, if_neg (fun h' => by have := h m (List.mem_cons_self ..); omega)]
        exact ih (fun k hk => h k (List.mem_cons_of_mem _ hk))
    rw [levO, e order h]
    exact levO_end hn f (v + 1) x hl (fun m hm => by have := h m hm; omega)
theorem lev_eq (hn : order.Nodup) : ∀ (f : Nat) (v : Int) (x rs : List Int), (∀ m ∈ order, 0 ≤ m ∧ m < (x.length : Int)) → (∀ m ∈ order, atI x m ≤ v) → rs = (order.filter fun m => decide (atI x m = v)) → lev rows most f rs x = levO rows most order f v x
  | 0, _, _, _, _, _, _ => rfl
  | f + 1, v, x, rs, hl, hle, hrs => by
    subst hrs
    have hp := pass_eq (rows := rows) (most := most) (v := v) hn hl hle
    have hle2 : ∀ m ∈ order, atI (passO rows most v order x) m ≤ v + 1 := fun m hm => by
      obtain ⟨i1, i2, i3⟩ := passO_at (rows := rows) (most := most) (v := v) (k := m) hn hl (hl m hm).1
      by_cases hv : atI x m = v
      · rcases i3 hv with h | h <;> omega
      · rw [i2 hv]
        have := hle m hm
        omega
    have hl2 : ∀ m ∈ order, 0 ≤ m ∧ m < ((passO rows most v order x).length : Int) := by rw [passO_len]; exact hl
    rw [lev, levO, hp]
    simp only
    split
    · rename_i he
      rw [levO_end hn f (v + 1) _ hl2 (fun m hm => by
        have h1 := hle2 m hm
        have h2 : ¬ atI (passO rows most v order x) m = v + 1 := fun e => by
          have : m ∈ order.filter fun m => decide (atI (passO rows most v order x) m = v + 1) := List.mem_filter.2 ⟨hm, by simpa using e⟩
          rw [he] at this
          cases this
        omega)]
    · exact lev_eq hn f (v + 1) _ _ hl2 hle2 rfl
end

/-! ### The fairest -/
/-- x is fairer than y: of those that differ, the one with the least lesser number, and among these the first, has more in x. -/
def Fairer (x y order : List Int) : Prop := ∃ p m s, order = p ++ m :: s ∧ atI y m < atI x m ∧ (∀ k ∈ order, atI x k ≠ atI y k → atI y m ≤ min (atI x k) (atI y k)) ∧ ∀ k ∈ p, atI x k ≠ atI y k → atI y m < min (atI x k) (atI y k)

section
variable {rows : List Rw} {most x y order : List Int}
/-- In the middle of a pass at the level v + 1. -/
theorem fair_pass (hy : Fit rows most y) (hn : order.Nodup) (hord : ∀ m ∈ order, 0 ≤ m ∧ m < (most.length : Int)) (f : Nat) (v : Int) : ∀ (l p x : List Int), order = p ++ l → Fit rows most x →
    (∀ m ∈ p, (atI x m = atI y m ∧ atI x m ≤ v) ∨ (atI x m = v + 1 ∧ v + 1 ≤ atI y m)) → (∀ m ∈ l, (atI x m = atI y m ∧ atI x m < v) ∨ (atI x m = v ∧ v ≤ atI y m)) →
    (∀ k : Int, 0 ≤ k → k < most.length → k ∈ order) →
    (∀ m ∈ order, (atI (passO rows most v l x) m = atI y m ∧ atI (passO rows most v l x) m ≤ v) ∨ (atI (passO rows most v l x) m = v + 1 ∧ v + 1 ≤ atI y m)) ∨
    Fairer (levO rows most order f (v + 1) (passO rows most v l x)) y order
  | [], p, x, ho, hx, hp, _, _ => by
    left
    rw [List.append_nil] at ho
    subst ho
    exact hp
  | m :: ms, p, x, ho, hx, hp, hl, hall => by
    have hm := hl m (List.mem_cons_self ..)
    have hmo : m ∈ order := by rw [ho]; simp
    have hmb := hord m hmo
    have hmx : 0 ≤ m ∧ m < (x.length : Int) := by rw [hx.len]; exact hmb
    have hnd : (p ++ m :: ms).Nodup := ho ▸ hn
    rw [List.nodup_append] at hnd
    have hmp : m ∉ p := fun h => hnd.2.2 m h m (List.mem_cons_self ..) rfl
    have hmms : m ∉ ms := (List.nodup_cons.1 hnd.2.1).1
    have ho' : order = (p ++ [m]) ++ ms := by rw [ho]; simp
    have hl' : ∀ k ∈ ms, (atI x k = atI y k ∧ atI x k < v) ∨ (atI x k = v ∧ v ≤ atI y k) := fun k hk => hl k (List.mem_cons_of_mem _ hk)
    rw [passO]
    by_cases hc : atI x m = v ∧ can rows most x m = true
    · rw [if_pos hc]
      have hxi := inc_fit hx hmb hc.2
      have hsame : ∀ k, 0 ≤ k → k ≠ m → atI (inc x m) k = atI x k := fun k hk hne => by rw [inc_at hmx hk, if_neg hne]
      have hself : atI (inc x m) m = v + 1 := by rw [inc_at hmx hmx.1, if_pos rfl, hc.1]
      have hvy : v ≤ atI y m := by
        rcases hm with h | h
        · omega
        · exact h.2
      have hpk : ∀ k ∈ p, 0 ≤ k ∧ k ≠ m := fun k hk => ⟨(hord k (by rw [ho]; simp [hk])).1, fun e => hmp (e ▸ hk)⟩
      have hmk : ∀ k ∈ ms, 0 ≤ k ∧ k ≠ m := fun k hk => ⟨(hord k (by rw [ho]; simp [hk])).1, fun e => hmms (e ▸ hk)⟩
      by_cases hy1 : v + 1 ≤ atI y m
      · refine fair_pass hy hn hord f v ms (p ++ [m]) (inc x m) ho' hxi (fun k hk => ?_) (fun k hk => ?_) hall
        · rcases List.mem_append.1 hk with hk | hk
          · rw [hsame k (hpk k hk).1 (hpk k hk).2]
            exact hp k hk
          · simp at hk
            subst hk
            exact .inr ⟨hself, hy1⟩
        · rw [hsame k (hmk k hk).1 (hmk k hk).2]
          exact hl' k hk
      · -- y stays behind: x is fairer
        right
        have hyv : atI y m = v := by omega
        have hlx : ∀ k ∈ ms, 0 ≤ k ∧ k < ((inc x m).length : Int) := fun k hk => by rw [inc_len, hx.len]; exact hord k (by rw [ho]; simp [hk])
        have hndm : ms.Nodup := (List.nodup_cons.1 hnd.2.1).2
        have hP : ∀ k, 0 ≤ k → (k ∉ ms → atI (passO rows most v ms (inc x m)) k = atI (inc x m) k) ∧ (atI (inc x m) k ≠ v → atI (passO rows most v ms (inc x m)) k = atI (inc x m) k) ∧ (atI (inc x m) k = v → atI (passO rows most v ms (inc x m)) k = v ∨ atI (passO rows most v ms (inc x m)) k = v + 1) := fun k hk => passO_at hndm hlx hk
        have hL : ∀ k, 0 ≤ k → (atI (passO rows most v ms (inc x m)) k < v + 1 → atI (levO rows most order f (v + 1) (passO rows most v ms (inc x m))) k = atI (passO rows most v ms (inc x m)) k) ∧ atI (passO rows most v ms (inc x m)) k ≤ atI (levO rows most order f (v + 1) (passO rows most v ms (inc x m))) k := fun k hk =>
          levO_at hn f (v + 1) _ k (by rw [passO_len, inc_len, hx.len]; exact hord) hk
        have hbefore : ∀ k ∈ p, atI (levO rows most order f (v + 1) (passO rows most v ms (inc x m))) k ≠ atI y k → v < min (atI (levO rows most order f (v + 1) (passO rows most v ms (inc x m))) k) (atI y k) := fun k hk hne => by
          obtain ⟨hk0, hkm⟩ := hpk k hk
          have hkms : k ∉ ms := fun h => hnd.2.2 k hk k (List.mem_cons_of_mem _ h) rfl
          have e1 := (hP k hk0).1 hkms
          rw [hsame k hk0 hkm] at e1
          rcases hp k hk with h | h
          · have := (hL k hk0).1 (by omega)
            omega
          · have := (hL k hk0).2
            omega
        refine ⟨p, m, ms, ho, ?_, fun k hk hne => ?_, fun k hk hne => ?_⟩
        · have e1 := (hP m hmb.1).1 hmms
          have := (hL m hmb.1).2
          omega
        · rw [ho, List.mem_append] at hk
          rcases hk with hk | hk
          · have := hbefore k hk hne
            omega
          · rcases List.mem_cons.1 hk with rfl | hk
            · have e1 := (hP k hmb.1).1 hmms
              have := (hL k hmb.1).2
              omega
            · obtain ⟨hk0, hkm⟩ := hmk k hk
              have e0 := hsame k hk0 hkm
              rcases hl' k hk with h | h
              · have e1 := (hP k hk0).2.1 (by rw [e0]; omega)
                have := (hL k hk0).1 (by omega)
                omega
              · have h3 := (hP k hk0).2.2 (by rw [e0]; exact h.1)
                have := (hL k hk0).2
                omega
        · have := hbefore k hk hne
          omega
    · rw [if_neg hc]
      refine fair_pass hy hn hord f v ms (p ++ [m]) x ho' hx (fun k hk => ?_) hl' hall
      rcases List.mem_append.1 hk with hk | hk
      · exact hp k hk
      · simp at hk
        subst hk
        left
        rcases hm with h | h
        · omega
        · -- blocked: y can't have more either
          have hcan : ¬ can rows most x k = true := fun h' => hc ⟨h.1, h'⟩
          refine ⟨?_, by omega⟩
          rcases Int.lt_or_le v (atI y k) with hlt | hge
          · exfalso
            apply hcan
            rw [can_spec]
            have hyl := hy.lim k hmb.1 hmb.2
            refine ⟨by omega, fun r hr hkr e => ?_⟩
            have hrow := hx.vl.row r hr
            have hle : sumR r (inc x k) ≤ sumR r y := sum_le (fun j hj => by
              have hjb := hrow.2.1 j hj
              rw [inc_at hmx hjb.1]
              split
              · rename_i he
                subst he
                omega
              · have hjo := hall j hjb.1 hjb.2
                rw [ho, List.mem_append] at hjo
                rcases hjo with hjo | hjo
                · rcases hp j hjo with h' | h' <;> omega
                · rcases hl j hjo with h' | h' <;> omega)
            rw [inc_sum (fun j hj => (hrow.2.1 j hj).1) hrow.2.2 hmx, if_pos hkr] at hle
            have := hy.sum r hr
            omega
          · omega

theorem fair_lev (hy : Fit rows most y) (hn : order.Nodup) (hord : ∀ m ∈ order, 0 ≤ m ∧ m < (most.length : Int)) (hall : ∀ k : Int, 0 ≤ k → k < most.length → k ∈ order) : ∀ (f : Nat) (v : Int) (x : List Int), Fit rows most x →
    (∀ m ∈ order, (atI x m = atI y m ∧ atI x m < v) ∨ (atI x m = v ∧ v ≤ atI y m)) →
    (∀ m ∈ order, (atI (levO rows most order f v x) m = atI y m ∧ atI (levO rows most order f v x) m < v + f) ∨ (atI (levO rows most order f v x) m = v + f ∧ v + f ≤ atI y m)) ∨ Fairer (levO rows most order f v x) y order
  | 0, v, x, _, h => by
    left
    intro m hm
    have := h m hm
    simp only [levO]
    omega
  | f + 1, v, x, hx, h => by
    rw [levO]
    rcases fair_pass hy hn hord f v order [] x rfl hx (fun _ hk => by cases hk) h hall with h1 | h1
    · rcases fair_lev hy hn hord hall f (v + 1) (passO rows most v order x) (passO_fit hord hx) (fun m hm => by
        have := h1 m hm
        omega) with h2 | h2
      · left
        intro m hm
        have := h2 m hm
        omega
      · exact .inr h2
    · exact .inr h1
end

section
variable {rows : List Rw} {most y order : List Int}
theorem zeros_at (n : Nat) (m : Int) : atI (List.replicate n 0) m = 0 := by
  unfold atI
  rw [List.getD_eq_getElem?_getD, List.getElem?_replicate]
  split <;> rfl
theorem zeros_fit (h : VL rows most) : Fit rows most (List.replicate most.length 0) := by
  refine ⟨h, by simp, fun m h1 h2 => ?_, fun r hr => ?_⟩
  · rw [zeros_at]
    exact ⟨by omega, (h.lim _ (atI_mem ⟨h1, h2⟩)).1⟩
  · have : sumR r (List.replicate most.length 0) = 0 := by
      unfold sumR
      have : ∀ l : List Int, (l.map (atI (List.replicate most.length 0))).sum = 0 := by
        intro l
        induction l with
        | nil => rfl
        | cons a as ih => simp only [List.map_cons, List.sum_cons, zeros_at, ih]; rfl
      exact this _
    rw [this]
    exact (h.row r hr).1.1
/-- What is shared is permitted, and the fairest. -/
theorem share_eq (ho : isOrd order (most.length : Nat) = true) : shareF rows most order = levO rows most order 1002 0 (List.replicate most.length 0) := by
  obtain ⟨h1, h2, h3⟩ := isOrd_iff.1 ho
  refine lev_eq h3 1002 0 _ _ (by simpa using h2) (fun m _ => by rw [zeros_at]; omega) ?_
  rw [List.filter_eq_self.2]
  intro m _
  rw [zeros_at]
  rfl
theorem share_fit (h : VL rows most) (ho : isOrd order (most.length : Nat) = true) : Fit rows most (shareF rows most order) := by
  rw [share_eq ho]
  exact levO_fit (isOrd_iff.1 ho).2.1 1002 0 _ (zeros_fit h)
theorem list_ext {a b : List Int} (h : a.length = b.length) (he : ∀ m : Int, 0 ≤ m → m < a.length → atI a m = atI b m) : a = b := by
  apply List.ext_getElem h
  intro i h1 h2
  have := he (i : Int) (by omega) (by omega)
  simpa [atI, h1, h2] using this
theorem ord_mem (ho : isOrd order (most.length : Nat) = true) (k : Int) (h1 : 0 ≤ k) (h2 : k < most.length) : k ∈ order := by
  obtain ⟨g1, g2, g3⟩ := isOrd_iff.1 ho
  exact ord_all most.length order (by omega) (by simpa using g2) g3 k h1 h2
theorem share_fair (ho : isOrd order (most.length : Nat) = true) (hy : Fit rows most y) : shareF rows most order = y ∨ Fairer (shareF rows most order) y order := by
  obtain ⟨h1, h2, h3⟩ := isOrd_iff.1 ho
  have hx := share_fit hy.vl ho
  have hs := share_eq (rows := rows) ho
  rcases fair_lev hy h3 h2 (ord_mem ho) 1002 0 (List.replicate most.length 0) (zeros_fit hy.vl) (fun m hm => by
    right
    rw [zeros_at]
    exact ⟨rfl, (hy.lim m (h2 m hm).1 (h2 m hm).2).1⟩) with h | h
  · left
    rw [← hs] at h
    refine list_ext (by rw [hx.len, hy.len]) (fun m hm1 hm2 => ?_)
    rw [hx.len] at hm2
    rcases h m (ord_mem ho m hm1 hm2) with h' | h'
    · exact h'.1
    · have e1 := hx.lim m hm1 hm2
      have e2 := hy.vl.lim _ (atI_mem (x := most) ⟨hm1, hm2⟩)
      omega
  · right
    rw [hs]
    exact h

/-! ### What Better says -/
theorem betGo_after {x y : List Int} {μ : Int} {b : Int} (hb : b ≠ 0) : ∀ {s : List Int}, (∀ k ∈ s, 0 ≤ atI x k ∧ 0 ≤ atI y k) → (∀ k ∈ s, atI x k ≠ atI y k → μ ≤ min (atI x k) (atI y k)) → betGo x y s μ b = b
  | [], _, _ => rfl
  | k :: ks, h0, h => by
    have h1 := h0 k (List.mem_cons_self ..)
    have ih := betGo_after (μ := μ) hb (s := ks) (fun j hj => h0 j (List.mem_cons_of_mem _ hj)) (fun j hj => h j (List.mem_cons_of_mem _ hj))
    rw [betGo, if_neg (by omega)]
    by_cases he : atI x k = atI y k
    · rw [if_pos he, ih]
    · have := h k (List.mem_cons_self ..) he
      rw [if_neg he, if_neg (by omega), ih]
theorem betGo_first {x y : List Int} {m : Int} {s : List Int} {μ : Int} (hd : atI x m ≠ atI y m) (hμ : min (atI x m) (atI y m) = μ) (hs : ∀ k ∈ s, atI x k ≠ atI y k → μ ≤ min (atI x k) (atI y k)) (hm0 : ∀ k ∈ m :: s, 0 ≤ atI x k ∧ 0 ≤ atI y k) : ∀ {p : List Int} {l b : Int}, (∀ k ∈ p, 0 ≤ atI x k ∧ 0 ≤ atI y k) →
    (∀ k ∈ p, atI x k ≠ atI y k → μ < min (atI x k) (atI y k)) → (b = 0 ∨ μ < l) → betGo x y (p ++ m :: s) l b = if atI x m < atI y m then -1 else 1
  | [], l, b, _, _, hb => by
    have h1 := hm0 m (List.mem_cons_self ..)
    rw [List.nil_append, betGo, if_neg (by omega), if_neg hd, if_pos (by rw [hμ]; exact hb), hμ]
    exact betGo_after (by split <;> decide) (fun k hk => hm0 k (List.mem_cons_of_mem _ hk)) hs
  | k :: ks, l, b, h0, h, hb => by
    have h1 := h0 k (List.mem_cons_self ..)
    have h0' := fun j hj => h0 j (List.mem_cons_of_mem k hj)
    have h' := fun j hj => h j (List.mem_cons_of_mem k hj)
    rw [List.cons_append, betGo, if_neg (by omega)]
    by_cases he : atI x k = atI y k
    · rw [if_pos he]
      exact betGo_first hd hμ hs hm0 h0' h' hb
    · have h2 := h k (List.mem_cons_self ..) he
      rw [if_neg he]
      split
      · exact betGo_first hd hμ hs hm0 h0' h' (.inr h2)
      · exact betGo_first hd hμ hs hm0 h0' h' hb
theorem bet_fairer {x y : List Int} (hl : x.length = y.length) (ho : isOrd order (x.length : Nat) = true) (h0 : ∀ k ∈ order, 0 ≤ atI x k ∧ 0 ≤ atI y k) (h : Fairer x y order) : bet x y order = 1 := by
  obtain ⟨p, m, s, rfl, h1, h2, h3⟩ := h
  rw [bet, if_pos ⟨hl, ho⟩, betGo_first (μ := atI y m) (by omega) (by omega) (fun k hk => h2 k (by simp [hk])) (fun k hk => h0 k (by rw [List.mem_append]; exact .inr hk)) (fun k hk => h0 k (by simp [hk])) h3 (.inl rfl), if_neg (by omega)]
theorem bet_self {x : List Int} : bet x x order = 0 := by
  have : ∀ (l : List Int) (a : Int), betGo x x l a 0 = 0 := by
    intro l
    induction l with
    | nil => intro a; rfl
    | cons k ks ih =>
      intro a
      rw [betGo]
      split
      · rfl
      · rw [if_pos rfl]; exact ih a
  unfold bet
  split
  · exact this _ _
  · rfl
/-- Both can't be the fairer one. -/
theorem fairer_asymm {x y : List Int} (h : Fairer x y order) (h' : Fairer y x order) : False := by
  obtain ⟨p, m, s, ho, h1, h2, h3⟩ := h
  obtain ⟨p', m', s', ho', h1', h2', h3'⟩ := h'
  have a1 := h2 m' (by rw [ho']; simp) (by omega)
  have a2 := h2' m (by rw [ho]; simp) (by omega)
  rw [ho] at ho'
  rcases List.append_eq_append_iff.1 ho' with ⟨t, h4, h5⟩ | ⟨t, h4, h5⟩
  · cases t with
    | nil =>
      simp at h5
      obtain ⟨rfl, rfl⟩ := h5
      omega
    | cons a as =>
      simp only [List.cons_append, List.cons.injEq] at h5
      have := h3' m (by rw [h4, ← h5.1]; simp) (by omega)
      omega
  · cases t with
    | nil =>
      simp at h5
      obtain ⟨rfl, rfl⟩ := h5
      omega
    | cons a as =>
      simp only [List.cons_append, List.cons.injEq] at h5
      have := h3 m' (by rw [h4, ← h5.1]; simp) (by omega)
      omega
end
end Go.Proofs.Ytjaeekikddbbeaa
