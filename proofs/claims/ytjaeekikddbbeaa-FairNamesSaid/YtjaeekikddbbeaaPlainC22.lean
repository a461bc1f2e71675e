/- Chapter 22 in plain Lean: for each member its rows; what is left of the rows. No statement about the program. -/
import Derived.Test.YtjaeekikddbbeaaPlainB22
namespace Go.Proofs.Ytjaeekikddbbeaa

def inTo (rows : List Rw) (k : Nat) (m : Int) : List Int := ((List.range k).filter (fun i => (getW rows i).ms.contains m)).map (fun i : Nat => (i : Int))
def inOf (rows : List Rw) (m : Int) : List Int := inTo rows rows.length m
theorem inTo_zero (rows : List Rw) (m : Int) : inTo rows 0 m = [] := rfl
theorem inTo_succ (rows : List Rw) (k : Nat) (m : Int) : inTo rows (k + 1) m = inTo rows k m ++ if m ∈ (getW rows k).ms then [(k : Int)] else [] := by
  unfold inTo
  rw [List.range_succ, List.filter_append, List.map_append]
  congr 1
  by_cases h : m ∈ (getW rows k).ms <;> simp [h]
theorem mem_inOf {rows : List Rw} {m i : Int} : i ∈ inOf rows m ↔ 0 ≤ i ∧ i < rows.length ∧ m ∈ (getW rows i.toNat).ms := by
  simp only [inOf, inTo, List.mem_map, List.mem_filter, List.mem_range, List.contains_eq_mem, decide_eq_true_eq]
  constructor
  · rintro ⟨j, ⟨h1, h2⟩, rfl⟩
    exact ⟨by omega, by omega, by simpa using h2⟩
  · rintro ⟨h1, h2, h3⟩
    exact ⟨i.toNat, ⟨by omega, h3⟩, by omega⟩
theorem inOf_nodup (rows : List Rw) (m : Int) : (inOf rows m).Nodup := by
  unfold inOf inTo
  rw [List.nodup_iff_pairwise_ne, List.pairwise_map]
  exact (List.nodup_range.filter _).imp (fun h e => h (by omega))
theorem inTo_len (rows : List Rw) (k : Nat) (m : Int) : (inTo rows k m).length ≤ k := by
  unfold inTo
  rw [List.length_map]
  have := List.length_filter_le (fun i => (getW rows i).ms.contains m) (List.range k)
  simpa using this

def lefts (rows : List Rw) (x : List Int) : List Int := rows.map (fun r => r.c - sumR r x)
theorem lefts_len (rows : List Rw) (x : List Int) : (lefts rows x).length = rows.length := by simp [lefts]
theorem lefts_at {rows : List Rw} {x : List Int} {i : Int} (h : 0 ≤ i ∧ i < rows.length) : atI (lefts rows x) i = (getW rows i.toNat).c - sumR (getW rows i.toNat) x := by
  have hl : i.toNat < rows.length := by omega
  simp [atI, lefts, getW, hl]
def decr (a : List Int) : List Int → List Int
  | [] => a
  | i :: is => decr (a.set i.toNat (atI a i - 1)) is
theorem decr_snoc : ∀ (l a : List Int) (i : Int), decr a (l ++ [i]) = (decr a l).set i.toNat (atI (decr a l) i - 1)
  | [], _, _ => rfl
  | x :: xs, a, i => by rw [List.cons_append, decr, decr_snoc]; rfl
theorem decr_len : ∀ (l a : List Int), (decr a l).length = a.length
  | [], _ => rfl
  | x :: xs, a => by rw [decr, decr_len, List.length_set]
theorem decr_at : ∀ {l a : List Int} {i : Int}, l.Nodup → (∀ k ∈ l, 0 ≤ k ∧ k < (a.length : Int)) → 0 ≤ i → atI (decr a l) i = atI a i - if i ∈ l then 1 else 0
  | [], _, _, _, _, _ => by simp [decr]
  | x :: xs, a, i, hn, hb, hi => by
    rw [List.nodup_cons] at hn
    have hx := hb x (List.mem_cons_self ..)
    rw [decr, decr_at hn.2 (fun k hk => by rw [List.length_set]; exact hb k (List.mem_cons_of_mem _ hk)) hi, atI_set hx hi]
    by_cases h : i = x
    · subst h
      rw [if_pos rfl, if_neg hn.1, if_pos (List.mem_cons_self ..)]
      omega
    · rw [if_neg h]
      have : (i ∈ x :: xs) = (i ∈ xs) := by
        apply propext
        rw [List.mem_cons]
        exact ⟨fun h' => h'.resolve_left h, .inr⟩
      simp only [this]
section
variable {rows : List Rw} {most x : List Int}
theorem getW_in {l : List Rw} {k : Nat} (h : k < l.length) : getW l k ∈ l := by
  unfold getW
  rw [List.getD_eq_getElem?_getD, List.getElem?_eq_getElem h]
  exact List.getElem_mem h
theorem lefts_inc (hv : VL rows most) (hl : x.length = most.length) {m : Int} (hm : 0 ≤ m ∧ m < most.length) : decr (lefts rows x) (inOf rows m) = lefts rows (inc x m) := by
  refine list_ext (by rw [decr_len, lefts_len, lefts_len]) (fun i h1 h2 => ?_)
  rw [decr_len, lefts_len] at h2
  have hr := hv.row _ (getW_in (l := rows) (k := i.toNat) (by omega))
  rw [decr_at (inOf_nodup rows m) (fun k hk => by rw [lefts_len]; have := mem_inOf.1 hk; omega) h1, lefts_at ⟨h1, h2⟩, lefts_at ⟨h1, h2⟩, inc_sum (fun k hk => (hr.2.1 k hk).1) hr.2.2 (by rw [hl]; exact hm)]
  by_cases h : m ∈ (getW rows i.toNat).ms
  · rw [if_pos (mem_inOf.2 ⟨h1, h2, h⟩), if_pos h]
    omega
  · rw [if_neg (fun h' => h (mem_inOf.1 h').2.2), if_neg h]
    omega
/-- A member may rise if it is below its limit and nothing that it needs is used up. -/
theorem can_left {m : Int} : can rows most x m = true ↔ atI x m ≠ atI most m ∧ ∀ i ∈ inOf rows m, atI (lefts rows x) i ≠ 0 := by
  rw [can_spec]
  constructor
  · rintro ⟨h1, h2⟩
    refine ⟨h1, fun i hi => ?_⟩
    obtain ⟨a, b, c⟩ := mem_inOf.1 hi
    rw [lefts_at ⟨a, b⟩]
    have := h2 _ (getW_in (l := rows) (k := i.toNat) (by omega)) c
    omega
  · rintro ⟨h1, h2⟩
    refine ⟨h1, fun r hr hm => ?_⟩
    obtain ⟨k, hk⟩ := List.getElem?_of_mem hr
    obtain ⟨hlt, he⟩ := List.getElem?_eq_some_iff.1 hk
    have hg : getW rows k = r := by simp [getW, hk]
    have := h2 (k : Int) (mem_inOf.2 ⟨by omega, by omega, by simpa [hg] using hm⟩)
    rw [lefts_at ⟨by omega, by omega⟩] at this
    simp only [Int.toNat_natCast, hg] at this
    omega
theorem lefts_bd (h : Fit rows most x) {v : Int} (hv : v ∈ lefts rows x) : 0 ≤ v ∧ v ≤ 1000000 := by
  simp only [lefts, List.mem_map] at hv
  obtain ⟨r, hr, rfl⟩ := hv
  have h1 := h.sum r hr
  have h2 := (h.vl.row r hr).1
  have h3 : 0 ≤ sumR r x := by
    unfold sumR
    have : ∀ l : List Int, (∀ m ∈ l, 0 ≤ atI x m) → 0 ≤ (l.map (atI x)).sum := by
      intro l
      induction l with
      | nil => intro _; simp
      | cons a bs ih =>
        intro h
        have e1 := h a (List.mem_cons_self ..)
        have e2 := ih (fun m hm => h m (List.mem_cons_of_mem _ hm))
        simp only [List.map_cons, List.sum_cons]
        omega
    refine this _ (fun m hm => ?_)
    have := (h.vl.row r hr).2.1 m hm
    exact (h.lim m this.1 this.2).1
  omega
theorem mem_set_bd {a : List Int} {k : Nat} {u lo hi : Int} (h : ∀ v ∈ a, lo ≤ v ∧ v ≤ hi) (hu : lo ≤ u ∧ u ≤ hi) : ∀ v ∈ a.set k u, lo ≤ v ∧ v ≤ hi := fun v hv => by
  rcases List.mem_or_eq_of_mem_set hv with h' | rfl
  · exact h v h'
  · exact hu
end
end Go.Proofs.Ytjaeekikddbbeaa
