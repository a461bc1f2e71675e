/- Package plan: marks; what a cut's numbers add up to, plain. -/
import Derived.Test.YthgkfdhkmkbioaaPe21
namespace Go.Proofs.Ythgkfdhkmkbioaa
open Go.RowKit Go.Shelf
attribute [local go_sem] Oper.semAt_some

/-! ### Lists of numbers, plain -/
/-- Strictly increasing numbers below n. -/
structure Inc (n : Nat) (l : List Nat) : Prop where
  lt : l.Pairwise (· < ·)
  bd : ∀ x ∈ l, x < n
theorem Inc.nodup {n : Nat} {l : List Nat} (h : Inc n l) : l.Nodup := h.lt.imp (fun h => Nat.ne_of_lt h)
theorem Inc.len {n : Nat} {l : List Nat} (h : Inc n l) : l.length ≤ n := nodup_le h.nodup h.bd
def sumF (l : List Nat) (f : Nat → Int) : Int := sumI (l.map f)
theorem sumF_take {l : List Nat} {f : Nat → Int} {k : Nat} (h : k < l.length) : sumF (l.take (k + 1)) f = sumF (l.take k) f + f (l.getD k 0) := by
  unfold sumF
  rw [List.take_add_one, List.getElem?_eq_getElem h, List.map_append, sumI_append, List.getD_eq_getElem?_getD, List.getElem?_eq_getElem h]
  simp [sumI]
theorem sumF_bd {l : List Nat} {f : Nat → Int} {M : Int} (h : ∀ x ∈ l, 0 ≤ f x ∧ f x ≤ M) : 0 ≤ sumF l f ∧ sumF l f ≤ M * l.length := by
  induction l with
  | nil => simp [sumF, sumI]
  | cons x l ih =>
    have h1 := ih (fun y hy => h y (List.mem_cons_of_mem _ hy))
    have h2 := h x (List.mem_cons_self ..)
    have e : M * ((x :: l).length : Int) = M * (l.length : Int) + M := by rw [List.length_cons]; push_cast; rw [Int.mul_add, Int.mul_one]
    rw [e]
    show 0 ≤ f x + sumF l f ∧ f x + sumF l f ≤ _
    omega
theorem sumF_mem {n : Nat} {f : Nat → Int} : ∀ {l : List Nat}, l.Nodup → (∀ x ∈ l, x < n) → sumF l f = sumN n (fun i => if decide (i ∈ l) = true then f i else 0)
  | [], _, _ => (sumN_zero fun i _ => by simp).symm
  | a :: l, hn, hb => by
    have hn2 := List.nodup_cons.1 hn
    show f a + sumF l f = _
    rw [sumF_mem hn2.2 (fun x hx => hb x (List.mem_cons_of_mem _ hx))]
    have e : sumN n (fun i => if decide (i ∈ a :: l) = true then f i else 0) = sumN n (fun i => (if i = a then f i else 0) + (if decide (i ∈ l) = true then f i else 0)) := sumN_congr fun i _ => by
      by_cases h1 : i = a
      · subst h1
        rw [if_pos rfl, if_pos (by simp), if_neg (by simpa using hn2.1)]
        omega
      · rw [if_neg h1]
        by_cases h2 : i ∈ l
        · rw [if_pos (by simp [h2]), if_pos (by simp [h2])]; omega
        · rw [if_neg (by simp [h1, h2]), if_neg (by simp [h2])]; rfl
    rw [e, sumN_add, sumN_pick, if_pos (hb a (List.mem_cons_self ..))]
/-- A cut, by its lists. -/
def CutL (J : List Jb) (S : List Int) (cl tl : List Nat) : Prop := CutOk J S (fun i => decide (i ∈ cl)) (fun t => decide (t ∈ tl))
theorem CutOk.congr {J : List Jb} {S : List Int} {C C' T T' : Nat → Bool} (h : CutOk J S C T) (hC : ∀ i, i < J.length → C i = C' i) (hT : ∀ t, t < S.length → T t = T' t) : CutOk J S C' T' := by
  have e1 : needC J C = needC J C' := sumN_congr fun i hi => by rw [hC i hi]
  have e2 : roomC J S C T = roomC J S C' T' := by
    unfold roomC
    rw [sumN_congr (g := fun t => if T' t = true then S.getD t 0 else 0) (fun t ht => by rw [hT t ht]), sumN_congr (n := J.length) (g := fun i => if C' i = true then sumN S.length (fun t => if T' t = true then 0 else rateAt (getJ J i) t) else 0) (fun i hi => by
      rw [hC i hi, sumN_congr (g := fun t => if T' t = true then 0 else rateAt (getJ J i) t) (fun t ht => by rw [hT t ht])])]
  unfold CutOk at *
  rw [← e1, ← e2]
  exact h
theorem chosenL_mem {X : Nat → Bool} {n i : Nat} : i ∈ chosenL X n ↔ i < n ∧ X i = true := by simp [chosenL]
theorem chosenL_inc (X : Nat → Bool) (n : Nat) : Inc n (chosenL X n) := ⟨List.Pairwise.filter _ List.pairwise_lt_range, fun _x hx => (chosenL_mem.1 hx).1⟩
theorem chosenL_cut {J : List Jb} {S : List Int} {C T : Nat → Bool} (h : CutOk J S C T) : CutL J S (chosenL C J.length) (chosenL T S.length) :=
  h.congr (fun i hi => by
    rw [Bool.eq_iff_iff, decide_eq_true_iff, chosenL_mem]
    exact ⟨fun h => ⟨hi, h⟩, fun h => h.2⟩) (fun i hi => by
    rw [Bool.eq_iff_iff, decide_eq_true_iff, chosenL_mem]
    exact ⟨fun h => ⟨hi, h⟩, fun h => h.2⟩)
/-- What a job's slots outside the cut give. -/
def outG (tl : List Nat) (F : Nat) (r : Int) (d : Nat) : Int := if decide (F + d ∈ tl) = true then 0 else r
def outJ (J : List Jb) (tl : List Nat) (i : Nat) : Int := sumN (lenJ (getJ J i)) (outG tl (getJ J i).f.toNat (getJ J i).r)
theorem outJ_rate {J : List Jb} {S : List Int} (hv : ValidP J S) {tl : List Nat} {i : Nat} (hi : i < J.length) : outJ J tl i = sumN S.length (fun t => if decide (t ∈ tl) = true then 0 else rateAt (getJ J i) t) := by
  have hj := hv.j _ (getJ_mem hi)
  have a0 := hj.f0
  have a1 := hj.ft
  have a2 := hj.tm
  have e2 : sumN S.length (fun t => if decide (t ∈ tl) = true then 0 else rateAt (getJ J i) t) = sumN S.length (fun t => if (getJ J i).f.toNat ≤ t ∧ t < (getJ J i).t.toNat then outG tl (getJ J i).f.toNat (getJ J i).r (t - (getJ J i).f.toNat) else 0) := sumN_congr fun t ht => by
    rw [rateAt_nat hj]
    by_cases e : (getJ J i).f.toNat ≤ t ∧ t < (getJ J i).t.toNat
    · rw [if_pos e, if_pos e]
      unfold outG
      rw [show (getJ J i).f.toNat + (t - (getJ J i).f.toNat) = t by omega]
    · rw [if_neg e, if_neg e]; split <;> rfl
  rw [e2]
  exact (sumN_range (g := outG tl (getJ J i).f.toNat (getJ J i).r) (by omega) (by omega)).symm
theorem cut_sums {J : List Jb} {S : List Int} (hv : ValidP J S) {cl tl : List Nat} (hc : Inc J.length cl) (ht : Inc S.length tl) (h : CutL J S cl tl) : sumF tl (fun t => S.getD t 0) + sumF cl (outJ J tl) < sumF cl (fun i => (getJ J i).e) := by
  rw [sumF_mem ht.nodup ht.bd, sumF_mem hc.nodup hc.bd, sumF_mem hc.nodup hc.bd]
  have e : sumN J.length (fun i => if decide (i ∈ cl) = true then outJ J tl i else 0) = sumN J.length (fun i => if decide (i ∈ cl) = true then sumN S.length (fun t => if decide (t ∈ tl) = true then 0 else rateAt (getJ J i) t) else 0) := sumN_congr fun i hi => by rw [outJ_rate hv hi]
  rw [e]
  exact h
/-- The numbers that a list contains, marked. -/
def markL (l : List Nat) (n : Nat) : List Bool := (List.range n).map fun i => decide (i ∈ l)
theorem markL_len (l : List Nat) (n : Nat) : (markL l n).length = n := by simp [markL]
theorem markL_get {l : List Nat} {n i : Nat} (h : i < n) : (markL l n).getD i false = decide (i ∈ l) := by simp [markL, h]
theorem markL_nil (n : Nat) : markL [] n = List.replicate n false := by
  apply List.ext_getElem?
  intro i
  rw [List.getElem?_replicate]
  by_cases h : i < n
  · simp [markL, h]
  · simp [markL, h]
theorem markL_snoc (l : List Nat) (x n : Nat) : (markL l n).set x true = markL (l ++ [x]) n := by
  apply List.ext_getElem?
  intro i
  by_cases h : i < n
  · by_cases e : x = i
    · subst e
      simp [markL, h]
    · rw [List.getElem?_set_ne e]
      simp [markL, h, Ne.symm e]
  · simp [markL, h]
theorem take_snocN {l : List Nat} {k : Nat} (h : k < l.length) : l.take (k + 1) = l.take k ++ [l.getD k 0] := by
  rw [List.take_add_one, List.getElem?_eq_getElem h, List.getD_eq_getElem?_getD, List.getElem?_eq_getElem h]
  rfl
/-- The last number ahead of the k-th, or -1. -/
def lastI (l : List Nat) : Nat → Int
  | 0 => -1
  | k + 1 => ((l.getD k 0 : Nat) : Int)
theorem lastI_lt {n : Nat} {l : List Nat} (h : Inc n l) {k : Nat} (hk : k < l.length) : lastI l k < ((l.getD k 0 : Nat) : Int) := by
  cases k with
  | zero => show (-1 : Int) < _; omega
  | succ k =>
    show ((l.getD k 0 : Nat) : Int) < ((l.getD (k + 1) 0 : Nat) : Int)
    have := List.pairwise_iff_getElem.1 h.lt k (k + 1) (by omega) hk (by omega)
    rw [List.getD_eq_getElem?_getD, List.getD_eq_getElem?_getD, List.getElem?_eq_getElem hk, List.getElem?_eq_getElem (by omega)]
    simpa using this
theorem Inc.get {n : Nat} {l : List Nat} (h : Inc n l) {k : Nat} (hk : k < l.length) : l.getD k 0 < n := h.bd _ (by rw [List.getD_eq_getElem?_getD, List.getElem?_eq_getElem hk]; exact List.getElem_mem hk)

/-! ### marks -/
def MarksOut (l : List Nat) (n : Nat) (w : World) (e : Ending) (w' : World) : Prop := Below w.heap.size w w' ∧ ∃ MB, e = .returned (.tuple #[.slice (some ⟨MB, 0, none⟩) n n, .bool true]) ∧ w.heap.size ≤ MB ∧ Blk w' MB 4 (boolsC (markL l n))
set_option maxRecDepth 100000 in
set_option maxHeartbeats 4000000 in
theorem marks_ok (o : Option Addr) (cap : Nat) (l : List Nat) (n : Nat) (w : World) (hi : Ints w o (natI l)) (hl : Inc n l) (hn : n ≤ 1000) : Calls Try.prog 25 #[.slice o l.length cap, .int .i64 (n : Nat)] w (MarksOut l n w) := by
  have HI := Lib.hid hi
  have HL := Lib.hid hl
  have hlen := hl.len
  clear hi hl
  have hmk := run_makeN (P := Try.prog) 60 4 (.bool false) 1 1 Try.underlying60 (by kernel_rfl) n (by omega) (by omega)
  rw [show (Value.bool false).cells = #[.bool false] from rfl, Nat.mul_one, made_bools] at hmk
  go_enter Try.func25, Try.ntmps25
  go_upto_region 2 with (fail)
  have HM0 := Lib.hid (Blk.new w 4 (boolsC (List.replicate n false)))
  have HB0 := Lib.hid (below_alloc (Below.refl w.heap.size w) (.cells (boolsC (List.replicate n false)) 4))
  obtain ⟨W1, hW1⟩ : ∃ W, W = w.alloc (.cells (boolsC (List.replicate n false)) 4) := ⟨_, rfl⟩
  rw [← hW1] at HM0 HB0 ⊢
  clear hW1 hmk
  rw [← markL_nil] at HM0
  obtain ⟨MB, hMB⟩ : ∃ B, w.heap.size = B := ⟨_, rfl⟩
  have HMB := Lib.hid hMB
  rw [hMB] at HM0 ⊢
  clear hMB
  go_wp2_with fail
  go_loopw [7, 14] (fun bf i wr => ∃ k : Nat, k ≤ l.length ∧ i = .int .i64 k ∧ bf = .int .i64 (lastI l k) ∧ Below w.heap.size w wr ∧ Blk wr MB 4 (boolsC (markL (l.take k) n))) (fun _ i _ => l.length - (intOf i).toNat)
  case atStart => exact ⟨0, Nat.zero_le _, rfl, rfl, HB0.out, HM0.out⟩
  case round =>
    obtain ⟨k, hk, rfl, rfl, hb, hm⟩ := hrel
    obtain ⟨wA, rfl⟩ : ∃ wA : World, wA = wr := ⟨_, rfl⟩
    clear HB0 HM0
    have HB := Lib.hid hb
    have HM := Lib.hid hm
    clear hb hm
    by_cases hlt : k < l.length
    · obtain ⟨b, off, rfl, c0⟩ := (HI.out.later HB.out) k (by rw [natI_length]; exact hlt)
      rw [natI_get hlt] at c0
      have hlast := lastI_lt HL.out hlt
      have hxn := HL.out.get hlt
      have HSN := Lib.hid (show (markL (l.take k) n).set (l.getD k 0) true = markL (l.take (k + 1)) n by rw [markL_snoc, take_snocN hlt])
      have HLS := Lib.hid (show lastI l (k + 1) = ((l.getD k 0 : Nat) : Int) from rfl)
      have m0 : wA.cell? ⟨MB, l.getD k 0, none⟩ = some (.bool ((markL (l.take k) n).getD (l.getD k 0) false)) := (HM.out.cell _).trans (boolsC_get (by rw [markL_len]; exact hxn))
      have HST := Lib.hid (show Blk (wA.setCell ⟨MB, l.getD k 0, none⟩ (.bool true)) MB 4 (boolsC (markL (l.take (k + 1)) n)) by
        rw [← HSN.out, ← boolsC_set]
        exact HM.out.set _ _)
      have mf := HM.out.frozen (l.getD k 0)
      obtain ⟨x, hx⟩ : ∃ x, l.getD k 0 = x := ⟨_, rfl⟩
      obtain ⟨z, hz⟩ : ∃ z, lastI l k = z := ⟨_, rfl⟩
      rw [hx] at c0 hlast hxn HLS m0 HST mf
      rw [hz] at hlast ⊢
      clear hx hz HSN
      have y1 : (0 : Int) ≤ (k : Int) := by omega
      have y2 : (k : Int) < (l.length : Int) := by omega
      have d1 : decide ((x : Int) ≤ z) = false := decide_eq_false (by omega)
      have d2 : decide ((n : Int) ≤ (x : Int)) = false := decide_eq_false (by omega)
      have d3 : decide (n ≤ x) = false := decide_eq_false (by omega)
      have x1 : (0 : Int) ≤ (x : Int) := by omega
      have x2 : (x : Int) < (n : Int) := by omega
      go_wp2
      refine ⟨⟨k + 1, hlt, by go_num, by rw [HLS.out], HB.out.setCell (Nat.le_of_eq HMB.out) _, HST.out⟩, meas_lt hlt⟩
    · obtain rfl : k = l.length := by omega
      have HT := Lib.hid (show l.take l.length = l from List.take_length)
      rw [HT.out] at HM
      go_wp2
      exact bodyPost_ret (v := .tuple #[.slice (some ⟨MB, 0, none⟩) n n, .bool true]) (by simp [results, Try.results25, go_sem]) rfl ⟨HB.out, MB, rfl, Nat.le_of_eq HMB.out, HM.out⟩
end Go.Proofs.Ythgkfdhkmkbioaa
