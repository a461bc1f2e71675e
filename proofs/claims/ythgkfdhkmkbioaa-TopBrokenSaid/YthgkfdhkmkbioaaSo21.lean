/- Sorting by insertion, as Go's library does it for few elements. The plain part names no program. -/
import Derived.Test.YthgkfdhkmkbioaaFa21
namespace Go.Proofs.Ythgkfdhkmkbioaa
open Go.RowKit Go.Shelf
attribute [local go_sem] Oper.semAt_some

/-! ### Plain -/
def swapL (l : List Int) (j : Nat) : List Int := (l.set j (l.getD (j - 1) 0)).set (j - 1) (l.getD j 0)
theorem swapL_len (l : List Int) (j : Nat) : (swapL l j).length = l.length := by simp [swapL]
def sink (lt : Int → Int → Bool) (l : List Int) : Nat → List Int
  | 0 => l
  | j + 1 => if lt (l.getD (j + 1) 0) (l.getD j 0) = true then sink lt (swapL l (j + 1)) j else l
def insS (lt : Int → Int → Bool) (l : List Int) : Nat → List Int
  | 0 => l
  | i + 1 => sink lt (insS lt l i) i
theorem sink_len (lt : Int → Int → Bool) : ∀ (j : Nat) (l : List Int), (sink lt l j).length = l.length
  | 0, _ => rfl
  | j + 1, l => by
    unfold sink
    split
    · rw [sink_len lt j, swapL_len]
    · rfl
theorem insS_len (lt : Int → Int → Bool) (l : List Int) : ∀ i, (insS lt l i).length = l.length
  | 0 => rfl
  | i + 1 => (sink_len lt i _).trans (insS_len lt l i)
theorem getD_at {l : List Int} {i : Nat} (h : i < l.length) : l.getD i 0 = l[i] := by
  rw [List.getD_eq_getElem?_getD, List.getElem?_eq_getElem h]; rfl
theorem swapL_perm {l : List Int} {j : Nat} (h : j < l.length) : (swapL l j).Perm l := by
  unfold swapL
  rw [getD_at h, getD_at (show j - 1 < l.length by omega)]
  exact List.set_set_perm h (by omega)
theorem sink_perm {lt : Int → Int → Bool} : ∀ {j : Nat} {l : List Int}, j < l.length → (sink lt l j).Perm l
  | 0, _, _ => List.Perm.refl _
  | j + 1, l, h => by
    unfold sink
    split
    · exact (sink_perm (by rw [swapL_len]; omega)).trans (swapL_perm h)
    · exact List.Perm.refl _
theorem insS_perm {lt : Int → Int → Bool} {l : List Int} : ∀ {i : Nat}, i ≤ l.length → (insS lt l i).Perm l
  | 0, _ => List.Perm.refl _
  | i + 1, h => (sink_perm (by rw [insS_len]; omega)).trans (insS_perm (by omega))
theorem swapL_get {l : List Int} {j i : Nat} (hj : j + 1 < l.length) : (swapL l (j + 1)).getD i 0 = if i = j then l.getD (j + 1) 0 else if i = j + 1 then l.getD j 0 else l.getD i 0 := by
  unfold swapL
  rw [Nat.add_sub_cancel]
  by_cases h1 : i = j
  · subst h1
    rw [if_pos rfl, List.getD_eq_getElem?_getD, List.getElem?_set_self (by rw [List.length_set]; omega)]
    rfl
  · rw [if_neg h1, List.getD_eq_getElem?_getD, List.getElem?_set_ne (fun h => h1 h.symm)]
    by_cases h2 : i = j + 1
    · subst h2
      rw [if_pos rfl, List.getElem?_set_self hj]
      rfl
    · rw [if_neg h2, List.getElem?_set_ne (fun h => h2 h.symm), ← List.getD_eq_getElem?_getD]
/-- An order: not less is an order, and less is not both ways. -/
structure OrdLt (lt : Int → Int → Bool) : Prop where
  asym : ∀ a b, lt a b = true → lt b a = false
  tr : ∀ a b c, lt b a = false → lt c b = false → lt c a = false
theorem sink_sorted {lt : Int → Int → Bool} (ho : OrdLt lt) : ∀ {j i : Nat} {l : List Int}, j ≤ i → i < l.length →
    (∀ a b, a < b → b ≤ i → a ≠ j → b ≠ j → lt (l.getD b 0) (l.getD a 0) = false) → (∀ b, j < b → b ≤ i → lt (l.getD b 0) (l.getD j 0) = false) →
    ∀ a b, a < b → b ≤ i → lt ((sink lt l j).getD b 0) ((sink lt l j).getD a 0) = false
  | 0, i, l, _, _, h1, h2, a, b, hab, hb => by
    show lt (l.getD b 0) (l.getD a 0) = false
    by_cases e : a = 0
    · subst e; exact h2 b hab hb
    · exact h1 a b hab hb e (by omega)
  | j + 1, i, l, hj, hi, h1, h2, a, b, hab, hb => by
    unfold sink
    by_cases hc : lt (l.getD (j + 1) 0) (l.getD j 0) = true
    · rw [if_pos hc]
      have hg := fun k => swapL_get (l := l) (j := j) (i := k) (by omega)
      refine sink_sorted ho (by omega) (by rw [swapL_len]; exact hi) (fun a b hab hb ha hbj => ?_) (fun b hjb hb => ?_) a b hab hb
      · rw [hg, hg, if_neg hbj, if_neg ha]
        by_cases e1 : a = j + 1
        · subst e1
          rw [if_neg (by omega), if_pos rfl]
          exact h1 _ b (by omega) hb (by omega) (by omega)
        · by_cases e2 : b = j + 1
          · subst e2
            rw [if_pos rfl, if_neg e1]
            exact h1 a _ (by omega) (by omega) e1 (by omega)
          · rw [if_neg e1, if_neg e2]
            exact h1 a b hab hb e1 e2
      · rw [hg, hg, if_neg (by omega), if_pos rfl]
        by_cases e2 : b = j + 1
        · subst e2
          rw [if_pos rfl]
          exact ho.asym _ _ hc
        · rw [if_neg e2]
          exact h2 b (by omega) hb
    · rw [if_neg hc]
      have hc' : lt (l.getD (j + 1) 0) (l.getD j 0) = false := by simpa using hc
      by_cases e1 : a = j + 1
      · subst e1; exact h2 b hab hb
      · by_cases e2 : b = j + 1
        · subst e2
          by_cases e3 : a = j
          · subst e3; exact hc'
          · exact ho.tr _ _ _ (h1 a j (by omega) (by omega) e1 (by omega)) hc'
        · exact h1 a b hab hb e1 e2
theorem insS_sorted {lt : Int → Int → Bool} (ho : OrdLt lt) {l : List Int} : ∀ {i : Nat}, i ≤ l.length → ∀ a b, a < b → b < i → lt ((insS lt l i).getD b 0) ((insS lt l i).getD a 0) = false
  | 0, _, _, _, _, h => absurd h (Nat.not_lt_zero _)
  | i + 1, hi, a, b, hab, hb => by
    have ih := insS_sorted ho (l := l) (i := i) (by omega)
    exact sink_sorted ho (Nat.le_refl i) (by rw [insS_len]; omega) (fun a b hab hb ha hbi => ih a b hab (by omega)) (fun b h1 h2 => absurd h1 (by omega)) a b hab (by omega)

/-! ### Comparing -/
theorem isNaN_any (a : Int) (w : World) : Calls Try.prog 78 #[.int .i64 a] w (fun e w' => e = .returned (.bool false) ∧ w = w') := by
  have e1 : (a != a) = false := by simp
  go_enter Try.func78, Try.ntmps78
  go_wp2
  go_ret
  exact ⟨rfl, rfl⟩
theorem less_any (a b : Int) (w : World) : Calls Try.prog 62 #[.int .i64 a, .int .i64 b] w (fun e w' => e = .returned (.bool (decide (a < b))) ∧ w = w') := by
  go_enter Try.func62, Try.ntmps62
  go_wp2_with fail
  refine (isNaN_any a _).mono ?_
  rintro _ _ ⟨rfl, rfl⟩
  go_wp2
  go_ret
  exact ⟨rfl, rfl⟩
def cmpI (a b : Int) : Int := if a < b then -1 else if b < a then 1 else 0
theorem compare_any (a b : Int) (w : World) : Calls Try.prog 70 #[.int .i64 a, .int .i64 b] w (fun e w' => e = .returned (.int .i64 (cmpI a b)) ∧ w = w') := by
  go_enter Try.func70, Try.ntmps70
  go_wp2_with fail
  refine (isNaN_any a _).mono ?_
  rintro _ _ ⟨rfl, rfl⟩
  go_wp2_with fail
  refine (isNaN_any b _).mono ?_
  rintro _ _ ⟨rfl, rfl⟩
  by_cases h1 : a < b
  · have HC := Lib.hid (show cmpI a b = -1 by unfold cmpI; rw [if_pos h1])
    go_wp2
    go_ret
    exact ⟨by rw [HC.out]; rfl, rfl⟩
  · by_cases h2 : b < a
    · have HC := Lib.hid (show cmpI a b = 1 by unfold cmpI; rw [if_neg h1, if_pos h2])
      go_wp2
      go_ret
      exact ⟨by rw [HC.out]; rfl, rfl⟩
    · have HC := Lib.hid (show cmpI a b = 0 by unfold cmpI; rw [if_neg h1, if_neg h2])
      go_wp2
      go_ret
      exact ⟨by rw [HC.out]; rfl, rfl⟩
def orI (a b : Int) : Int := if a = 0 then b else a
set_option maxRecDepth 100000 in
theorem or2_any (B : Nat) (a b : Int) (w : World) (h : Blk w B 3 #[.int .i64 a, .int .i64 b]) : Calls Try.prog 69 #[.slice (some ⟨B, 0, none⟩) 2 2] w (fun e w' => e = .returned (.int .i64 (orI a b)) ∧ w = w') := by
  have c0 : w.cell? ⟨B, 0, none⟩ = some (.int .i64 a) := h.cell 0
  have c1 : w.cell? ⟨B, 1, none⟩ = some (.int .i64 b) := h.cell 1
  clear h
  have HC := Lib.hid (show orI a b = if a = 0 then b else a from rfl)
  go_enter Try.func69, Try.ntmps69
  go_wp2_with fail
  go_loop [8] (fun i => ∃ k : Nat, k ≤ 2 ∧ i = .int .i64 k ∧ (0 < k → a = 0) ∧ (1 < k → b = 0)) (fun i => 2 - (intOf i).toNat)
  case atStart => exact ⟨0, by omega, rfl, fun h => absurd h (by omega), fun h => absurd h (by omega)⟩
  case round =>
    obtain ⟨k, hk, rfl, h1, h2⟩ := hrel
    have h3 : k = 0 ∨ k = 1 ∨ k = 2 := by omega
    rcases h3 with rfl | rfl | rfl
    · by_cases ha : a = 0
      · have da : (a != 0) = false := by simp [ha]
        have HA := Lib.hid ha
        clear ha
        go_wp2
        go_round
        case rel => exact ⟨1, by omega, rfl, fun _ => HA.out, fun h => absurd h (by omega)⟩
        case measure => simp [intOf]
      · have da : (a != 0) = true := by simp [ha]
        rw [if_neg ha] at HC
        clear ha
        go_wp2
        go_ret
        exact ⟨by rw [HC.out]; rfl, rfl⟩
    · have ha := h1 (by omega)
      rw [if_pos ha] at HC
      have HA := Lib.hid ha
      clear ha h1 h2
      by_cases hb : b = 0
      · have db : (b != 0) = false := by simp [hb]
        have HBB := Lib.hid hb
        clear hb
        go_wp2
        go_round
        case rel => exact ⟨2, by omega, rfl, fun _ => HA.out, fun _ => HBB.out⟩
        case measure => simp [intOf]
      · have db : (b != 0) = true := by simp [hb]
        clear hb
        go_wp2
        go_ret
        exact ⟨by rw [HC.out]; rfl, rfl⟩
    · have ha := h1 (by omega)
      have hb := h2 (by omega)
      replace HC := Lib.hid (show orI a b = 0 by unfold orI; rw [if_pos ha, hb])
      clear ha hb h1 h2
      go_wp2
      go_ret
      exact ⟨by rw [HC.out]; rfl, rfl⟩

/-! ### Insertion -/
theorem meas_ltS {k n : Nat} (h : k < n) : n - (intOf (.int .i64 ((k : Int) + 1))).toNat < n - (intOf (.int .i64 (k : Int))).toNat := by simp [intOf]; omega
theorem setB_row {w : World} {base g cap n : Nat} {xs : List Value} (h : w.ownsRow base 3 1 (.slice (some ⟨g, 0, none⟩) n cap) n xs) (j : Nat) (u : Value) : (w.setCell ⟨g, j, none⟩ u).ownsRow base 3 1 (.slice (some ⟨g, 0, none⟩) n cap) n (xs.set j u) := (h.stored j u).1
theorem intsV_set (l : List Int) (j : Nat) (x : Int) : (intsV l).set j (.int .i64 x) = intsV (l.set j x) := by simp [intsV, List.map_set]
theorem intsV_get {l : List Int} {j : Nat} (h : j < l.length) : (intsV l)[j]? = some (.int .i64 (l.getD j 0)) := by simp [intsV, h]
theorem row_cell {w : World} {base g cap n : Nat} {l : List Int} (h : w.ownsRow base 3 1 (.slice (some ⟨g, 0, none⟩) n cap) n (intsV l)) (hl : l.length = n) {j : Nat} (hj : j < n) : w.cell? ⟨g, j, none⟩ = some (.int .i64 (l.getD j 0)) := by
  rw [h.cellAt j (by omega)]
  exact intsV_get (by omega)
def ltI (a b : Int) : Bool := decide (a < b)
set_option maxRecDepth 100000 in
set_option maxHeartbeats 4000000 in
theorem insOrd_any (n cap g B : Nat) (l : List Int) (hl : l.length = n) (hn : n ≤ 1000) (w : World) (hr : w.ownsRow B 3 1 (.slice (some ⟨g, 0, none⟩) n cap) n (intsV l)) (hB : B ≤ w.heap.size) : Calls Try.prog 56 #[.slice (some ⟨g, 0, none⟩) n cap, .int .i64 0, .int .i64 (n : Nat)] w (fun e w' => e = .returned (.tuple #[]) ∧ Below B w w' ∧ w'.ownsRow B 3 1 (.slice (some ⟨g, 0, none⟩) n cap) n (intsV (insS ltI l n))) := by
  have HR := Lib.hid hr
  have HGB := Lib.hid (hr.lt g rfl).1
  have HL := Lib.hid hl
  clear hr
  go_enter Try.func56, Try.ntmps56
  go_wp2_with fail
  go_loopw [6] (fun i wr => ∃ k : Nat, 1 ≤ k ∧ (k ≤ n ∨ k = 1) ∧ i = .int .i64 k ∧ Below B w wr ∧ wr.ownsRow B 3 1 (.slice (some ⟨g, 0, none⟩) n cap) n (intsV (insS ltI l k))) (fun i _ => n - (intOf i).toNat)
  case atStart => exact ⟨1, Nat.le_refl _, .inr rfl, rfl, Below.refl _ _, HR.out⟩
  case round =>
    obtain ⟨k, hk1, hk, rfl, hb, hrow⟩ := hrel
    obtain ⟨wA, rfl⟩ : ∃ wA : World, wA = wr := ⟨_, rfl⟩
    have HB := Lib.hid hb
    have HRW := Lib.hid hrow
    clear hb hrow HR
    by_cases hlt : k < n
    · have HLA := Lib.hid (insS_len ltI l k)
      have HSK := Lib.hid (show sink ltI (insS ltI l k) k = insS ltI l (k + 1) from rfl)
      go_wp2_with fail
      go_loopw [7] (fun jv wr => ∃ (j : Nat) (c : List Int), j ≤ k ∧ jv = .int .i64 j ∧ c.length = n ∧ sink ltI c j = insS ltI l (k + 1) ∧ Below B w wr ∧ wr.ownsRow B 3 1 (.slice (some ⟨g, 0, none⟩) n cap) n (intsV c)) (fun jv _ => (intOf jv).toNat)
      case atStart => exact ⟨k, _, Nat.le_refl _, rfl, HLA.out.trans HL.out, HSK.out, HB.out, HRW.out⟩
      case round =>
        obtain ⟨j, c, hj, rfl, hlc, hsk, hb, hrow⟩ := hrel
        obtain ⟨wB, rfl⟩ : ∃ wB : World, wB = wr := ⟨_, rfl⟩
        clear HB HRW HLA HSK
        have HB := Lib.hid hb
        have HRW := Lib.hid hrow
        have HLC := Lib.hid hlc
        have HSK := Lib.hid hsk
        clear hb hrow hlc hsk hl
        cases j with
        | zero =>
          have y1 : decide ((0 : Int) < ((0 : Nat) : Int)) = false := rfl
          have HB2 := Lib.hid (fun nq => below_drewN HB.out nq)
          have HR2 := Lib.hid (fun nq => ownsRow_later HRW.out (below_drewN (Below.refl wB.heap.size wB) nq))
          go_wp2_with fail
          go_quiet (fail)
          go_wp2
          go_roundw
          case rel => exact ⟨k + 1, by omega, .inl hlt, by go_num, HB2.out _, by rw [← HSK.out]; exact HR2.out _⟩
          case measure => exact meas_ltS hlt
        | succ j =>
          have c1 := row_cell HRW.out HLC.out (j := j + 1) (by omega)
          have c0 := row_cell HRW.out HLC.out (j := j) (by omega)
          have HJK := Lib.hid (show j < n by omega)
          have HJK2 := Lib.hid (show j + 1 ≤ k from hj)
          have HD := Lib.hid (show sink ltI c (j + 1) = if ltI (c.getD (j + 1) 0) (c.getD j 0) = true then sink ltI (swapL c (j + 1)) j else c from rfl)
          have HSW := Lib.hid (show swapL c (j + 1) = (c.set (j + 1) (c.getD j 0)).set j (c.getD (j + 1) 0) by unfold swapL; rw [Nat.add_sub_cancel])
          obtain ⟨x, hx⟩ : ∃ x, c.getD (j + 1) 0 = x := ⟨_, rfl⟩
          obtain ⟨y, hy⟩ : ∃ y, c.getD j 0 = y := ⟨_, rfl⟩
          rw [hx] at c1 HD HSW
          rw [hy] at c0 HD HSW
          have HSK2 := Lib.hid (HD.out.symm.trans HSK.out)
          clear hx hy HD HSK
          obtain ⟨M, hM⟩ : ∃ M, j + 1 = M := ⟨_, rfl⟩
          rw [hM] at c1 hj HSW HSK2 HJK2 ⊢
          have HM := Lib.hid hM
          have y1 : decide ((0 : Int) < (M : Int)) = true := decide_eq_true (by omega)
          have y1b : decide (0 < M) = true := decide_eq_true (by omega)
          have y1c : 0 < M := by omega
          have e1 : IntKind.i64.wrap ((M : Int) - 1) = (j : Int) := by rw [show (M : Int) - 1 = (j : Int) by omega]; exact IntWalk.i64_in _ (by omega)
          have y2 : (0 : Int) ≤ (M : Int) := by omega
          have y3 : (M : Int) < (n : Int) := by omega
          have y4 : (0 : Int) ≤ (j : Int) := by omega
          have y5 : (j : Int) < (n : Int) := by omega
          clear hM hj
          by_cases hc : x < y
          · have dc : decide (x < y) = true := decide_eq_true hc
            rw [if_pos (show ltI x y = true from dc)] at HSK2
            clear hc
            go_wp2_with fail
            refine wp_region_B 15 (fun w'' => Below wB.heap.size wB w'') mixed (by kernel_rfl) (below_closed wB) (Below.refl _ _).drew ?_
            simp only [List.take_succ_cons, List.take_zero, List.drop_succ_cons, List.drop_zero]
            intro KR hR
            have HR := Lib.hid hR
            clear hR
            have HCC := Lib.hid (show ∀ w'', Below wB.heap.size wB w'' → w''.cell? ⟨g, M, none⟩ = some (.int .i64 x) ∧ w''.cell? ⟨g, j, none⟩ = some (.int .i64 y) from fun w'' hw => ⟨cell_kept hw c1, cell_kept hw c0⟩)
            apply wpB_val rfl
            · (intro w' hw'; go_simp; with_reducible rfl)
            simp only [Act.put, List.setIfInBounds_toArray, List.set_cons_zero, List.set_cons_succ]
            apply wpB_val rfl
            · (intro w' hw'; go_simp; with_reducible rfl)
            simp only [Act.put, List.setIfInBounds_toArray, List.set_cons_zero, List.set_cons_succ]
            apply wpB_val rfl
            · (intro w' hw'; go_simp; with_reducible rfl)
            simp only [Act.put, List.setIfInBounds_toArray, List.set_cons_zero, List.set_cons_succ]
            apply wpB_val rfl
            · (intro w' hw'; go_simp; with_reducible rfl)
            simp only [Act.put, List.setIfInBounds_toArray, List.set_cons_zero, List.set_cons_succ]
            apply wpB_val rfl
            · (intro w' hw'; go_simp; with_reducible rfl)
            simp only [Act.put, List.setIfInBounds_toArray, List.set_cons_zero, List.set_cons_succ]
            apply wpB_val rfl
            · (intro w' hw'; go_simp; with_reducible rfl)
            simp only [Act.put, List.setIfInBounds_toArray, List.set_cons_zero, List.set_cons_succ]
            apply wpB_val rfl
            · (intro w' hw'; go_simp; with_reducible rfl)
            simp only [Act.put, List.setIfInBounds_toArray, List.set_cons_zero, List.set_cons_succ]
            apply wpB_val rfl
            · (intro w' hw'; obtain ⟨c0, c1⟩ := HCC.out w' hw'; go_simp; with_reducible rfl)
            simp only [Act.put, List.setIfInBounds_toArray, List.set_cons_zero, List.set_cons_succ]
            apply wpB_val rfl
            · (intro w' hw'; go_simp; with_reducible rfl)
            simp only [Act.put, List.setIfInBounds_toArray, List.set_cons_zero, List.set_cons_succ]
            apply wpB_val rfl
            · (intro w' hw'; go_simp; with_reducible rfl)
            simp only [Act.put, List.setIfInBounds_toArray, List.set_cons_zero, List.set_cons_succ]
            apply wpB_val rfl
            · (intro w' hw'; go_simp; with_reducible rfl)
            simp only [Act.put, List.setIfInBounds_toArray, List.set_cons_zero, List.set_cons_succ]
            apply wpB_val rfl
            · (intro w' hw'; go_simp; with_reducible rfl)
            simp only [Act.put, List.setIfInBounds_toArray, List.set_cons_zero, List.set_cons_succ]
            apply wpB_val rfl
            · (intro w' hw'; obtain ⟨c0, c1⟩ := HCC.out w' hw'; go_simp; with_reducible rfl)
            simp only [Act.put, List.setIfInBounds_toArray, List.set_cons_zero, List.set_cons_succ]
            apply wpB_call 62 #[.int .i64 x, .int .i64 y] rfl (v := .bool (decide (x < y)))
            · (intro w'; go_simp)
            · exact fun w' hw' => ((less_any x y w').mono (by rintro e w2 ⟨rfl, rfl⟩; exact Ret.same))
            simp only [Act.put, List.setIfInBounds_toArray, List.set_cons_zero, List.set_cons_succ]
            apply wpB_val rfl
            · (intro w' hw'; go_simp; with_reducible rfl)
            simp only [Act.put, List.setIfInBounds_toArray, List.set_cons_zero, List.set_cons_succ]
            refine wpB_nil (HR.out _ (fun w2 hw2 => ?_))
            clear HR HCC
            replace c0 := cell_kept hw2 c0
            replace c1 := cell_kept hw2 c1
            have HR2 := Lib.hid (ownsRow_later HRW.out hw2)
            have HB2 := Lib.hid (HB.out.trans (hw2.mono (Nat.le_trans hB HB.out.size)))
            have f0 := HR2.out.frozenAt j
            have f1 := HR2.out.frozenAt M
            have d0 : (w2.setCell ⟨g, M, none⟩ (.int .i64 y)).cell? ⟨g, j, none⟩ = some (.int .i64 y) := by
              rw [World.cell?_setCell_other _ _ _ _ (fun h => by injection h with _ h3; have := HM.out; omega)]
              exact c0
            have HFIN := Lib.hid (show ((w2.setCell ⟨g, M, none⟩ (.int .i64 y)).setCell ⟨g, j, none⟩ (.int .i64 x)).ownsRow B 3 1 (.slice (some ⟨g, 0, none⟩) n cap) n (intsV (swapL c M)) by
              rw [HSW.out, ← intsV_set, ← intsV_set]
              exact setB_row (setB_row HR2.out M _) j _)
            clear hw2
            go_wp2_with fail
            go_region
            all_goals
              go_wp2
              go_roundw
              case rel => exact ⟨j, _, by have := HJK2.out; have := HM.out; omega, rfl, by rw [swapL_len]; exact HLC.out, HSK2.out, ((HB2.out.setCell HGB.out _).setCell HGB.out _).drew, ownsRow_later HFIN.out (Below.refl _ _).drew⟩
              case measure => have := HM.out; simp [intOf]; omega
          · have dc : decide (x < y) = false := decide_eq_false hc
            rw [if_neg (show ¬ ltI x y = true by unfold ltI; rw [dc]; decide)] at HSK2
            clear hc
            go_wp2_with fail
            refine wp_region_B 15 (fun w'' => Below wB.heap.size wB w'') mixed (by kernel_rfl) (below_closed wB) (Below.refl _ _).drew ?_
            simp only [List.take_succ_cons, List.take_zero, List.drop_succ_cons, List.drop_zero]
            intro KR hR
            have HR := Lib.hid hR
            clear hR
            have HCC := Lib.hid (show ∀ w'', Below wB.heap.size wB w'' → w''.cell? ⟨g, M, none⟩ = some (.int .i64 x) ∧ w''.cell? ⟨g, j, none⟩ = some (.int .i64 y) from fun w'' hw => ⟨cell_kept hw c1, cell_kept hw c0⟩)
            apply wpB_val rfl
            · (intro w' hw'; go_simp; with_reducible rfl)
            simp only [Act.put, List.setIfInBounds_toArray, List.set_cons_zero, List.set_cons_succ]
            apply wpB_val rfl
            · (intro w' hw'; go_simp; with_reducible rfl)
            simp only [Act.put, List.setIfInBounds_toArray, List.set_cons_zero, List.set_cons_succ]
            apply wpB_val rfl
            · (intro w' hw'; go_simp; with_reducible rfl)
            simp only [Act.put, List.setIfInBounds_toArray, List.set_cons_zero, List.set_cons_succ]
            apply wpB_val rfl
            · (intro w' hw'; go_simp; with_reducible rfl)
            simp only [Act.put, List.setIfInBounds_toArray, List.set_cons_zero, List.set_cons_succ]
            apply wpB_val rfl
            · (intro w' hw'; go_simp; with_reducible rfl)
            simp only [Act.put, List.setIfInBounds_toArray, List.set_cons_zero, List.set_cons_succ]
            apply wpB_val rfl
            · (intro w' hw'; go_simp; with_reducible rfl)
            simp only [Act.put, List.setIfInBounds_toArray, List.set_cons_zero, List.set_cons_succ]
            apply wpB_val rfl
            · (intro w' hw'; go_simp; with_reducible rfl)
            simp only [Act.put, List.setIfInBounds_toArray, List.set_cons_zero, List.set_cons_succ]
            apply wpB_val rfl
            · (intro w' hw'; obtain ⟨c0, c1⟩ := HCC.out w' hw'; go_simp; with_reducible rfl)
            simp only [Act.put, List.setIfInBounds_toArray, List.set_cons_zero, List.set_cons_succ]
            apply wpB_val rfl
            · (intro w' hw'; go_simp; with_reducible rfl)
            simp only [Act.put, List.setIfInBounds_toArray, List.set_cons_zero, List.set_cons_succ]
            apply wpB_val rfl
            · (intro w' hw'; go_simp; with_reducible rfl)
            simp only [Act.put, List.setIfInBounds_toArray, List.set_cons_zero, List.set_cons_succ]
            apply wpB_val rfl
            · (intro w' hw'; go_simp; with_reducible rfl)
            simp only [Act.put, List.setIfInBounds_toArray, List.set_cons_zero, List.set_cons_succ]
            apply wpB_val rfl
            · (intro w' hw'; go_simp; with_reducible rfl)
            simp only [Act.put, List.setIfInBounds_toArray, List.set_cons_zero, List.set_cons_succ]
            apply wpB_val rfl
            · (intro w' hw'; obtain ⟨c0, c1⟩ := HCC.out w' hw'; go_simp; with_reducible rfl)
            simp only [Act.put, List.setIfInBounds_toArray, List.set_cons_zero, List.set_cons_succ]
            apply wpB_call 62 #[.int .i64 x, .int .i64 y] rfl (v := .bool (decide (x < y)))
            · (intro w'; go_simp)
            · exact fun w' hw' => ((less_any x y w').mono (by rintro e w2 ⟨rfl, rfl⟩; exact Ret.same))
            simp only [Act.put, List.setIfInBounds_toArray, List.set_cons_zero, List.set_cons_succ]
            apply wpB_val rfl
            · (intro w' hw'; go_simp; with_reducible rfl)
            simp only [Act.put, List.setIfInBounds_toArray, List.set_cons_zero, List.set_cons_succ]
            refine wpB_nil (HR.out _ (fun w2 hw2 => ?_))
            clear HR HCC
            go_wp2
            go_roundw
            case rel => exact ⟨k + 1, by omega, .inl hlt, by go_num, HB.out.trans (hw2.mono (Nat.le_trans hB HB.out.size)), by rw [← HSK2.out]; exact ownsRow_later HRW.out hw2⟩
            case measure => exact meas_ltS hlt
    · have HKN : Hid (insS ltI l k = insS ltI l n) := Lib.hid (by
        rcases hk with h | h
        · rw [show k = n by omega]
        · subst h
          have h2 : n = 0 ∨ n = 1 := by omega
          rcases h2 with rfl | rfl <;> rfl)
      go_wp2
      go_end0
      exact ⟨rfl, HB.out, by rw [← HKN.out]; exact HRW.out⟩
end Go.Proofs.Ythgkfdhkmkbioaa
