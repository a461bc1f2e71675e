/- Package auditor: chained. -/
import Derived.Test.YtkfmmiekajgdjaaGreatWa43
import Derived.BigQuiet
namespace Go.Proofs.YtkfmmiekajgdjaaGreat
open Go.RowKit
attribute [local go_sem] Oper.semAt_some

/-- Whether readings are a chain, from a state on. -/
def ok1 (i : Nat) (x : Rd) : Bool := (decide (1 ≤ x.s) && decide (x.s ≤ 1000000)) && (x.n == (i : Int) + 1)
def ok2 (x : Rd) : Bool := (decide (0 ≤ x.m) && decide (x.m ≤ 52560000)) && (decide (0 ≤ x.r) && decide (x.r ≤ 1000000000))
def ok3 : Option Rd → Rd → Bool
  | none, _ => true
  | some b, x => followsA b x
def chA : Nat → Nat → Option Rd → List Rd → Bool
  | _, _, _, [] => true
  | st, i, pv, x :: l => ok1 i x && (ok2 x && (ok3 pv x && ((x.k == link st x) && chA x.k (i + 1) (some x) l)))
def lenA (n : Nat) : Bool := decide (1 ≤ (n : Int)) && decide ((n : Int) ≤ 64)
def chainedA (seed : Nat) (l : List Rd) : Bool := lenA l.length && chA seed 0 none l
def stA (seed : Nat) (l : List Rd) (k : Nat) : Nat := if k = 0 then seed else (getR l (k - 1)).k
def prevR (l : List Rd) (k : Nat) : Option Rd := if k = 0 then none else some (getR l (k - 1))
theorem chA_cons {st i : Nat} {pv : Option Rd} {x : Rd} {l : List Rd} : chA st i pv (x :: l) = (ok1 i x && (ok2 x && (ok3 pv x && ((x.k == link st x) && chA x.k (i + 1) (some x) l)))) := rfl
theorem stA_succ (seed : Nat) (l : List Rd) (k : Nat) : stA seed l (k + 1) = (getR l k).k := rfl
theorem prevR_succ (l : List Rd) (k : Nat) : prevR l (k + 1) = some (getR l k) := rfl
theorem dropRA {l : List Rd} {k : Nat} (h : k < l.length) : l.drop k = getR l k :: l.drop (k + 1) := by
  rw [List.drop_eq_getElem_cons h]
  simp [getR, h]
theorem Need.ok {part : Int} {w w' : World} (h : Below w.heap.size w w') : Need true part w (.returned (.tuple #[])) w' := ⟨rfl, h⟩
theorem Need.no {part : Int} {w w' : World} (h : Below w.heap.size w w') : Need false part w (.panicked [wrongP part]) w' := ⟨rfl, h⟩
theorem stA_lt {seed : Nat} {l : List Rd} (hs : seed < 18446744073709551616) (k : Nat) : stA seed l k < 18446744073709551616 := by
  unfold stA
  split
  · exact hs
  · exact (getR l (k - 1)).hk

set_option maxRecDepth 100000 in
set_option maxHeartbeats 16000000 in
theorem chained_any (g : Nat) (o : Option Addr) (cap : Nat) (l : List Rd) (seed : Nat) (w : World) (h5 : w.cell? ⟨g, 5, none⟩ = some (.slice o l.length cap)) (h6 : w.cell? ⟨g, 6, none⟩ = some (.int .u64 (seed : Nat))) (hr : Rds w o l) (hs : seed < 18446744073709551616) :
    Calls Tryz.prog 45 #[.pointer (some ⟨g, 0, none⟩)] w (Need (chainedA seed l) 1 w) := by
  have H5 := Lib.hid h5
  have H6 := Lib.hid h6
  have HR := Lib.hid hr
  clear h5 h6 hr
  obtain ⟨V, hV⟩ : ∃ V, chainedA seed l = V := ⟨_, rfl⟩
  rw [hV]
  have HV0 := Lib.hid (show (lenA l.length && chA seed 0 none l) = V from hV)
  clear hV
  go_enter Tryz.func45, Tryz.ntmps45
  have c5 := H5.out
  have c6 := H6.out
  go_wp2_with fail
  refine (insideA_any _ _ _ w).mono ?_
  rintro _ _ ⟨rfl, rfl⟩
  rw [show (decide ((1 : Int) ≤ (l.length : Int)) && decide ((l.length : Int) ≤ 64)) = lenA l.length from rfl]
  obtain ⟨b, hb⟩ : ∃ b, lenA l.length = b := ⟨_, rfl⟩
  rw [hb] at HV0 ⊢
  have HL := Lib.hid hb
  clear hb
  cases b with
  | false =>
    obtain rfl : false = V := by rw [← HV0.out]; rfl
    go_wp2_with fail
    refine (need_no 1 w).mono ?_
    rintro _ _ ⟨rfl, rfl⟩
    go_wp2
    exact ⟨rfl, Need.no (Below.refl _ _)⟩
  | true =>
  have hl64 : l.length ≤ 64 := by have := HL.out; unfold lenA at this; simp at this; omega
  have HI0 := Lib.hid (show chA (stA seed l 0) 0 (prevR l 0) (l.drop 0) = V by rw [← HV0.out, List.drop_zero]; rfl)
  clear HV0 HL
  go_wp2_with fail
  refine (need_ok 1 w).mono ?_
  rintro _ _ ⟨rfl, rfl⟩
  go_wp2
  go_loopw [2, 24] (fun s i wr => ∃ k : Nat, k ≤ l.length ∧ i = .int .i64 k ∧ s = .int .u64 (stA seed l k : Nat) ∧ chA (stA seed l k) k (prevR l k) (l.drop k) = V ∧ Below w.heap.size w wr) (fun _ i _ => l.length - (intOf i).toNat)
  case atStart => exact ⟨0, Nat.zero_le _, rfl, rfl, HI0.out, Below.refl _ _⟩
  case round =>
    obtain ⟨k, hk, rfl, rfl, hz, hb⟩ := hrel
    obtain ⟨wA, rfl⟩ : ∃ wA : World, wA = wr := ⟨_, rfl⟩
    have HZ := Lib.hid hz
    have HB := Lib.hid hb
    clear hz hb HI0 c5 c6
    by_cases hlt : k < l.length
    · obtain ⟨gr, fr, hgo, r0, r1, r2, r3, r4⟩ := (HR.out.later HB.out) k hlt
      subst hgo
      have hst := stA_lt (l := l) hs k
      have HSN := Lib.hid (stA_succ seed l k)
      have HPN := Lib.hid (prevR_succ l k)
      have HE := Lib.hid (show (ok1 k (getR l k) && (ok2 (getR l k) && (ok3 (prevR l k) (getR l k) && (((getR l k).k == link (stA seed l k) (getR l k)) && chA (getR l k).k (k + 1) (some (getR l k)) (l.drop (k + 1)))))) = V by rw [← HZ.out, dropRA hlt, chA_cons])
      have HPV := Lib.hid (fun (h : 0 < k) => show prevR l k = some (getR l (k - 1)) from by unfold prevR; rw [if_neg (by omega)])
      have HP0 := Lib.hid (fun (h : k = 0) => show prevR l k = none from by unfold prevR; rw [if_pos h])
      obtain ⟨st, hst2⟩ : ∃ s, stA seed l k = s := ⟨_, rfl⟩
      obtain ⟨x, hx⟩ : ∃ x, getR l k = x := ⟨_, rfl⟩
      rw [hst2] at hst HE ⊢
      rw [hx] at r0 r1 r2 r3 r4 HE HSN HPN
      clear hst2 hx HZ
      have y1 : (0 : Int) ≤ (k : Int) := by omega
      have y2 : (k : Int) < (l.length : Int) := by omega
      go_upto_region 5 with (fail)
      obtain ⟨W1, hW1⟩ : ∃ W1, W1 = wA.alloc (.cells #[.int .i64 x.s, .int .i64 x.n, .int .i64 x.m, .int .i64 x.r, .int .u64 x.k] 55) := ⟨_, rfl⟩
      have HX1 := Lib.hid (show RdB W1 wA.heap.size x by rw [hW1]; exact Blk.new _ _ _)
      have HB1 := Lib.hid (below_step HB.out (show Below wA.heap.size wA W1 by rw [hW1]; exact below_alloc (Below.refl _ _) _))
      rw [← hW1]
      clear hW1 r0 r1 r2 r3 r4 HB
      obtain ⟨PB, hPB⟩ : ∃ B, wA.heap.size = B := ⟨_, rfl⟩
      rw [hPB] at HX1 ⊢
      clear hPB
      have x0 : W1.cell? ⟨PB, 0, none⟩ = some (.int .i64 x.s) := HX1.out.cell 0
      have x1 : W1.cell? ⟨PB, 1, none⟩ = some (.int .i64 x.n) := HX1.out.cell 1
      have x2 : W1.cell? ⟨PB, 2, none⟩ = some (.int .i64 x.m) := HX1.out.cell 2
      have x3 : W1.cell? ⟨PB, 3, none⟩ = some (.int .i64 x.r) := HX1.out.cell 3
      have x4 : W1.cell? ⟨PB, 4, none⟩ = some (.int .u64 x.k) := HX1.out.cell 4
      have hwk : IntKind.i64.wrap ((k : Int) + 1) = (k : Int) + 1 := IntWalk.i64_in _ (by omega)
      -- the first test
      go_wp2_with fail
      refine (insideA_any _ _ _ W1).mono ?_
      rintro _ _ ⟨rfl, rfl⟩
      obtain ⟨b1, hb1⟩ : ∃ b, (decide ((1 : Int) ≤ x.s) && decide (x.s ≤ 1000000)) = b := ⟨_, rfl⟩
      rw [hb1]
      cases b1 with
      | false =>
        obtain rfl : false = V := by rw [← HE.out]; unfold ok1; rw [hb1]; rfl
        clear hb1
        go_wp2_with fail
        refine (need_no 1 W1).mono ?_
        rintro _ _ ⟨rfl, rfl⟩
        go_wp2
        exact ⟨rfl, Need.no HB1.out⟩
      | true =>
      obtain ⟨b2, hb2⟩ : ∃ b, (x.n == (k : Int) + 1) = b := ⟨_, rfl⟩
      have HO1 := Lib.hid (show ok1 k x = b2 by unfold ok1; rw [hb1, hb2]; rfl)
      clear hb1
      cases b2 with
      | false =>
        obtain rfl : false = V := by rw [← HE.out, HO1.out]; rfl
        go_wp2_with fail
        refine (need_no 1 W1).mono ?_
        rintro _ _ ⟨rfl, rfl⟩
        go_wp2
        exact ⟨rfl, Need.no HB1.out⟩
      | true =>
      go_wp2_with fail
      refine (need_ok 1 W1).mono ?_
      rintro _ _ ⟨rfl, rfl⟩
      clear hb2
      -- the second
      go_wp2_with fail
      refine (insideA_any _ _ _ W1).mono ?_
      rintro _ _ ⟨rfl, rfl⟩
      obtain ⟨b1, hb1⟩ : ∃ b, (decide ((0 : Int) ≤ x.m) && decide (x.m ≤ 52560000)) = b := ⟨_, rfl⟩
      rw [hb1]
      cases b1 with
      | false =>
        obtain rfl : false = V := by rw [← HE.out, HO1.out]; unfold ok2; rw [hb1]; rfl
        clear hb1
        go_wp2_with fail
        refine (need_no 1 W1).mono ?_
        rintro _ _ ⟨rfl, rfl⟩
        go_wp2
        exact ⟨rfl, Need.no HB1.out⟩
      | true =>
      go_wp2_with fail
      refine (insideA_any _ _ _ W1).mono ?_
      rintro _ _ ⟨rfl, rfl⟩
      obtain ⟨b2, hb2⟩ : ∃ b, (decide ((0 : Int) ≤ x.r) && decide (x.r ≤ 1000000000)) = b := ⟨_, rfl⟩
      rw [hb2]
      have HO2 := Lib.hid (show ok2 x = b2 by unfold ok2; rw [hb1, hb2]; rfl)
      clear hb1 hb2
      cases b2 with
      | false =>
        obtain rfl : false = V := by rw [← HE.out, HO1.out, HO2.out]; rfl
        go_wp2_with fail
        refine (need_no 1 W1).mono ?_
        rintro _ _ ⟨rfl, rfl⟩
        go_wp2
        exact ⟨rfl, Need.no HB1.out⟩
      | true =>
      go_wp2_with fail
      refine (need_ok 1 W1).mono ?_
      rintro _ _ ⟨rfl, rfl⟩
      have HE3 := Lib.hid (show (ok3 (prevR l k) x && ((x.k == link st x) && chA x.k (k + 1) (some x) (l.drop (k + 1)))) = V by rw [← HE.out, HO1.out, HO2.out]; rfl)
      clear HE HO1 HO2
      clear x0 x1 x2 x3 x4
      have H5' := Lib.hid (cell_kept HB1.out H5.out)
      have HR1 := Lib.hid (HR.out.later HB1.out)
      go_wp2_with fail
      rcases Nat.eq_zero_or_pos k with hk0 | hk0
      · have d00 : (k : Int) = 0 := by subst hk0; rfl
        have HO3 := Lib.hid (show ok3 (prevR l k) x = true by rw [HP0.out hk0]; rfl)
        clear hk0
        refine wp_region_B 16 (fun w'' => Below W1.heap.size W1 w'') mixed (by kernel_rfl) (below_closed W1) (Below.refl _ _).drew ?_
        simp only [List.take_succ_cons, List.take_zero, List.drop_succ_cons, List.drop_zero]
        intro KR hR
        have HR := Lib.hid hR
        clear hR
        have HCC := Lib.hid (show ∀ w'', Below W1.heap.size W1 w'' → w''.cell? ⟨PB, 0, none⟩ = some (.int .i64 x.s) ∧ w''.cell? ⟨PB, 1, none⟩ = some (.int .i64 x.n) ∧ w''.cell? ⟨PB, 2, none⟩ = some (.int .i64 x.m) ∧ w''.cell? ⟨PB, 3, none⟩ = some (.int .i64 x.r) ∧ w''.cell? ⟨PB, 4, none⟩ = some (.int .u64 x.k) from fun w'' hw => ⟨cell_kept hw (HX1.out.cell 0), cell_kept hw (HX1.out.cell 1), cell_kept hw (HX1.out.cell 2), cell_kept hw (HX1.out.cell 3), cell_kept hw (HX1.out.cell 4)⟩)
        apply wpB_val rfl
        · (intro w' hw'; go_simp; with_reducible rfl)
        simp only [Act.put, List.setIfInBounds_toArray, List.set_cons_zero, List.set_cons_succ]
        apply wpB_val (v := .bool true) rfl
        · (intro w' hw'; go_simp; try simp [d00])
        simp only [Act.put, List.setIfInBounds_toArray, List.set_cons_zero, List.set_cons_succ]
        apply wpB_val rfl
        · (intro w' hw'; go_simp; with_reducible rfl)
        simp only [Act.put, List.setIfInBounds_toArray, List.set_cons_zero, List.set_cons_succ]
        ((with_reducible refine wpB_skip ?_ ?_); exact rfl; simp only [Act.put, List.setIfInBounds_toArray, List.set_cons_zero, List.set_cons_succ])
        ((with_reducible refine wpB_skip ?_ ?_); exact rfl; simp only [Act.put, List.setIfInBounds_toArray, List.set_cons_zero, List.set_cons_succ])
        ((with_reducible refine wpB_skip ?_ ?_); exact rfl; simp only [Act.put, List.setIfInBounds_toArray, List.set_cons_zero, List.set_cons_succ])
        ((with_reducible refine wpB_skip ?_ ?_); exact rfl; simp only [Act.put, List.setIfInBounds_toArray, List.set_cons_zero, List.set_cons_succ])
        ((with_reducible refine wpB_skip ?_ ?_); exact rfl; simp only [Act.put, List.setIfInBounds_toArray, List.set_cons_zero, List.set_cons_succ])
        ((with_reducible refine wpB_skip ?_ ?_); exact rfl; simp only [Act.put, List.setIfInBounds_toArray, List.set_cons_zero, List.set_cons_succ])
        ((with_reducible refine wpB_skip ?_ ?_); exact rfl; simp only [Act.put, List.setIfInBounds_toArray, List.set_cons_zero, List.set_cons_succ])
        ((with_reducible refine wpB_skip ?_ ?_); exact rfl; simp only [Act.put, List.setIfInBounds_toArray, List.set_cons_zero, List.set_cons_succ])
        ((with_reducible refine wpB_skip ?_ ?_); exact rfl; simp only [Act.put, List.setIfInBounds_toArray, List.set_cons_zero, List.set_cons_succ])
        ((with_reducible refine wpB_skip ?_ ?_); exact rfl; simp only [Act.put, List.setIfInBounds_toArray, List.set_cons_zero, List.set_cons_succ])
        ((with_reducible refine wpB_skip ?_ ?_); exact rfl; simp only [Act.put, List.setIfInBounds_toArray, List.set_cons_zero, List.set_cons_succ])
        ((with_reducible refine wpB_skip ?_ ?_); exact rfl; simp only [Act.put, List.setIfInBounds_toArray, List.set_cons_zero, List.set_cons_succ])
        apply wpB_val rfl
        · (intro w' hw'; go_simp; with_reducible rfl)
        simp only [Act.put, List.setIfInBounds_toArray, List.set_cons_zero, List.set_cons_succ]
        refine wpB_nil (HR.out _ (fun w2 hw2 => ?_))
        clear HR HCC
        clear d00
        have HB2 := Lib.hid (below_step HB1.out hw2)
        have HX2 := Lib.hid (HX1.out.later hw2)
        clear hw2
        have HE4 := Lib.hid (show ((x.k == link st x) && chA x.k (k + 1) (some x) (l.drop (k + 1))) = V by rw [← HE3.out, HO3.out]; rfl)
        clear HE3 HO3 HX1 HB1
        go_wp2_with fail
        refine (need_ok 1 w2).mono ?_
        rintro _ _ ⟨rfl, rfl⟩
        have hxk := x.hk
        have HLK := Lib.hid (fun w' => linkA_any st x hst w')
        obtain ⟨LK, hLK⟩ : ∃ n, link st x = n := ⟨_, rfl⟩
        rw [hLK] at HLK HE4
        clear hLK
        obtain ⟨b4, hb4⟩ : ∃ b, (x.k == LK) = b := ⟨_, rfl⟩
        have HB4 := Lib.hid hb4
        have hb5 : ((x.k : Int) == (LK : Int)) = b4 := by rw [← hb4, Bool.eq_iff_iff]; simp; omega
        go_wp2_with fail
        refine wp_region_B 6 (fun w'' => Below w2.heap.size w2 w'') mixed (by kernel_rfl) (below_closed w2) (Below.refl _ _).drew ?_
        simp only [List.take_succ_cons, List.take_zero, List.drop_succ_cons, List.drop_zero]
        intro KR hR
        have HR := Lib.hid hR
        clear hR
        have HCC := Lib.hid (show ∀ w'', Below w2.heap.size w2 w'' → w''.cell? ⟨PB, 0, none⟩ = some (.int .i64 x.s) ∧ w''.cell? ⟨PB, 1, none⟩ = some (.int .i64 x.n) ∧ w''.cell? ⟨PB, 2, none⟩ = some (.int .i64 x.m) ∧ w''.cell? ⟨PB, 3, none⟩ = some (.int .i64 x.r) ∧ w''.cell? ⟨PB, 4, none⟩ = some (.int .u64 x.k) from fun w'' hw => ⟨cell_kept hw (HX2.out.cell 0), cell_kept hw (HX2.out.cell 1), cell_kept hw (HX2.out.cell 2), cell_kept hw (HX2.out.cell 3), cell_kept hw (HX2.out.cell 4)⟩)
        apply wpB_val rfl
        · (intro w' hw'; go_simp; with_reducible rfl)
        simp only [Act.put, List.setIfInBounds_toArray, List.set_cons_zero, List.set_cons_succ]
        apply wpB_val rfl
        · (intro w' hw'; obtain ⟨c0, c1, c2, c3, c4⟩ := HCC.out w' hw'; go_simp; with_reducible rfl)
        simp only [Act.put, List.setIfInBounds_toArray, List.set_cons_zero, List.set_cons_succ]
        apply wpB_val rfl
        · (intro w' hw'; go_simp; with_reducible rfl)
        simp only [Act.put, List.setIfInBounds_toArray, List.set_cons_zero, List.set_cons_succ]
        apply wpB_val rfl
        · (intro w' hw'; obtain ⟨c0, c1, c2, c3, c4⟩ := HCC.out w' hw'; go_simp; with_reducible rfl)
        simp only [Act.put, List.setIfInBounds_toArray, List.set_cons_zero, List.set_cons_succ]
        apply wpB_call 73 #[.int .u64 (st : Nat), rdV x] rfl (v := .int .u64 (LK : Nat))
        · (intro w'; go_simp)
        · exact fun w' hw' => HLK.out w'
        simp only [Act.put, List.setIfInBounds_toArray, List.set_cons_zero, List.set_cons_succ]
        apply wpB_val rfl
        · (intro w' hw'; go_simp; with_reducible rfl)
        simp only [Act.put, List.setIfInBounds_toArray, List.set_cons_zero, List.set_cons_succ]
        refine wpB_nil (HR.out _ (fun w3 hw3 => ?_))
        clear HR HCC
        have HB3 := Lib.hid (below_step HB2.out hw3)
        have HX3 := Lib.hid (HX2.out.later hw3)
        clear hw3 HLK
        try (first | rw [hb4] | rw [hb5])
        clear hb4 hb5
        cases b4 with
        | false =>
          obtain rfl : false = V := by rw [← HE4.out, HB4.out]; rfl
          go_wp2_with fail
          refine (need_no 1 w3).mono ?_
          rintro _ _ ⟨rfl, rfl⟩
          go_wp2
          exact ⟨rfl, Need.no HB3.out⟩
        | true =>
        have HNX := Lib.hid (show chA (stA seed l (k + 1)) (k + 1) (prevR l (k + 1)) (l.drop (k + 1)) = V by rw [HSN.out, HPN.out, ← HE4.out, HB4.out]; rfl)
        have x4 : w3.cell? ⟨PB, 4, none⟩ = some (.int .u64 x.k) := HX3.out.cell 4
        go_wp2_with fail
        refine (need_ok 1 w3).mono ?_
        rintro _ _ ⟨rfl, rfl⟩
        go_wp2
        go_roundw
        case rel => exact ⟨k + 1, hlt, by go_num, by rw [HSN.out], HNX.out, HB3.out⟩
        case measure => simp [intOf]; omega
      · have d0 : ((k : Int) == 0) = false := by simp; omega
        obtain ⟨gr2, fr2, hgo, r0, r1, r2, r3, r4⟩ := HR1.out (k - 1) (by omega)
        injection hgo with hgo
        injection hgo with hg1 hg2
        subst hg1
        subst hg2
        obtain ⟨y, hy⟩ : ∃ y, getR l (k - 1) = y := ⟨_, rfl⟩
        rw [hy] at r0 r1 r2 r3 r4
        obtain ⟨b3, hb3⟩ : ∃ b, followsA y x = b := ⟨_, rfl⟩
        have HO3 := Lib.hid (show ok3 (prevR l k) x = b3 by rw [HPV.out hk0, hy]; exact hb3)
        have HFC := Lib.hid (fun w' => hb3 ▸ follows_any y x w')
        have HY := Lib.hid (And.intro r0 (And.intro r1 (And.intro r2 (And.intro r3 r4))))
        clear hy hb3 r0 r1 r2 r3 r4
        have hk0i : (1 : Int) ≤ (k : Int) := by omega
        have hk1 : (0 : Int) ≤ (k : Int) - 1 := by omega
        have hk2 : (k : Int) - 1 < (l.length : Int) := by omega
        have hmax : (if (1 : Int) < (k : Int) then (k : Int) - 1 else 0) = (k : Int) - 1 := by split <;> omega
        have hmx : IntKind.i64.wrap ((k : Int) - 1) = (k : Int) - 1 := IntWalk.i64_in _ (by omega)
        refine wp_region_B 16 (fun w'' => Below W1.heap.size W1 w'') mixed (by kernel_rfl) (below_closed W1) (Below.refl _ _).drew ?_
        simp only [List.take_succ_cons, List.take_zero, List.drop_succ_cons, List.drop_zero]
        intro KR hR
        have HR := Lib.hid hR
        clear hR
        have HCC := Lib.hid (show ∀ w'', Below W1.heap.size W1 w'' → w''.cell? ⟨PB, 0, none⟩ = some (.int .i64 x.s) ∧ w''.cell? ⟨PB, 1, none⟩ = some (.int .i64 x.n) ∧ w''.cell? ⟨PB, 2, none⟩ = some (.int .i64 x.m) ∧ w''.cell? ⟨PB, 3, none⟩ = some (.int .i64 x.r) ∧ w''.cell? ⟨PB, 4, none⟩ = some (.int .u64 x.k) ∧ w''.cell? ⟨g, 5, none⟩ = some (.slice (some ⟨gr, fr, none⟩) l.length cap) ∧ w''.cell? ⟨gr, fr + (k - 1) * 5, none⟩ = some (.int .i64 y.s) ∧ w''.cell? ⟨gr, fr + (k - 1) * 5 + 1, none⟩ = some (.int .i64 y.n) ∧ w''.cell? ⟨gr, fr + (k - 1) * 5 + 2, none⟩ = some (.int .i64 y.m) ∧ w''.cell? ⟨gr, fr + (k - 1) * 5 + 3, none⟩ = some (.int .i64 y.r) ∧ w''.cell? ⟨gr, fr + (k - 1) * 5 + 4, none⟩ = some (.int .u64 y.k) from fun w'' hw => ⟨cell_kept hw (HX1.out.cell 0), cell_kept hw (HX1.out.cell 1), cell_kept hw (HX1.out.cell 2), cell_kept hw (HX1.out.cell 3), cell_kept hw (HX1.out.cell 4), cell_kept hw H5'.out, cell_kept hw HY.out.1, cell_kept hw HY.out.2.1, cell_kept hw HY.out.2.2.1, cell_kept hw HY.out.2.2.2.1, cell_kept hw HY.out.2.2.2.2⟩)
        apply wpB_val rfl
        · (intro w' hw'; go_simp; with_reducible rfl)
        simp only [Act.put, List.setIfInBounds_toArray, List.set_cons_zero, List.set_cons_succ]
        apply wpB_val rfl
        · (intro w' hw'; go_simp; with_reducible rfl)
        simp only [Act.put, List.setIfInBounds_toArray, List.set_cons_zero, List.set_cons_succ]
        apply wpB_val rfl
        · (intro w' hw'; go_simp; with_reducible rfl)
        simp only [Act.put, List.setIfInBounds_toArray, List.set_cons_zero, List.set_cons_succ]
        apply wpB_val rfl
        · (intro w' hw'; go_simp; with_reducible rfl)
        simp only [Act.put, List.setIfInBounds_toArray, List.set_cons_zero, List.set_cons_succ]
        apply wpB_val rfl
        · (intro w' hw'; go_simp; with_reducible rfl)
        simp only [Act.put, List.setIfInBounds_toArray, List.set_cons_zero, List.set_cons_succ]
        apply wpB_val rfl
        · (intro w' hw'; go_simp; with_reducible rfl)
        simp only [Act.put, List.setIfInBounds_toArray, List.set_cons_zero, List.set_cons_succ]
        apply wpB_val rfl
        · (intro w' hw'; go_simp; with_reducible rfl)
        simp only [Act.put, List.setIfInBounds_toArray, List.set_cons_zero, List.set_cons_succ]
        apply wpB_val rfl
        · (intro w' hw'; obtain ⟨c0, c1, c2, c3, c4, c5, c6, c7, c8, c9, c10⟩ := HCC.out w' hw'; go_simp; with_reducible rfl)
        simp only [Act.put, List.setIfInBounds_toArray, List.set_cons_zero, List.set_cons_succ]
        apply wpB_val rfl
        · (intro w' hw'; go_simp; with_reducible rfl)
        simp only [Act.put, List.setIfInBounds_toArray, List.set_cons_zero, List.set_cons_succ]
        apply wpB_val rfl
        · (intro w' hw'; go_simp; with_reducible rfl)
        simp only [Act.put, List.setIfInBounds_toArray, List.set_cons_zero, List.set_cons_succ]
        apply wpB_val rfl
        · (intro w' hw'; go_simp; with_reducible rfl)
        simp only [Act.put, List.setIfInBounds_toArray, List.set_cons_zero, List.set_cons_succ]
        apply wpB_val rfl
        · (intro w' hw'; go_simp; with_reducible rfl)
        simp only [Act.put, List.setIfInBounds_toArray, List.set_cons_zero, List.set_cons_succ]
        apply wpB_val rfl
        · (intro w' hw'; obtain ⟨c0, c1, c2, c3, c4, c5, c6, c7, c8, c9, c10⟩ := HCC.out w' hw'; go_simp; with_reducible rfl)
        simp only [Act.put, List.setIfInBounds_toArray, List.set_cons_zero, List.set_cons_succ]
        apply wpB_val rfl
        · (intro w' hw'; obtain ⟨c0, c1, c2, c3, c4, c5, c6, c7, c8, c9, c10⟩ := HCC.out w' hw'; go_simp; with_reducible rfl)
        simp only [Act.put, List.setIfInBounds_toArray, List.set_cons_zero, List.set_cons_succ]
        apply wpB_call 72 #[rdV y, rdV x] rfl (v := .bool b3)
        · (intro w'; go_simp)
        · exact fun w' hw' => HFC.out w'
        simp only [Act.put, List.setIfInBounds_toArray, List.set_cons_zero, List.set_cons_succ]
        apply wpB_val rfl
        · (intro w' hw'; go_simp; with_reducible rfl)
        simp only [Act.put, List.setIfInBounds_toArray, List.set_cons_zero, List.set_cons_succ]
        refine wpB_nil (HR.out _ (fun w2 hw2 => ?_))
        clear HR HCC
        clear HFC HY hk1 hk2 hmx hmax hk0
        have HB2 := Lib.hid (below_step HB1.out hw2)
        have HX2 := Lib.hid (HX1.out.later hw2)
        clear hw2
        cases b3 with
        | false =>
          obtain rfl : false = V := by rw [← HE3.out, HO3.out]; rfl
          go_wp2_with fail
          refine (need_no 1 w2).mono ?_
          rintro _ _ ⟨rfl, rfl⟩
          go_wp2
          exact ⟨rfl, Need.no HB2.out⟩
        | true =>
        have HE4 := Lib.hid (show ((x.k == link st x) && chA x.k (k + 1) (some x) (l.drop (k + 1))) = V by rw [← HE3.out, HO3.out]; rfl)
        clear HE3 HO3 HX1 HB1
        go_wp2_with fail
        refine (need_ok 1 w2).mono ?_
        rintro _ _ ⟨rfl, rfl⟩
        have hxk := x.hk
        have HLK := Lib.hid (fun w' => linkA_any st x hst w')
        obtain ⟨LK, hLK⟩ : ∃ n, link st x = n := ⟨_, rfl⟩
        rw [hLK] at HLK HE4
        clear hLK
        obtain ⟨b4, hb4⟩ : ∃ b, (x.k == LK) = b := ⟨_, rfl⟩
        have HB4 := Lib.hid hb4
        have hb5 : ((x.k : Int) == (LK : Int)) = b4 := by rw [← hb4, Bool.eq_iff_iff]; simp; omega
        go_wp2_with fail
        refine wp_region_B 6 (fun w'' => Below w2.heap.size w2 w'') mixed (by kernel_rfl) (below_closed w2) (Below.refl _ _).drew ?_
        simp only [List.take_succ_cons, List.take_zero, List.drop_succ_cons, List.drop_zero]
        intro KR hR
        have HR := Lib.hid hR
        clear hR
        have HCC := Lib.hid (show ∀ w'', Below w2.heap.size w2 w'' → w''.cell? ⟨PB, 0, none⟩ = some (.int .i64 x.s) ∧ w''.cell? ⟨PB, 1, none⟩ = some (.int .i64 x.n) ∧ w''.cell? ⟨PB, 2, none⟩ = some (.int .i64 x.m) ∧ w''.cell? ⟨PB, 3, none⟩ = some (.int .i64 x.r) ∧ w''.cell? ⟨PB, 4, none⟩ = some (.int .u64 x.k) from fun w'' hw => ⟨cell_kept hw (HX2.out.cell 0), cell_kept hw (HX2.out.cell 1), cell_kept hw (HX2.out.cell 2), cell_kept hw (HX2.out.cell 3), cell_kept hw (HX2.out.cell 4)⟩)
        apply wpB_val rfl
        · (intro w' hw'; go_simp; with_reducible rfl)
        simp only [Act.put, List.setIfInBounds_toArray, List.set_cons_zero, List.set_cons_succ]
        apply wpB_val rfl
        · (intro w' hw'; obtain ⟨c0, c1, c2, c3, c4⟩ := HCC.out w' hw'; go_simp; with_reducible rfl)
        simp only [Act.put, List.setIfInBounds_toArray, List.set_cons_zero, List.set_cons_succ]
        apply wpB_val rfl
        · (intro w' hw'; go_simp; with_reducible rfl)
        simp only [Act.put, List.setIfInBounds_toArray, List.set_cons_zero, List.set_cons_succ]
        apply wpB_val rfl
        · (intro w' hw'; obtain ⟨c0, c1, c2, c3, c4⟩ := HCC.out w' hw'; go_simp; with_reducible rfl)
        simp only [Act.put, List.setIfInBounds_toArray, List.set_cons_zero, List.set_cons_succ]
        apply wpB_call 73 #[.int .u64 (st : Nat), rdV x] rfl (v := .int .u64 (LK : Nat))
        · (intro w'; go_simp)
        · exact fun w' hw' => HLK.out w'
        simp only [Act.put, List.setIfInBounds_toArray, List.set_cons_zero, List.set_cons_succ]
        apply wpB_val rfl
        · (intro w' hw'; go_simp; with_reducible rfl)
        simp only [Act.put, List.setIfInBounds_toArray, List.set_cons_zero, List.set_cons_succ]
        refine wpB_nil (HR.out _ (fun w3 hw3 => ?_))
        clear HR HCC
        have HB3 := Lib.hid (below_step HB2.out hw3)
        have HX3 := Lib.hid (HX2.out.later hw3)
        clear hw3 HLK
        try (first | rw [hb4] | rw [hb5])
        clear hb4 hb5
        cases b4 with
        | false =>
          obtain rfl : false = V := by rw [← HE4.out, HB4.out]; rfl
          go_wp2_with fail
          refine (need_no 1 w3).mono ?_
          rintro _ _ ⟨rfl, rfl⟩
          go_wp2
          exact ⟨rfl, Need.no HB3.out⟩
        | true =>
        have HNX := Lib.hid (show chA (stA seed l (k + 1)) (k + 1) (prevR l (k + 1)) (l.drop (k + 1)) = V by rw [HSN.out, HPN.out, ← HE4.out, HB4.out]; rfl)
        have x4 : w3.cell? ⟨PB, 4, none⟩ = some (.int .u64 x.k) := HX3.out.cell 4
        go_wp2_with fail
        refine (need_ok 1 w3).mono ?_
        rintro _ _ ⟨rfl, rfl⟩
        go_wp2
        go_roundw
        case rel => exact ⟨k + 1, hlt, by go_num, by rw [HSN.out], HNX.out, HB3.out⟩
        case measure => simp [intOf]; omega
    · obtain rfl : k = l.length := by omega
      obtain rfl : true = V := by rw [← HZ.out, List.drop_length]; rfl
      go_wp2
      go_end0
      exact Need.ok HB.out
end Go.Proofs.YtkfmmiekajgdjaaGreat
