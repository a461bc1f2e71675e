/- Chapter 41: RecordParts. -/
import Derived.Test.YtddbobphmakmmaaWk41
namespace Go.Proofs.Ytddbobphmakmmaa
open Go.RowKit
attribute [local go_sem] Oper.semAt_some

/-- A valid record with other readings. -/
def withR (r : Rc) (x y : Int) : Rc := { r with en := 0, fi := x, la := y }
theorem withR_valid {r : Rc} {x y x' y' : Int} (h : validC (withR r x y) = true) (h1 : 1 ≤ x') (h2 : x' ≤ y') (h3 : y' ≤ 64) : validC (withR r x' y') = true := by
  unfold validC withR at h ⊢
  simp only [decide_eq_true_eq] at h ⊢
  exact ⟨h.1, h.2.1, h.2.2.1, h.2.2.2.1, h.2.2.2.2.1, ⟨h1, h2⟩, h3, h.2.2.2.2.2.2.2.1, h.2.2.2.2.2.2.2.2⟩

theorem RcB.setR {wr : World} {B : Nat} {r : Rc} (h : RcB wr B r) (x y : Int) : RcB (((wr.setCell ⟨B, 7, none⟩ (.int .i64 0)).setCell ⟨B, 5, none⟩ (.int .i64 x)).setCell ⟨B, 6, none⟩ (.int .i64 y)) B (withR r x y) := by
  have := ((Blk.set h 7 (.int .i64 0)).set 5 (.int .i64 x)).set 6 (.int .i64 y)
  simpa [RcB, withR] using this
theorem RcB.setF {wr : World} {B : Nat} {r : Rc} {x y : Int} (h : RcB wr B (withR r x y)) (x' : Int) : RcB (wr.setCell ⟨B, 5, none⟩ (.int .i64 x')) B (withR r x' y) := by
  have := Blk.set h 5 (.int .i64 x')
  simpa [RcB, withR] using this
theorem RcB.setL {wr : World} {B : Nat} {r : Rc} {x y : Int} (h : RcB wr B (withR r x y)) (y' : Int) : RcB (wr.setCell ⟨B, 6, none⟩ (.int .i64 y')) B (withR r x y') := by
  have := Blk.set h 6 (.int .i64 y')
  simpa [RcB, withR] using this

/-- What is closed: the energy from one reading to the other. -/
theorem clV_parts {r : Rc} {l : List Rd} {k : K4} {x y : Nat} (ho : ordered l = true) (h1 : 1 ≤ x) (h2 : x ≤ y) (h3 : y ≤ l.length) (hv : validC (withR r x y) = true) :
    ∃ R : Rc, clV (withR r x y) l k = .tuple #[recV R, .int .i64 0] ∧ R.en = energy l x (y - x) := by
  have he : enOk l (x : Int) (y : Int) = true := by
    unfold enOk
    rw [ho, decide_eq_true (by omega)]
    rfl
  have hok : clOk (withR r x y) l = true := by
    unfold clOk
    have e1 : enZero (withR r x y) = withR r x y := by unfold enZero withR; rfl
    rw [e1, hv]
    exact he
  refine ⟨_, clV_yes hok, ?_⟩
  show enN l (x : Int) (y : Int) = _
  unfold enN
  rw [he]
  have e : ((y : Int) - (x : Int)).toNat = y - x := by omega
  simp only [if_true, Int.toNat_natCast, e]

theorem energy_parts {l : List Rd} (ho : ordered l = true) {x y z : Nat} (h1 : 1 ≤ x) (h2 : x ≤ y) (h3 : y ≤ z) (h4 : z ≤ l.length) : energy l x (y - x) + energy l y (z - y) = energy l x (z - x) ∧ 0 ≤ energy l x (y - x) ∧ energy l x (y - x) ≤ 1000000000000 ∧ 0 ≤ energy l y (z - y) ∧ energy l y (z - y) ≤ 1000000000000 := by
  have hle := ordered_le ho
  have a := energy_nonneg ho (a := x) h1 (d := y - x) (by omega)
  have b := energy_nonneg ho (a := y) (by omega) (d := z - y) (by omega)
  have c := energy_add l x (y - x) (z - y)
  rw [show x + (y - x) = y by omega, show y - x + (z - y) = z - x by omega] at c
  have d1 : ((y - x : Nat) : Int) ≤ 64 := by omega
  have d2 : ((z - y : Nat) : Int) ≤ 64 := by omega
  refine ⟨c.symm, a.1, ?_, b.1, ?_⟩
  · have := a.2; omega
  · have := b.2; omega

set_option maxRecDepth 100000 in
set_option maxHeartbeats 16000000 in
theorem recordParts_any (r : Rc) (o : Option Addr) (cap : Nat) (l : List Rd) (k : K4) (a b c : Nat) (w : World) (hr : Rds w o l) (hl : l.length ≤ 9223372036854775807) (ha : a < 256) (hb : b < 256) (hc : c < 256) :
    Calls Try.prog 8 #[recV r, .slice o l.length cap, keyV k, .int .u8 (a : Nat), .int .u8 (b : Nat), .int .u8 (c : Nat)] w (Ret (.bool true) w) := by
  have HR := Lib.hid hr
  clear hr
  go_enter Try.func8, Try.ntmps8
  go_wp2_with fail
  refine (head_any _).mono ?_
  rintro e w1 ⟨rfl, hb1⟩
  have HTB := Lib.hid (two_boxes w r k hb1)
  have HX := Lib.hid HTB.out.1
  have HK := Lib.hid HTB.out.2.1
  have HB := Lib.hid HTB.out.2.2
  clear hb1 HTB
  by_cases h0 : l.length = 0
  · have h0' : (l.length : Int) = 0 := by omega
    go_wp2_with fail
    go_ret
    exact ⟨rfl, HB.out⟩
  have h0b : ((l.length : Int) == 0) = false := by rw [beq_eq_false_iff_ne]; omega
  by_cases h64 : 64 < l.length
  · have hd : decide ((64 : Int) < (l.length : Int)) = true := by simp; omega
    go_wp2_with fail
    go_ret
    exact ⟨rfl, HB.out⟩
  have hd : decide ((64 : Int) < (l.length : Int)) = false := by simp; omega
  go_wp2_with fail
  refine (refOrdered_any o cap l w1 (HR.out.later HB.out) hl).mono ?_
  rintro e w2 ⟨rfl, hb2⟩
  have HX2 := Lib.hid (HX.out.later hb2)
  have HK2 := Lib.hid (HK.out.later hb2)
  have HB2 := Lib.hid (below_step HB.out hb2)
  clear hb2 HX HK HB
  cases ho : ordered l with
  | false =>
    go_wp2_with fail
    go_ret
    exact ⟨rfl, HB2.out⟩
  | true =>
  have HO := Lib.hid ho
  clear ho
  have q1 : (0 : Int) < (l.length : Int) := by omega
  have num : ∀ x : Nat, x < 256 → ∃ X : Nat, 1 ≤ X ∧ X ≤ l.length ∧ IntKind.i64.wrap (1 + (IntKind.i64.wrap (x : Int)).tmod (l.length : Int)) = (X : Int) := fun x hx => by
    have h1 := Nat.mod_lt x (show 0 < l.length by omega)
    have h2 := Nat.mod_le x l.length
    refine ⟨1 + x % l.length, by omega, by omega, ?_⟩
    rw [IntWalk.i64_in (x : Int) (by omega), ← Int.ofNat_tmod, IntWalk.i64_in _ (by omega)]
    simp
  obtain ⟨A, hA1, hA2, EA⟩ := num a ha
  obtain ⟨B, hB1, hB2, EB⟩ := num b hb
  obtain ⟨C, hC1, hC2, EC⟩ := num c hc
  replace EA := Lib.hid EA
  replace EB := Lib.hid EB
  replace EC := Lib.hid EC
  clear num
  go_wp2_with fail
  refine wp_region_B 21 (fun w'' => Below w2.heap.size w2 w'') mixed (by kernel_rfl) (below_closed w2) (Below.refl _ _).drew ?_
  simp only [List.take_succ_cons, List.take_zero, List.drop_succ_cons, List.drop_zero]
  intro KR hR
  have HR := Lib.hid hR
  clear hR
  ((with_reducible refine wpB_move ?_ ?_); exact rfl; simp only [Act.put, List.setIfInBounds_toArray, List.set_cons_zero, List.set_cons_succ])
  apply wpB_val rfl
  · (intro w' hw'; go_simp; with_reducible rfl)
  simp only [Act.put, List.setIfInBounds_toArray, List.set_cons_zero, List.set_cons_succ]
  ((with_reducible refine wpB_move ?_ ?_); exact rfl; simp only [Act.put, List.setIfInBounds_toArray, List.set_cons_zero, List.set_cons_succ])
  apply wpB_val rfl
  · (intro w' hw'; go_simp; with_reducible rfl)
  simp only [Act.put, List.setIfInBounds_toArray, List.set_cons_zero, List.set_cons_succ]
  apply wpB_val rfl
  · (intro w' hw'; go_simp; with_reducible rfl)
  simp only [Act.put, List.setIfInBounds_toArray, List.set_cons_zero, List.set_cons_succ]
  apply wpB_val rfl
  · (intro w' hw'; go_simp; with_reducible rfl)
  simp only [Act.put, List.setIfInBounds_toArray, List.set_cons_zero, List.set_cons_succ]
  ((with_reducible refine wpB_move ?_ ?_); exact rfl; simp only [Act.put, List.setIfInBounds_toArray, List.set_cons_zero, List.set_cons_succ])
  apply wpB_val rfl
  · (intro w' hw'; go_simp; with_reducible rfl)
  simp only [Act.put, List.setIfInBounds_toArray, List.set_cons_zero, List.set_cons_succ]
  ((with_reducible refine wpB_move ?_ ?_); exact rfl; simp only [Act.put, List.setIfInBounds_toArray, List.set_cons_zero, List.set_cons_succ])
  apply wpB_val rfl
  · (intro w' hw'; go_simp; with_reducible rfl)
  simp only [Act.put, List.setIfInBounds_toArray, List.set_cons_zero, List.set_cons_succ]
  apply wpB_val rfl
  · (intro w' hw'; go_simp; with_reducible rfl)
  simp only [Act.put, List.setIfInBounds_toArray, List.set_cons_zero, List.set_cons_succ]
  apply wpB_val rfl
  · (intro w' hw'; go_simp; with_reducible rfl)
  simp only [Act.put, List.setIfInBounds_toArray, List.set_cons_zero, List.set_cons_succ]
  ((with_reducible refine wpB_move ?_ ?_); exact rfl; simp only [Act.put, List.setIfInBounds_toArray, List.set_cons_zero, List.set_cons_succ])
  apply wpB_val rfl
  · (intro w' hw'; go_simp; with_reducible rfl)
  simp only [Act.put, List.setIfInBounds_toArray, List.set_cons_zero, List.set_cons_succ]
  ((with_reducible refine wpB_move ?_ ?_); exact rfl; simp only [Act.put, List.setIfInBounds_toArray, List.set_cons_zero, List.set_cons_succ])
  apply wpB_val rfl
  · (intro w' hw'; go_simp; with_reducible rfl)
  simp only [Act.put, List.setIfInBounds_toArray, List.set_cons_zero, List.set_cons_succ]
  apply wpB_val rfl
  · (intro w' hw'; go_simp; with_reducible rfl)
  simp only [Act.put, List.setIfInBounds_toArray, List.set_cons_zero, List.set_cons_succ]
  apply wpB_val rfl
  · (intro w' hw'; go_simp; with_reducible rfl)
  simp only [Act.put, List.setIfInBounds_toArray, List.set_cons_zero, List.set_cons_succ]
  apply wpB_val rfl
  · (intro w' hw'; go_simp; with_reducible rfl)
  simp only [Act.put, List.setIfInBounds_toArray, List.set_cons_zero, List.set_cons_succ]
  apply wpB_val rfl
  · (intro w' hw'; go_simp; with_reducible rfl)
  simp only [Act.put, List.setIfInBounds_toArray, List.set_cons_zero, List.set_cons_succ]
  apply wpB_val rfl
  · (intro w' hw'; go_simp; with_reducible rfl)
  simp only [Act.put, List.setIfInBounds_toArray, List.set_cons_zero, List.set_cons_succ]
  refine wpB_nil (HR.out _ (fun w2 hw2 => ?_))
  clear HR
  have HX3 := Lib.hid (HX2.out.later hw2)
  have HK3 := Lib.hid (HK2.out.later hw2)
  have HB3 := Lib.hid (below_step HB2.out hw2)
  clear hw2 HX2 HK2 HB2
  rw [EA.out, EB.out, EC.out]
  clear EA EB EC
  have f5 := HX3.out.frozen 5
  have f6 := HX3.out.frozen 6
  have f7 := HX3.out.frozen 7
  obtain ⟨c0, c1, c2, c3, c4, c5, c6, c7, c8⟩ := HX3.out.nums
  obtain ⟨c9, c10, c11, c12⟩ := HX3.out.signs
  go_upto_region 8 with (fail)
  obtain ⟨M, eM, hM1, hM2, hM3, hM4, hM5⟩ : ∃ M : Nat, (if A < B then (B : Int) else A) = M ∧ A ≤ M ∧ B ≤ M ∧ (M = A ∨ M = B) ∧ 1 ≤ M ∧ M ≤ l.length := by
    split
    · exact ⟨B, rfl, by omega, by omega, .inr rfl, by omega, by omega⟩
    · exact ⟨A, rfl, by omega, by omega, .inl rfl, by omega, by omega⟩
  obtain ⟨m, em, hm1, hm2, hm3, hm4⟩ : ∃ m : Nat, (if B < A then (B : Int) else A) = m ∧ m ≤ A ∧ m ≤ B ∧ (m = A ∨ m = B) ∧ 1 ≤ m := by
    split
    · exact ⟨B, rfl, by omega, by omega, .inr rfl, by omega⟩
    · exact ⟨A, rfl, by omega, by omega, .inl rfl, by omega⟩
  rw [eM, em]
  obtain ⟨T, eT, hT1, hT2, hT3⟩ : ∃ T : Nat, (if (C : Int) < (M : Int) then (C : Int) else M) = T ∧ T ≤ C ∧ T ≤ M ∧ (T = C ∨ T = M) := by
    split
    · exact ⟨C, rfl, by omega, by omega, .inl rfl⟩
    · exact ⟨M, rfl, by omega, by omega, .inr rfl⟩
  obtain ⟨Z, eZ, hZ1, hZ2, hZ3⟩ : ∃ Z : Nat, (if (M : Int) < (C : Int) then (C : Int) else M) = Z ∧ C ≤ Z ∧ M ≤ Z ∧ Z ≤ l.length := by
    split
    · exact ⟨C, rfl, by omega, by omega, by omega⟩
    · exact ⟨M, rfl, by omega, by omega, by omega⟩
  rw [eT, eZ]
  obtain ⟨X, eX, hX1, hX2, hX3⟩ : ∃ X : Nat, (if (T : Int) < (m : Int) then (T : Int) else m) = X ∧ X ≤ T ∧ X ≤ m ∧ (X = T ∨ X = m) := by
    split
    · exact ⟨T, rfl, by omega, by omega, .inl rfl⟩
    · exact ⟨m, rfl, by omega, by omega, .inr rfl⟩
  obtain ⟨Y, eY, hY1, hY2, hY3⟩ : ∃ Y : Nat, (if (m : Int) < (T : Int) then (T : Int) else m) = Y ∧ T ≤ Y ∧ m ≤ Y ∧ (Y = T ∨ Y = m) := by
    split
    · exact ⟨T, rfl, by omega, by omega, .inl rfl⟩
    · exact ⟨m, rfl, by omega, by omega, .inr rfl⟩
  rw [eX, eY]
  have s1 : 1 ≤ X := by omega
  have s2 : X ≤ Y := by omega
  have s3 : Y ≤ Z := by omega
  clear eM em eT eZ eX eY hM1 hM2 hM3 hM4 hM5 hm1 hm2 hm3 hm4 hT1 hT2 hT3 hZ1 hZ2 hX1 hX2 hX3 hY1 hY2 hY3 hA1 hA2 hB1 hB2 hC1 hC2
  go_wp2_with fail
  clear c0 c1 c2 c3 c4 c5 c6 c7 c8 c9 c10 c11 c12 f5 f6 f7
  have HX4 := Lib.hid (HX3.out.setR (X : Int) (Y : Int))
  have hk1 : w.heap.size + 1 ≠ w.heap.size := by omega
  have HK4 := Lib.hid (((HK3.out.other (p := ⟨w.heap.size, 7, none⟩) hk1 (.int .i64 0)).other (p := ⟨w.heap.size, 5, none⟩) hk1 (.int .i64 (X : Nat))).other (p := ⟨w.heap.size, 6, none⟩) hk1 (.int .i64 (Y : Nat)))
  have HB4 := Lib.hid (((HB3.out.setCell (p := ⟨w.heap.size, 7, none⟩) (Nat.le_refl _) (.int .i64 0)).setCell (p := ⟨w.heap.size, 5, none⟩) (Nat.le_refl _) (.int .i64 (X : Nat))).setCell (p := ⟨w.heap.size, 6, none⟩) (Nat.le_refl _) (.int .i64 (Y : Nat)))
  refine (rrefValid_any (withR r X Y) _).mono ?_
  rintro e w5 ⟨rfl, hb5⟩
  have HX5 := Lib.hid (RcB.later HX4.out hb5)
  have HK5 := Lib.hid (KyB.later HK4.out hb5)
  have HB5 := Lib.hid (below_step HB4.out hb5)
  clear hb5 HX4 HK4 HB4 HX3 HK3 HB3
  cases hv : validC (withR r X Y) with
  | false =>
    go_wp2_with fail
    go_ret
    exact ⟨rfl, HB5.out⟩
  | true =>
  obtain ⟨R1, eR1, eN1⟩ := clV_parts (k := k) HO.out s1 s2 (by omega) hv
  obtain ⟨R2, eR2, eN2⟩ := clV_parts (k := k) (x := Y) (y := Z) HO.out (by omega) s3 hZ3 (withR_valid hv (by omega) (by omega) (by omega))
  obtain ⟨R3, eR3, eN3⟩ := clV_parts (k := k) (x := X) (y := Z) HO.out s1 (by omega) hZ3 (withR_valid hv (by omega) (by omega) (by omega))
  have HCL1 := Lib.hid (fun W (h : Rds W o l) => rClose_any (withR r X Y) o cap l k W h hl)
  have HCL2 := Lib.hid (fun W (h : Rds W o l) => rClose_any (withR r Y Z) o cap l k W h hl)
  have HCL3 := Lib.hid (fun W (h : Rds W o l) => rClose_any (withR r X Z) o cap l k W h hl)
  rw [eR1] at HCL1
  rw [eR2] at HCL2
  rw [eR3] at HCL3
  have HEN := Lib.hid (energy_parts HO.out s1 s2 s3 hZ3)
  rw [← eN1, ← eN2, ← eN3] at HEN
  clear eR1 eR2 eR3 eN1 eN2 eN3 hv
  obtain ⟨c0, c1, c2, c3, c4, c5, c6, c7, c8⟩ := HX5.out.nums
  obtain ⟨c9, c10, c11, c12⟩ := HX5.out.signs
  simp only [withR] at c0 c1 c2 c3 c4 c5 c6 c7 c8 c9 c10 c11 c12
  obtain ⟨k0, k1, k2, k3⟩ := HK5.out.keys
  go_wp2_with fail
  clear c0 c1 c2 c3 c4 c5 c6 c7 c8 c9 c10 c11 c12 k0 k1 k2 k3
  refine (HCL1.out w5 (HR.out.later HB5.out)).mono ?_
  rintro e w6 ⟨rfl, hb6⟩
  have HX6 := Lib.hid (HX5.out.later hb6)
  have HK6 := Lib.hid (HK5.out.later hb6)
  have HB6 := Lib.hid (below_step HB5.out hb6)
  clear hb6 HX5 HK5 HB5
  have z6 := HX6.out.lt
  have y6 := HK6.out.lt
  have f5 := HX6.out.frozen 5
  have f6 := HX6.out.frozen 6
  obtain ⟨c0, c1, c2, c3, c4, c5, c6, c7, c8⟩ := HX6.out.nums
  obtain ⟨c9, c10, c11, c12⟩ := HX6.out.signs
  simp only [withR] at c0 c1 c2 c3 c4 c5 c6 c7 c8 c9 c10 c11 c12
  obtain ⟨k0, k1, k2, k3⟩ := HK6.out.keys
  go_wp2_with fail
  clear c0 c1 c2 c3 c4 c5 c6 c7 c8 c9 c10 c11 c12 k0 k1 k2 k3 f5 f6
  obtain ⟨Q, hQ⟩ : ∃ Q, (w6.setCell ⟨w.heap.size, 5, none⟩ (.int .i64 (Y : Nat))).setCell ⟨w.heap.size, 6, none⟩ (.int .i64 (Z : Nat)) = Q := ⟨_, rfl⟩
  have hQs : w6.heap.size = Q.heap.size := by rw [← hQ]; simp
  have HQX := Lib.hid (show RcB Q w.heap.size (withR r Y Z) by rw [← hQ]; exact (HX6.out.setF (Y : Int)).setL (Z : Int))
  have HQK := Lib.hid (show KyB Q (w.heap.size + 1) k by rw [← hQ]; exact (HK6.out.other (p := ⟨w.heap.size, 5, none⟩) hk1 _).other (p := ⟨w.heap.size, 6, none⟩) hk1 _)
  have HQB := Lib.hid (show Below w.heap.size w Q by rw [← hQ]; exact (HB6.out.setCell (p := ⟨w.heap.size, 5, none⟩) (Nat.le_refl _) _).setCell (p := ⟨w.heap.size, 6, none⟩) (Nat.le_refl _) _)
  rw [hQ, hQs]
  clear hQ HX6 HK6 HB6 z6 y6
  refine (HCL2.out _ (HR.out.later (below_alloc HQB.out _))).mono ?_
  rintro e w7 ⟨rfl, hb7⟩
  have HP7 := Lib.hid ((RcB.new Q R1).later hb7)
  have HX7 := Lib.hid ((HQX.out.later (below_alloc (Below.refl _ _) _)).later hb7)
  have HK7 := Lib.hid ((HQK.out.later (below_alloc (Below.refl _ _) _)).later hb7)
  have HB7 := Lib.hid (below_step (below_alloc HQB.out _) hb7)
  have hP : w.heap.size + 1 < Q.heap.size := HQK.out.lt
  clear hb7 HQX HQK HQB hQs
  have z7 := HX7.out.lt
  have y7 := HK7.out.lt
  have x7 := HP7.out.lt
  have f5 := HX7.out.frozen 5
  obtain ⟨c0, c1, c2, c3, c4, c5, c6, c7, c8⟩ := HX7.out.nums
  obtain ⟨c9, c10, c11, c12⟩ := HX7.out.signs
  simp only [withR] at c0 c1 c2 c3 c4 c5 c6 c7 c8 c9 c10 c11 c12
  obtain ⟨k0, k1, k2, k3⟩ := HK7.out.keys
  go_wp2_with fail
  clear c0 c1 c2 c3 c4 c5 c6 c7 c8 c9 c10 c11 c12 k0 k1 k2 k3 f5
  obtain ⟨V, hV⟩ : ∃ V, w7.setCell ⟨w.heap.size, 5, none⟩ (.int .i64 (X : Nat)) = V := ⟨_, rfl⟩
  have hVs : w7.heap.size = V.heap.size := by rw [← hV]; simp
  have HVX := Lib.hid (show RcB V w.heap.size (withR r X Z) by rw [← hV]; exact HX7.out.setF (X : Int))
  have HVP := Lib.hid (show RcB V Q.heap.size R1 by rw [← hV]; exact HP7.out.other (p := ⟨w.heap.size, 5, none⟩) (show Q.heap.size ≠ w.heap.size by omega) _)
  have HVK := Lib.hid (show KyB V (w.heap.size + 1) k by rw [← hV]; exact HK7.out.other (p := ⟨w.heap.size, 5, none⟩) hk1 _)
  have HVB := Lib.hid (show Below w.heap.size w V by rw [← hV]; exact HB7.out.setCell (p := ⟨w.heap.size, 5, none⟩) (Nat.le_refl _) _)
  rw [hV, hVs]
  clear hV HX7 HK7 HB7 HP7 z7 y7 x7
  refine (HCL3.out _ (HR.out.later (below_alloc HVB.out _))).mono ?_
  rintro e w8 ⟨rfl, hb8⟩
  have HP8 := Lib.hid ((HVP.out.later (below_alloc (Below.refl _ _) _)).later hb8)
  have HQ8 := Lib.hid ((RcB.new V R2).later hb8)
  have HB8 := Lib.hid (below_step (below_alloc HVB.out _) hb8)
  clear hb8 HVX HVP HVK HVB hVs
  have z8 := HP8.out.lt
  have y8 := HQ8.out.lt
  have p7 : w8.cell? ⟨Q.heap.size, 7, none⟩ = some (.int .i64 R1.en) := HP8.out.cell 7
  have q7 : w8.cell? ⟨V.heap.size, 7, none⟩ = some (.int .i64 R2.en) := HQ8.out.cell 7
  obtain ⟨g0, g1, g2, g3, g4⟩ := HEN.out
  obtain ⟨N1, hN1⟩ : ∃ N, R1.en = N := ⟨_, rfl⟩
  obtain ⟨N2, hN2⟩ : ∃ N, R2.en = N := ⟨_, rfl⟩
  obtain ⟨N3, hN3⟩ : ∃ N, R3.en = N := ⟨_, rfl⟩
  rw [hN1, hN2, hN3] at g0
  rw [hN1] at g1 g2 p7
  rw [hN2] at g3 g4 q7
  have HN3 := Lib.hid (hN3.trans g0.symm)
  clear hN1 hN2 hN3 HEN g0
  have hn3 := HN3.out
  go_wp2
  go_ret
  exact ⟨rfl, below_alloc HB8.out _⟩
end Go.Proofs.Ytddbobphmakmmaa
