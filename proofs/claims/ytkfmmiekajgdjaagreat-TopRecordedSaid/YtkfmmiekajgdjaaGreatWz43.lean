/- Package tariff: Applies. Package bill: must, applies. -/
import Derived.Test.YtkfmmiekajgdjaaGreatWy43
import Derived.Test.YtkfmmiekajgdjaaGreatT26
import Derived.Test.YtkfmmiekajgdjaaGreatWj43
import Derived.Test.YtkfmmiekajgdjaaGreatWu43
namespace Go.Proofs.YtkfmmiekajgdjaaGreat
open Go.RowKit
attribute [local go_sem] Oper.semAt_some

/-- A calendar in memory. -/
structure CalM (w : World) (c : ClA) : Prop where
  chg : Twos w c.oc c.chg
  hol : Ints w c.oh c.hol
theorem CalM.later {w w' : World} {c : ClA} (h : CalM w c) (hb : Below w.heap.size w w') : CalM w' c := ⟨h.chg.later hb, h.hol.later hb⟩
theorem offA_at (m : Int) : ∀ (l : List (Int × Int)) (off : Int), offA off m l = offAt m off l
  | [], _ => rfl
  | x :: l, off => by
    show offA (if x.1 ≤ m then x.2 else off) m l = offAt m (if x.1 ≤ m then x.2 else off) l
    exact offA_at m l _
theorem chgA_incr : ∀ (l : List (Int × Int)) (b : Int), chgA b l = (incr 52560000 b (l.map (·.1)) && l.all fun x => dBand x.2 (-1440) 1440)
  | [], _ => rfl
  | x :: l, b => by
    rw [chgA_cons, chgA_incr l]
    show _ = (((decide (b < x.1) && decide (x.1 ≤ 52560000)) && incr 52560000 x.1 (l.map (·.1))) && (dBand x.2 (-1440) 1440 && l.all fun x => dBand x.2 (-1440) 1440))
    rw [show insB x.2 (-1440) 1440 = dBand x.2 (-1440) 1440 from rfl]
    cases decide (b < x.1) <;> cases decide (x.1 ≤ 52560000) <;> cases dBand x.2 (-1440) 1440 <;> cases incr 52560000 x.1 (l.map (·.1)) <;> rfl
theorem holA_incr : ∀ (l : List Int) (b : Int), holA b l = incr 36500 b l
  | [], _ => rfl
  | x :: l, b => by
    show ((decide (b < x) && decide (x ≤ 36500)) && holA x l) = _
    rw [holA_incr l]
    rfl
theorem datA_val (off : Int) (chg : List (Int × Int)) (hol : List Int) : datA off chg hol = validCal off chg hol := by
  unfold datA validCal
  rw [chgA_incr, holA_incr, show insB off (-1440) 1440 = dBand off (-1440) 1440 from rfl]
  have h1 : decide ((chg.length : Int) ≤ 16) = decide (chg.length ≤ 16) := by simp; omega
  have h2 : decide ((hol.length : Int) ≤ 32) = decide (hol.length ≤ 32) := by simp; omega
  rw [h1, h2]
  cases dBand off (-1440) 1440 <;> cases decide (chg.length ≤ 16) <;> cases decide (hol.length ≤ 32) <;> cases incr 52560000 (-1) (chg.map (·.1)) <;> cases (chg.all fun x => dBand x.2 (-1440) 1440) <;> cases incr 36500 (-1) hol <;> rfl
theorem typA_of (_off : Int) (_chg : List (Int × Int)) (hol : List Int) (d : Int) : typA hol d = if hol.contains d then 2 else weekOf (d % 7) := by
  unfold typA weekOf
  have h : hol.any (· == d) = hol.contains d := by
    rw [Bool.eq_iff_iff]
    simp
  have h7 : (d + 7) % 7 = d % 7 := by omega
  rw [h, h7]
  split
  · rfl
  · split
    · next h5 => simp [h5]
    · split
      · next h6 => rfl
      · next h5 h6 => rfl
theorem local_ok {c : ClA} {m : Int} (hd : datA c.off c.chg c.hol = true) (h0 : 0 ≤ m) (h1 : m ≤ 52560000) : localV c.off c.chg c.hol m = .tuple #[.int .i64 ((m + offA c.off m c.chg) / 1440), .int .i64 ((m + offA c.off m c.chg) % 1440), .int .i64 0] := by
  rw [localV_ok (by rw [← datA_val, hd]; unfold dBand; simp; omega), offA_at]
theorem type_ok {c : ClA} {d : Int} (hd : datA c.off c.chg c.hol = true) (h0 : -1 ≤ d) (h1 : d ≤ 36501) : typeV c.off c.chg c.hol d = .tuple #[.int .i64 (typA c.hol d), .int .i64 0] := by
  rw [typeV_ok (by rw [← datA_val, hd]; unfold dBand; simp; omega), typA_of c.off c.chg]

set_option maxRecDepth 100000 in
set_option maxHeartbeats 16000000 in
theorem AppliesT_any (w : World) (c : ClA) (a : Art) (m : Int) (h : CalM w c) (ha : artA a = true) (hd : datA c.off c.chg c.hol = true) (h0 : 0 ≤ m) (h1 : m ≤ 52560000) : Calls Tryz.prog 112 #[artV a, .agg #[.int .i64 c.off, .slice c.oc c.chg.length c.cc, .slice c.oh c.hol.length c.ch], .int .i64 m] w (Ret (.bool (appA a c m)) w) := by
  have HX := Lib.hid h
  have HA := Lib.hid ha
  have HLO := Lib.hid (local_ok hd h0 h1)
  have hob := dat_off (m := m) hd
  obtain ⟨O, hO⟩ : ∃ x, offA c.off m c.chg = x := ⟨_, rfl⟩
  have HTO := Lib.hid (type_ok hd (show -1 ≤ (m + O) / 1440 by rw [hO] at hob; omega) (show (m + O) / 1440 ≤ 36501 by rw [hO] at hob; omega))
  clear h ha hd
  obtain ⟨V, hV⟩ : ∃ V, appA a c m = V := ⟨_, rfl⟩
  rw [hV]
  have HV := Lib.hid (show (decide (a.f ≤ (m + offA c.off m c.chg + 1440) % 1440) && (decide ((m + offA c.off m c.chg + 1440) % 1440 < a.t) && dayB a.d (typA c.hol ((m + offA c.off m c.chg + 1440) / 1440 - 1)))) = V from hV)
  rw [hO] at HV HLO hob
  have HM := Lib.hid (show (m + O + 1440) % 1440 = (m + O) % 1440 ∧ (m + O + 1440) / 1440 - 1 = (m + O) / 1440 by omega)
  rw [HM.out.1, HM.out.2] at HV
  clear hV hO HM
  obtain ⟨M, hM⟩ : ∃ x, (m + O) % 1440 = x := ⟨_, rfl⟩
  obtain ⟨D, hD⟩ : ∃ x, (m + O) / 1440 = x := ⟨_, rfl⟩
  rw [hM, hD] at HV HLO
  rw [hD] at HTO
  clear hM hD hob h0 h1
  have HTY := Lib.hid (shl_typ (typA_cases c.hol D))
  have HTN := Lib.hid (show 0 ≤ typA c.hol D ∧ typA c.hol D ≤ 2 from by rcases typA_cases c.hol D with h | h | h <;> rw [h] <;> decide)
  obtain ⟨ty, hty⟩ : ∃ x, typA c.hol D = x := ⟨_, rfl⟩
  rw [hty] at HV HTO HTY HTN
  clear hty
  go_enter Tryz.func112, Tryz.ntmps112
  go_upto_region 1 with (fail)
  obtain ⟨wq, hwq⟩ : ∃ W, W = w.alloc (.cells #[.int .i64 a.k, .int .i64 a.d, .int .i64 a.f, .int .i64 a.t, .int .i64 a.p, .int .i64 a.u, .int .i64 a.r] 72) := ⟨_, rfl⟩
  obtain ⟨W1, hW1⟩ : ∃ W, W = wq.alloc (.cells #[.int .i64 c.off, .slice c.oc c.chg.length c.cc, .slice c.oh c.hol.length c.ch] 28) := ⟨_, rfl⟩
  have hsq : wq.heap.size = w.heap.size + 1 := by rw [hwq, World.size_alloc]
  have HQ := Lib.hid (show Blk W1 w.heap.size 72 #[.int .i64 a.k, .int .i64 a.d, .int .i64 a.f, .int .i64 a.t, .int .i64 a.p, .int .i64 a.u, .int .i64 a.r] by rw [hW1]; refine Blk.alloc ?_ _; rw [hwq]; exact Blk.new _ _ _)
  have HG := Lib.hid (show Blk W1 (w.heap.size + 1) 28 #[.int .i64 c.off, .slice c.oc c.chg.length c.cc, .slice c.oh c.hol.length c.ch] by rw [hW1, ← hsq]; exact Blk.new _ _ _)
  have HB := Lib.hid (show Below w.heap.size w W1 by rw [hW1, hwq]; exact below_alloc (below_alloc (Below.refl _ _) _) _)
  have hS1 : W1 = (w.alloc (.cells #[.int .i64 a.k, .int .i64 a.d, .int .i64 a.f, .int .i64 a.t, .int .i64 a.p, .int .i64 a.u, .int .i64 a.r] 72)).alloc (.cells #[.int .i64 c.off, .slice c.oc c.chg.length c.cc, .slice c.oh c.hol.length c.ch] 28) := by rw [hW1, hwq]
  obtain ⟨g, hg⟩ : ∃ P, P = w.heap.size + 1 := ⟨_, rfl⟩
  obtain ⟨Q, hQ⟩ : ∃ Q, Q = w.heap.size := ⟨_, rfl⟩
  try rw [← hS1]
  try rw [← hg] at HG ⊢
  try rw [← hQ] at HQ ⊢
  replace HX := Lib.hid (HX.out.later HB.out)
  clear hg hQ hS1 hW1 hwq hsq
  have x0 : W1.cell? ⟨Q, 0, none⟩ = some (.int .i64 a.k) := HQ.out.cell 0
  have x1 : W1.cell? ⟨Q, 1, none⟩ = some (.int .i64 a.d) := HQ.out.cell 1
  have x2 : W1.cell? ⟨Q, 2, none⟩ = some (.int .i64 a.f) := HQ.out.cell 2
  have x3 : W1.cell? ⟨Q, 3, none⟩ = some (.int .i64 a.t) := HQ.out.cell 3
  have x4 : W1.cell? ⟨Q, 4, none⟩ = some (.int .i64 a.p) := HQ.out.cell 4
  have x5 : W1.cell? ⟨Q, 5, none⟩ = some (.int .i64 a.u) := HQ.out.cell 5
  have x6 : W1.cell? ⟨Q, 6, none⟩ = some (.int .i64 a.r) := HQ.out.cell 6
  go_wp2_with fail
  refine (validArticleT_any a W1).mono ?_
  rintro _ W2 ⟨rfl, hb⟩
  replace HX := Lib.hid (HX.out.later hb)
  replace HQ := Lib.hid (HQ.out.later hb)
  replace HG := Lib.hid (HG.out.later hb)
  replace HB := Lib.hid (below_step HB.out hb)
  rw [HA.out]
  clear hb x0 x1 x2 x3 x4 x5 x6
  have y0 : W2.cell? ⟨g, 0, none⟩ = some (.int .i64 c.off) := HG.out.cell 0
  have y1 : W2.cell? ⟨g, 1, none⟩ = some (.slice c.oc c.chg.length c.cc) := HG.out.cell 1
  have y2 : W2.cell? ⟨g, 2, none⟩ = some (.slice c.oh c.hol.length c.ch) := HG.out.cell 2
  go_wp2_with fail
  refine (local_any c.off m c.oc c.oh c.cc c.ch c.chg c.hol W2 HX.out.chg HX.out.hol).mono ?_
  rintro _ W3 ⟨rfl, hb⟩
  replace HX := Lib.hid (HX.out.later hb)
  replace HQ := Lib.hid (HQ.out.later hb)
  replace HG := Lib.hid (HG.out.later hb)
  replace HB := Lib.hid (below_step HB.out hb)
  rw [HLO.out]
  clear hb y0 y1 y2
  have x2 : W3.cell? ⟨Q, 2, none⟩ = some (.int .i64 a.f) := HQ.out.cell 2
  have x3 : W3.cell? ⟨Q, 3, none⟩ = some (.int .i64 a.t) := HQ.out.cell 3
  have y0 : W3.cell? ⟨g, 0, none⟩ = some (.int .i64 c.off) := HG.out.cell 0
  have y1 : W3.cell? ⟨g, 1, none⟩ = some (.slice c.oc c.chg.length c.cc) := HG.out.cell 1
  have y2 : W3.cell? ⟨g, 2, none⟩ = some (.slice c.oh c.hol.length c.ch) := HG.out.cell 2
  by_cases k1 : a.f ≤ M
  rotate_left
  · have d1 : decide (M < a.f) = true := decide_eq_true (by omega)
    obtain rfl : false = V := by rw [← HV.out, decide_eq_false k1]; rfl
    clear k1
    go_wp2
    go_ret
    exact ⟨rfl, HB.out⟩
  have d1 : decide (M < a.f) = false := decide_eq_false (by omega)
  by_cases k2 : M < a.t
  rotate_left
  · have d2 : decide (a.t ≤ M) = true := decide_eq_true (by omega)
    obtain rfl : false = V := by rw [← HV.out, decide_eq_false k2]; simp
    clear k1 k2
    go_wp2
    go_ret
    exact ⟨rfl, HB.out⟩
  have d2 : decide (a.t ≤ M) = false := decide_eq_false (by omega)
  have HV2 := Lib.hid (show (bits .and .i64 a.d (2 ^ ty.toNat) != 0) = V by rw [← HV.out, decide_eq_true k1, decide_eq_true k2]; rfl)
  clear k1 k2
  go_wp2_with fail
  refine (type_any c.off D c.oc c.oh c.cc c.ch c.chg c.hol W3 HX.out.chg HX.out.hol).mono ?_
  rintro _ W4 ⟨rfl, hb⟩
  replace HQ := Lib.hid (HQ.out.later hb)
  replace HB := Lib.hid (below_step HB.out hb)
  rw [HTO.out]
  clear hb y0 y1 y2 d1 d2 x2 x3
  have x1 : W4.cell? ⟨Q, 1, none⟩ = some (.int .i64 a.d) := HQ.out.cell 1
  have t1 := HTY.out.1
  have t2 := HTY.out.2
  have t3 := HTN.out.1
  have t4 := HTN.out.2
  go_upto_region 7 with (fail)
  go_quiet (fail)
  obtain rfl := HV2.out
  go_wp2
  go_ret
  exact ⟨rfl, below_drewN HB.out _⟩
@[reducible] def billP (err : Int) : PanicEntry := { v := .iface 131 (.agg #[.int .i64 err]), recovered := false }
set_option maxHeartbeats 4000000 in
theorem must_ok (n : Int) (w : World) : Calls Tryz.prog 69 #[.int .i64 n, .int .i64 0] w (fun e w' => e = .returned (.int .i64 n) ∧ w = w') := by
  go_enter Tryz.func69, Tryz.ntmps69
  go_wp2
  go_ret
  exact ⟨rfl, rfl⟩
set_option maxHeartbeats 4000000 in
theorem must_no (n k : Int) (w : World) (hk : (k == 0) = false) : Calls Tryz.prog 69 #[.int .i64 n, .int .i64 k] w (fun e w' => e = .panicked [billP 3] ∧ w = w') := by
  have hk' : (k != 0) = true := by unfold bne; rw [hk]; rfl
  go_enter Tryz.func69, Tryz.ntmps69
  go_wp2
  exact ⟨rfl, rfl, rfl⟩
/-- A biller in block g; the calendar and the slices are there. -/
@[reducible] def bilL (a : Art) (c : ClA) (s : SesA) : List Value := [.int .i64 a.k, .int .i64 a.d, .int .i64 a.f, .int .i64 a.t, .int .i64 a.p, .int .i64 a.u, .int .i64 a.r, .int .i64 c.off, .slice c.oc c.chg.length c.cc, .slice c.oh c.hol.length c.ch, .int .i64 s.f, .int .i64 s.t, .int .i64 s.e, .slice s.o s.l.length s.cap]
structure BilM (w : World) (g : Nat) (a : Art) (c : ClA) (s : SesA) : Prop where
  cal : CalM w c
  sls : Twos w s.o s.l
  blk : Blk w g 148 (bilL a c s).toArray
theorem BilM.later {w w' : World} {g : Nat} {a : Art} {c : ClA} {s : SesA} (h : BilM w g a c s) (hb : Below w.heap.size w w') : BilM w' g a c s := ⟨h.cal.later hb, h.sls.later hb, h.blk.later hb⟩
set_option maxRecDepth 100000 in
set_option maxHeartbeats 8000000 in
theorem billApplies_any (w : World) (g : Nat) (a : Art) (c : ClA) (s : SesA) (m : Int) (h : BilM w g a c s) (ha : artA a = true) (hd : datA c.off c.chg c.hol = true) (h0 : 0 ≤ m) (h1 : m ≤ 52560000) : Calls Tryz.prog 102 #[.pointer (some ⟨g, 0, none⟩), .int .i64 m] w (Ret (.bool (appA a c m)) w) := by
  have HX := Lib.hid h
  have HC := Lib.hid (fun w' (hb : Below w.heap.size w w') => AppliesT_any w' c a m (HX.out.cal.later hb) ha hd h0 h1)
  clear h ha hd h0 h1
  obtain ⟨V, hV⟩ : ∃ V, appA a c m = V := ⟨_, rfl⟩
  rw [hV] at HC ⊢
  clear hV
  go_enter Tryz.func102, Tryz.ntmps102
  go_upto_region 1 with (fail)
  refine wp_region_B 9 (fun w'' => Below w.heap.size w w'') mixed (by kernel_rfl) (below_closed w) (Below.refl _ _).drew ?_
  simp only [List.take_succ_cons, List.take_zero, List.drop_succ_cons, List.drop_zero]
  intro KR hR
  have HR := Lib.hid hR
  clear hR
  have HCC := Lib.hid (show ∀ w'', Below w.heap.size w w'' → w''.cell? ⟨g, 0, none⟩ = some (.int .i64 a.k) ∧ w''.cell? ⟨g, 1, none⟩ = some (.int .i64 a.d) ∧ w''.cell? ⟨g, 2, none⟩ = some (.int .i64 a.f) ∧ w''.cell? ⟨g, 3, none⟩ = some (.int .i64 a.t) ∧ w''.cell? ⟨g, 4, none⟩ = some (.int .i64 a.p) ∧ w''.cell? ⟨g, 5, none⟩ = some (.int .i64 a.u) ∧ w''.cell? ⟨g, 6, none⟩ = some (.int .i64 a.r) ∧ w''.cell? ⟨g, 7, none⟩ = some (.int .i64 c.off) ∧ w''.cell? ⟨g, 8, none⟩ = some (.slice c.oc c.chg.length c.cc) ∧ w''.cell? ⟨g, 9, none⟩ = some (.slice c.oh c.hol.length c.ch) from fun w'' hw => ⟨cell_kept hw (HX.out.blk.cell 0), cell_kept hw (HX.out.blk.cell 1), cell_kept hw (HX.out.blk.cell 2), cell_kept hw (HX.out.blk.cell 3), cell_kept hw (HX.out.blk.cell 4), cell_kept hw (HX.out.blk.cell 5), cell_kept hw (HX.out.blk.cell 6), cell_kept hw (HX.out.blk.cell 7), cell_kept hw (HX.out.blk.cell 8), cell_kept hw (HX.out.blk.cell 9)⟩)
  apply wpB_val rfl
  · (intro w' hw'; go_simp; with_reducible rfl)
  simp only [Act.put, List.setIfInBounds_toArray, List.set_cons_zero, List.set_cons_succ]
  apply wpB_val rfl
  · (intro w' hw'; go_simp; with_reducible rfl)
  simp only [Act.put, List.setIfInBounds_toArray, List.set_cons_zero, List.set_cons_succ]
  apply wpB_val rfl
  · (intro w' hw'; go_simp; with_reducible rfl)
  simp only [Act.put, List.setIfInBounds_toArray, List.set_cons_zero, List.set_cons_succ]
  apply wpB_val rfl
  · (intro w' hw'; obtain ⟨c0, c1, c2, c3, c4, c5, c6, c7, c8, c9⟩ := HCC.out w' hw'; go_simp; with_reducible rfl)
  simp only [Act.put, List.setIfInBounds_toArray, List.set_cons_zero, List.set_cons_succ]
  apply wpB_val rfl
  · (intro w' hw'; go_simp; with_reducible rfl)
  simp only [Act.put, List.setIfInBounds_toArray, List.set_cons_zero, List.set_cons_succ]
  apply wpB_val rfl
  · (intro w' hw'; go_simp; with_reducible rfl)
  simp only [Act.put, List.setIfInBounds_toArray, List.set_cons_zero, List.set_cons_succ]
  apply wpB_val rfl
  · (intro w' hw'; go_simp; with_reducible rfl)
  simp only [Act.put, List.setIfInBounds_toArray, List.set_cons_zero, List.set_cons_succ]
  apply wpB_val rfl
  · (intro w' hw'; obtain ⟨c0, c1, c2, c3, c4, c5, c6, c7, c8, c9⟩ := HCC.out w' hw'; go_simp; with_reducible rfl)
  simp only [Act.put, List.setIfInBounds_toArray, List.set_cons_zero, List.set_cons_succ]
  apply wpB_val rfl
  · (intro w' hw'; go_simp; with_reducible rfl)
  simp only [Act.put, List.setIfInBounds_toArray, List.set_cons_zero, List.set_cons_succ]
  refine wpB_nil (HR.out _ (fun w2 hw2 => ?_))
  clear HR HCC
  go_wp2_with fail
  refine (HC.out w2 hw2).mono ?_
  rintro _ w3 ⟨rfl, hb⟩
  have HB := Lib.hid (below_step hw2 hb)
  clear hw2 hb HC
  go_wp2
  go_ret
  exact ⟨rfl, HB.out⟩
end Go.Proofs.YtkfmmiekajgdjaaGreat