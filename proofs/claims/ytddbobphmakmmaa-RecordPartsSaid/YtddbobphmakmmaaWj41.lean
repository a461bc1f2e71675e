/- Chapter 41: RecordMatchesReference. -/
import Derived.Test.YtddbobphmakmmaaWf41
namespace Go.Proofs.Ytddbobphmakmmaa
open Go.RowKit
attribute [local go_sem] Oper.semAt_some

theorem eq_arr4 (a b c d : Int) (w : World) : (Op.equalIn 9999 23 (.agg #[.int .u64 a, .int .u64 b, .int .u64 c, .int .u64 d]) (.agg #[.int .u64 a, .int .u64 b, .int .u64 c, .int .u64 d])).run Try.prog w = .ok true w := by
  have u3 := Try.underlying22
  have a3 := Try.isAgg22
  have z3 := Try.sizeOf22
  rw [show (9999 : Nat) = 9998 + 1 from rfl, Op.equalIn]
  simp only [Sem.run_bind, run_underlying Try.underlying23, Result.andThen_ok]
  simp only [Std.Legacy.Range.forIn_eq_forIn_range', Std.Legacy.Range.size, Nat.sub_zero, Nat.add_sub_cancel, Nat.div_one, List.range'_succ, List.range'_zero, List.forIn_cons, List.forIn_nil]
  go_simp
theorem run_eql_rc (R : Rc) (w : World) : (binOp .eql 25 (recV R) (recV R)).run Try.prog w = .ok (.bool true) w := by
  go_simp
  rw [eq_arr4]
  rfl

set_option maxRecDepth 100000 in
set_option maxHeartbeats 8000000 in
theorem recordMatches_any (r : Rc) (o : Option Addr) (cap : Nat) (l : List Rd) (k : K4) (w : World) (hr : Rds w o l) (hl : l.length ≤ 9223372036854775807) :
    Calls Try.prog 3 #[recV r, .slice o l.length cap, keyV k] w (Ret (.bool true) w) := by
  have HR := Lib.hid hr
  clear hr
  go_enter Try.func3, Try.ntmps3
  go_wp2_with fail
  refine (head_any _).mono ?_
  rintro e w1 ⟨rfl, hb1⟩
  have HTB := Lib.hid (two_boxes w r k hb1)
  have HX := Lib.hid HTB.out.1
  have HK := Lib.hid HTB.out.2.1
  have HB := Lib.hid HTB.out.2.2
  clear hb1 HTB
  by_cases h80 : 80 < l.length
  · go_wp2_with fail
    go_ret
    exact ⟨rfl, HB.out⟩
  have HC1 := Lib.hid (fun W (h : Rds W o l) => rClose_any r o cap l k W h hl)
  have HC2 := Lib.hid (fun W (h : Rds W o l) => rrefClose_any r o cap l k W h hl)
  rw [show clV r l k = .tuple #[recV (clRec r l k), .int .i64 (if clOk r l then 0 else 1)] from rfl] at HC1 HC2
  obtain ⟨R, hR⟩ : ∃ R, clRec r l k = R := ⟨_, rfl⟩
  obtain ⟨E, hE⟩ : ∃ E, (if clOk r l then (0 : Int) else 1) = E := ⟨_, rfl⟩
  rw [hR, hE] at HC1 HC2
  clear hR hE
  obtain ⟨c0, c1, c2, c3, c4, c5, c6, c7, c8⟩ := HX.out.nums
  obtain ⟨c9, c10, c11, c12⟩ := HX.out.signs
  obtain ⟨k0, k1, k2, k3⟩ := HK.out.keys
  go_wp2_with fail
  clear c0 c1 c2 c3 c4 c5 c6 c7 c8 c9 c10 c11 c12 k0 k1 k2 k3
  refine (HC1.out w1 (HR.out.later HB.out)).mono ?_
  rintro e w2 ⟨rfl, hb2⟩
  have HX2 := Lib.hid (HX.out.later hb2)
  have HK2 := Lib.hid (HK.out.later hb2)
  have HB2 := Lib.hid (below_step HB.out hb2)
  clear hb2 HX HK HB HC1
  have zz := HK2.out.lt
  have zy := HX2.out.lt
  obtain ⟨c0, c1, c2, c3, c4, c5, c6, c7, c8⟩ := HX2.out.nums
  obtain ⟨c9, c10, c11, c12⟩ := HX2.out.signs
  obtain ⟨k0, k1, k2, k3⟩ := HK2.out.keys
  go_wp2_with fail
  clear c0 c1 c2 c3 c4 c5 c6 c7 c8 c9 c10 c11 c12 k0 k1 k2 k3
  refine (HC2.out _ ((HR.out.later HB2.out).later (below_alloc (Below.refl _ _) _))).mono ?_
  rintro e w3 ⟨rfl, hb3⟩
  have HA3 := Lib.hid ((RcB.new w2 R).later hb3)
  have HX3 := Lib.hid ((HX2.out.later (below_alloc (Below.refl _ _) _)).later hb3)
  have HK3 := Lib.hid ((HK2.out.later (below_alloc (Below.refl _ _) _)).later hb3)
  have HB3 := Lib.hid (below_step (below_alloc HB2.out _) hb3)
  clear hb3 HX2 HK2 HB2 HC2
  have K0 := Lib.hid (fun w' => rSign_any r k.k0 k.h0 w')
  have K1 := Lib.hid (fun w' => rrefSign_any r k.k0 k.h0 w')
  have K2 := Lib.hid (fun w' => rCheck_any r k w')
  have K3 := Lib.hid (fun w' => rrefCheck_any r k w')
  have K4 := Lib.hid (fun w' => rCheck_any R k w')
  have K5 := Lib.hid (fun w' => rrefCheck_any R k w')
  obtain ⟨S, hS⟩ : ∃ S, sig r k.k0 = S := ⟨_, rfl⟩
  obtain ⟨C, hC⟩ : ∃ C, chkC r k = C := ⟨_, rfl⟩
  obtain ⟨D, hD⟩ : ∃ D, chkC R k = D := ⟨_, rfl⟩
  rw [hS] at K0 K1
  rw [hC] at K2 K3
  rw [hD] at K4 K5
  clear hS hC hD
  go_wp2_with fail
  have HP4 := Lib.hid (RcB.new w3 R)
  have HA4 := Lib.hid (HA3.out.later (below_alloc (Below.refl _ _) (.cells #[.int .i64 R.se, .int .i64 R.ch, .int .i64 R.ca, .int .i64 R.ho, .int .i64 R.hs, .int .i64 R.fi, .int .i64 R.la, .int .i64 R.en, .int .i64 R.am, .int .u64 (R.g0 : Nat), .int .u64 (R.g1 : Nat), .int .u64 (R.g2 : Nat), .int .u64 (R.g3 : Nat)] 25)))
  have HX4 := Lib.hid (HX3.out.later (below_alloc (Below.refl _ _) (.cells #[.int .i64 R.se, .int .i64 R.ch, .int .i64 R.ca, .int .i64 R.ho, .int .i64 R.hs, .int .i64 R.fi, .int .i64 R.la, .int .i64 R.en, .int .i64 R.am, .int .u64 (R.g0 : Nat), .int .u64 (R.g1 : Nat), .int .u64 (R.g2 : Nat), .int .u64 (R.g3 : Nat)] 25)))
  have HK4 := Lib.hid (HK3.out.later (below_alloc (Below.refl _ _) (.cells #[.int .i64 R.se, .int .i64 R.ch, .int .i64 R.ca, .int .i64 R.ho, .int .i64 R.hs, .int .i64 R.fi, .int .i64 R.la, .int .i64 R.en, .int .i64 R.am, .int .u64 (R.g0 : Nat), .int .u64 (R.g1 : Nat), .int .u64 (R.g2 : Nat), .int .u64 (R.g3 : Nat)] 25)))
  have HB4 := Lib.hid (below_alloc HB3.out (.cells #[.int .i64 R.se, .int .i64 R.ch, .int .i64 R.ca, .int .i64 R.ho, .int .i64 R.hs, .int .i64 R.fi, .int .i64 R.la, .int .i64 R.en, .int .i64 R.am, .int .u64 (R.g0 : Nat), .int .u64 (R.g1 : Nat), .int .u64 (R.g2 : Nat), .int .u64 (R.g3 : Nat)] 25))
  obtain ⟨W, hW⟩ : ∃ W, w3.alloc (.cells #[.int .i64 R.se, .int .i64 R.ch, .int .i64 R.ca, .int .i64 R.ho, .int .i64 R.hs, .int .i64 R.fi, .int .i64 R.la, .int .i64 R.en, .int .i64 R.am, .int .u64 (R.g0 : Nat), .int .u64 (R.g1 : Nat), .int .u64 (R.g2 : Nat), .int .u64 (R.g3 : Nat)] 25) = W := ⟨_, rfl⟩
  rw [hW] at HP4 HA4 HX4 HK4 HB4 ⊢
  clear hW HX3 HK3 HB3 HA3
  have heq := run_eql_rc R
  refine wp_region_B 40 (fun w'' => Below W.heap.size W w'') mixed (by kernel_rfl) (below_closed W) (Below.refl _ _).drew ?_
  simp only [List.take_succ_cons, List.take_zero, List.drop_succ_cons, List.drop_zero]
  intro KR hR
  have HR := Lib.hid hR
  clear hR
  have HCC := Lib.hid (show ∀ w'', Below W.heap.size W w'' → w''.cell? ⟨w.heap.size, 0, none⟩ = some (.int .i64 r.se) ∧ w''.cell? ⟨w.heap.size, 1, none⟩ = some (.int .i64 r.ch) ∧ w''.cell? ⟨w.heap.size, 2, none⟩ = some (.int .i64 r.ca) ∧ w''.cell? ⟨w.heap.size, 3, none⟩ = some (.int .i64 r.ho) ∧ w''.cell? ⟨w.heap.size, 4, none⟩ = some (.int .i64 r.hs) ∧ w''.cell? ⟨w.heap.size, 5, none⟩ = some (.int .i64 r.fi) ∧ w''.cell? ⟨w.heap.size, 6, none⟩ = some (.int .i64 r.la) ∧ w''.cell? ⟨w.heap.size, 7, none⟩ = some (.int .i64 r.en) ∧ w''.cell? ⟨w.heap.size, 8, none⟩ = some (.int .i64 r.am) ∧ w''.cell? ⟨w.heap.size, 9, none⟩ = some (.int .u64 (r.g0 : Nat)) ∧ w''.cell? ⟨w.heap.size, 10, none⟩ = some (.int .u64 (r.g1 : Nat)) ∧ w''.cell? ⟨w.heap.size, 11, none⟩ = some (.int .u64 (r.g2 : Nat)) ∧ w''.cell? ⟨w.heap.size, 12, none⟩ = some (.int .u64 (r.g3 : Nat)) ∧ w''.cell? ⟨w.heap.size + 1, 0, none⟩ = some (.int .u64 (k.k0 : Nat)) ∧ w''.cell? ⟨w.heap.size + 1, 1, none⟩ = some (.int .u64 (k.k1 : Nat)) ∧ w''.cell? ⟨w.heap.size + 1, 2, none⟩ = some (.int .u64 (k.k2 : Nat)) ∧ w''.cell? ⟨w.heap.size + 1, 3, none⟩ = some (.int .u64 (k.k3 : Nat)) ∧ w''.cell? ⟨w2.heap.size, 0, none⟩ = some (.int .i64 R.se) ∧ w''.cell? ⟨w2.heap.size, 1, none⟩ = some (.int .i64 R.ch) ∧ w''.cell? ⟨w2.heap.size, 2, none⟩ = some (.int .i64 R.ca) ∧ w''.cell? ⟨w2.heap.size, 3, none⟩ = some (.int .i64 R.ho) ∧ w''.cell? ⟨w2.heap.size, 4, none⟩ = some (.int .i64 R.hs) ∧ w''.cell? ⟨w2.heap.size, 5, none⟩ = some (.int .i64 R.fi) ∧ w''.cell? ⟨w2.heap.size, 6, none⟩ = some (.int .i64 R.la) ∧ w''.cell? ⟨w2.heap.size, 7, none⟩ = some (.int .i64 R.en) ∧ w''.cell? ⟨w2.heap.size, 8, none⟩ = some (.int .i64 R.am) ∧ w''.cell? ⟨w2.heap.size, 9, none⟩ = some (.int .u64 (R.g0 : Nat)) ∧ w''.cell? ⟨w2.heap.size, 10, none⟩ = some (.int .u64 (R.g1 : Nat)) ∧ w''.cell? ⟨w2.heap.size, 11, none⟩ = some (.int .u64 (R.g2 : Nat)) ∧ w''.cell? ⟨w2.heap.size, 12, none⟩ = some (.int .u64 (R.g3 : Nat)) ∧ w''.cell? ⟨w3.heap.size, 0, none⟩ = some (.int .i64 R.se) ∧ w''.cell? ⟨w3.heap.size, 1, none⟩ = some (.int .i64 R.ch) ∧ w''.cell? ⟨w3.heap.size, 2, none⟩ = some (.int .i64 R.ca) ∧ w''.cell? ⟨w3.heap.size, 3, none⟩ = some (.int .i64 R.ho) ∧ w''.cell? ⟨w3.heap.size, 4, none⟩ = some (.int .i64 R.hs) ∧ w''.cell? ⟨w3.heap.size, 5, none⟩ = some (.int .i64 R.fi) ∧ w''.cell? ⟨w3.heap.size, 6, none⟩ = some (.int .i64 R.la) ∧ w''.cell? ⟨w3.heap.size, 7, none⟩ = some (.int .i64 R.en) ∧ w''.cell? ⟨w3.heap.size, 8, none⟩ = some (.int .i64 R.am) ∧ w''.cell? ⟨w3.heap.size, 9, none⟩ = some (.int .u64 (R.g0 : Nat)) ∧ w''.cell? ⟨w3.heap.size, 10, none⟩ = some (.int .u64 (R.g1 : Nat)) ∧ w''.cell? ⟨w3.heap.size, 11, none⟩ = some (.int .u64 (R.g2 : Nat)) ∧ w''.cell? ⟨w3.heap.size, 12, none⟩ = some (.int .u64 (R.g3 : Nat)) from fun w'' hw => ⟨(HX4.out.later hw).cell 0, (HX4.out.later hw).cell 1, (HX4.out.later hw).cell 2, (HX4.out.later hw).cell 3, (HX4.out.later hw).cell 4, (HX4.out.later hw).cell 5, (HX4.out.later hw).cell 6, (HX4.out.later hw).cell 7, (HX4.out.later hw).cell 8, (HX4.out.later hw).cell 9, (HX4.out.later hw).cell 10, (HX4.out.later hw).cell 11, (HX4.out.later hw).cell 12, (HK4.out.later hw).cell 0, (HK4.out.later hw).cell 1, (HK4.out.later hw).cell 2, (HK4.out.later hw).cell 3, (HA4.out.later hw).cell 0, (HA4.out.later hw).cell 1, (HA4.out.later hw).cell 2, (HA4.out.later hw).cell 3, (HA4.out.later hw).cell 4, (HA4.out.later hw).cell 5, (HA4.out.later hw).cell 6, (HA4.out.later hw).cell 7, (HA4.out.later hw).cell 8, (HA4.out.later hw).cell 9, (HA4.out.later hw).cell 10, (HA4.out.later hw).cell 11, (HA4.out.later hw).cell 12, (HP4.out.later hw).cell 0, (HP4.out.later hw).cell 1, (HP4.out.later hw).cell 2, (HP4.out.later hw).cell 3, (HP4.out.later hw).cell 4, (HP4.out.later hw).cell 5, (HP4.out.later hw).cell 6, (HP4.out.later hw).cell 7, (HP4.out.later hw).cell 8, (HP4.out.later hw).cell 9, (HP4.out.later hw).cell 10, (HP4.out.later hw).cell 11, (HP4.out.later hw).cell 12⟩)
  ((with_reducible refine wpB_move ?_ ?_); exact rfl; simp only [Act.put, List.setIfInBounds_toArray, List.set_cons_zero, List.set_cons_succ])
  ((with_reducible refine wpB_move ?_ ?_); exact rfl; simp only [Act.put, List.setIfInBounds_toArray, List.set_cons_zero, List.set_cons_succ])
  apply wpB_val rfl
  · (intro w' hw'; obtain ⟨c0, c1, c2, c3, c4, c5, c6, c7, c8, c9, c10, c11, c12, c13, c14, c15, c16, c17, c18, c19, c20, c21, c22, c23, c24, c25, c26, c27, c28, c29, c30, c31, c32, c33, c34, c35, c36, c37, c38, c39, c40, c41, c42⟩ := HCC.out w' hw'; go_simp; with_reducible rfl)
  simp only [Act.put, List.setIfInBounds_toArray, List.set_cons_zero, List.set_cons_succ]
  apply wpB_val rfl
  · (intro w' hw'; obtain ⟨c0, c1, c2, c3, c4, c5, c6, c7, c8, c9, c10, c11, c12, c13, c14, c15, c16, c17, c18, c19, c20, c21, c22, c23, c24, c25, c26, c27, c28, c29, c30, c31, c32, c33, c34, c35, c36, c37, c38, c39, c40, c41, c42⟩ := HCC.out w' hw'; go_simp; with_reducible rfl)
  simp only [Act.put, List.setIfInBounds_toArray, List.set_cons_zero, List.set_cons_succ]
  apply wpB_val rfl
  · (intro w' hw'; go_simp; with_reducible rfl)
  simp only [Act.put, List.setIfInBounds_toArray, List.set_cons_zero, List.set_cons_succ]
  apply wpB_val rfl
  · (intro w' hw'; go_simp; with_reducible rfl)
  simp only [Act.put, List.setIfInBounds_toArray, List.set_cons_zero, List.set_cons_succ]
  ((with_reducible refine wpB_move ?_ ?_); exact rfl; simp only [Act.put, List.setIfInBounds_toArray, List.set_cons_zero, List.set_cons_succ])
  ((with_reducible refine wpB_move ?_ ?_); exact rfl; simp only [Act.put, List.setIfInBounds_toArray, List.set_cons_zero, List.set_cons_succ])
  ((with_reducible refine wpB_move ?_ ?_); exact rfl; simp only [Act.put, List.setIfInBounds_toArray, List.set_cons_zero, List.set_cons_succ])
  apply wpB_val rfl
  · (intro w' hw'; go_simp; with_reducible rfl)
  simp only [Act.put, List.setIfInBounds_toArray, List.set_cons_zero, List.set_cons_succ]
  apply wpB_val rfl
  · (intro w' hw'; go_simp; with_reducible rfl)
  simp only [Act.put, List.setIfInBounds_toArray, List.set_cons_zero, List.set_cons_succ]
  ((with_reducible refine wpB_move ?_ ?_); exact rfl; simp only [Act.put, List.setIfInBounds_toArray, List.set_cons_zero, List.set_cons_succ])
  apply wpB_val rfl
  · (intro w' hw'; obtain ⟨c0, c1, c2, c3, c4, c5, c6, c7, c8, c9, c10, c11, c12, c13, c14, c15, c16, c17, c18, c19, c20, c21, c22, c23, c24, c25, c26, c27, c28, c29, c30, c31, c32, c33, c34, c35, c36, c37, c38, c39, c40, c41, c42⟩ := HCC.out w' hw'; go_simp; with_reducible rfl)
  simp only [Act.put, List.setIfInBounds_toArray, List.set_cons_zero, List.set_cons_succ]
  apply wpB_val rfl
  · (intro w' hw'; go_simp; with_reducible rfl)
  simp only [Act.put, List.setIfInBounds_toArray, List.set_cons_zero, List.set_cons_succ]
  apply wpB_val rfl
  · (intro w' hw'; obtain ⟨c0, c1, c2, c3, c4, c5, c6, c7, c8, c9, c10, c11, c12, c13, c14, c15, c16, c17, c18, c19, c20, c21, c22, c23, c24, c25, c26, c27, c28, c29, c30, c31, c32, c33, c34, c35, c36, c37, c38, c39, c40, c41, c42⟩ := HCC.out w' hw'; go_simp; with_reducible rfl)
  simp only [Act.put, List.setIfInBounds_toArray, List.set_cons_zero, List.set_cons_succ]
  apply wpB_call 12 #[recV r, .int .u64 (k.k0 : Nat)] rfl (v := _)
  · (intro w'; go_simp)
  · exact fun w' hw' => K0.out w'
  simp only [Act.put, List.setIfInBounds_toArray, List.set_cons_zero, List.set_cons_succ]
  apply wpB_val rfl
  · (intro w' hw'; obtain ⟨c0, c1, c2, c3, c4, c5, c6, c7, c8, c9, c10, c11, c12, c13, c14, c15, c16, c17, c18, c19, c20, c21, c22, c23, c24, c25, c26, c27, c28, c29, c30, c31, c32, c33, c34, c35, c36, c37, c38, c39, c40, c41, c42⟩ := HCC.out w' hw'; go_simp; with_reducible rfl)
  simp only [Act.put, List.setIfInBounds_toArray, List.set_cons_zero, List.set_cons_succ]
  apply wpB_val rfl
  · (intro w' hw'; go_simp; with_reducible rfl)
  simp only [Act.put, List.setIfInBounds_toArray, List.set_cons_zero, List.set_cons_succ]
  apply wpB_val rfl
  · (intro w' hw'; obtain ⟨c0, c1, c2, c3, c4, c5, c6, c7, c8, c9, c10, c11, c12, c13, c14, c15, c16, c17, c18, c19, c20, c21, c22, c23, c24, c25, c26, c27, c28, c29, c30, c31, c32, c33, c34, c35, c36, c37, c38, c39, c40, c41, c42⟩ := HCC.out w' hw'; go_simp; with_reducible rfl)
  simp only [Act.put, List.setIfInBounds_toArray, List.set_cons_zero, List.set_cons_succ]
  apply wpB_call 13 #[recV r, .int .u64 (k.k0 : Nat)] rfl (v := _)
  · (intro w'; go_simp)
  · exact fun w' hw' => K1.out w'
  simp only [Act.put, List.setIfInBounds_toArray, List.set_cons_zero, List.set_cons_succ]
  apply wpB_val rfl
  · (intro w' hw'; go_simp; with_reducible rfl)
  simp only [Act.put, List.setIfInBounds_toArray, List.set_cons_zero, List.set_cons_succ]
  apply wpB_val rfl
  · (intro w' hw'; go_simp; with_reducible rfl)
  simp only [Act.put, List.setIfInBounds_toArray, List.set_cons_zero, List.set_cons_succ]
  ((with_reducible refine wpB_move ?_ ?_); exact rfl; simp only [Act.put, List.setIfInBounds_toArray, List.set_cons_zero, List.set_cons_succ])
  apply wpB_val rfl
  · (intro w' hw'; obtain ⟨c0, c1, c2, c3, c4, c5, c6, c7, c8, c9, c10, c11, c12, c13, c14, c15, c16, c17, c18, c19, c20, c21, c22, c23, c24, c25, c26, c27, c28, c29, c30, c31, c32, c33, c34, c35, c36, c37, c38, c39, c40, c41, c42⟩ := HCC.out w' hw'; go_simp; with_reducible rfl)
  simp only [Act.put, List.setIfInBounds_toArray, List.set_cons_zero, List.set_cons_succ]
  apply wpB_val rfl
  · (intro w' hw'; obtain ⟨c0, c1, c2, c3, c4, c5, c6, c7, c8, c9, c10, c11, c12, c13, c14, c15, c16, c17, c18, c19, c20, c21, c22, c23, c24, c25, c26, c27, c28, c29, c30, c31, c32, c33, c34, c35, c36, c37, c38, c39, c40, c41, c42⟩ := HCC.out w' hw'; go_simp; with_reducible rfl)
  simp only [Act.put, List.setIfInBounds_toArray, List.set_cons_zero, List.set_cons_succ]
  apply wpB_call 14 #[recV r, keyV k] rfl (v := _)
  · (intro w'; go_simp)
  · exact fun w' hw' => K2.out w'
  simp only [Act.put, List.setIfInBounds_toArray, List.set_cons_zero, List.set_cons_succ]
  apply wpB_val rfl
  · (intro w' hw'; obtain ⟨c0, c1, c2, c3, c4, c5, c6, c7, c8, c9, c10, c11, c12, c13, c14, c15, c16, c17, c18, c19, c20, c21, c22, c23, c24, c25, c26, c27, c28, c29, c30, c31, c32, c33, c34, c35, c36, c37, c38, c39, c40, c41, c42⟩ := HCC.out w' hw'; go_simp; with_reducible rfl)
  simp only [Act.put, List.setIfInBounds_toArray, List.set_cons_zero, List.set_cons_succ]
  apply wpB_val rfl
  · (intro w' hw'; obtain ⟨c0, c1, c2, c3, c4, c5, c6, c7, c8, c9, c10, c11, c12, c13, c14, c15, c16, c17, c18, c19, c20, c21, c22, c23, c24, c25, c26, c27, c28, c29, c30, c31, c32, c33, c34, c35, c36, c37, c38, c39, c40, c41, c42⟩ := HCC.out w' hw'; go_simp; with_reducible rfl)
  simp only [Act.put, List.setIfInBounds_toArray, List.set_cons_zero, List.set_cons_succ]
  apply wpB_call 15 #[recV r, keyV k] rfl (v := _)
  · (intro w'; go_simp)
  · exact fun w' hw' => K3.out w'
  simp only [Act.put, List.setIfInBounds_toArray, List.set_cons_zero, List.set_cons_succ]
  apply wpB_val rfl
  · (intro w' hw'; go_simp; with_reducible rfl)
  simp only [Act.put, List.setIfInBounds_toArray, List.set_cons_zero, List.set_cons_succ]
  apply wpB_val rfl
  · (intro w' hw'; go_simp; with_reducible rfl)
  simp only [Act.put, List.setIfInBounds_toArray, List.set_cons_zero, List.set_cons_succ]
  ((with_reducible refine wpB_move ?_ ?_); exact rfl; simp only [Act.put, List.setIfInBounds_toArray, List.set_cons_zero, List.set_cons_succ])
  apply wpB_val rfl
  · (intro w' hw'; obtain ⟨c0, c1, c2, c3, c4, c5, c6, c7, c8, c9, c10, c11, c12, c13, c14, c15, c16, c17, c18, c19, c20, c21, c22, c23, c24, c25, c26, c27, c28, c29, c30, c31, c32, c33, c34, c35, c36, c37, c38, c39, c40, c41, c42⟩ := HCC.out w' hw'; go_simp; with_reducible rfl)
  simp only [Act.put, List.setIfInBounds_toArray, List.set_cons_zero, List.set_cons_succ]
  apply wpB_val rfl
  · (intro w' hw'; obtain ⟨c0, c1, c2, c3, c4, c5, c6, c7, c8, c9, c10, c11, c12, c13, c14, c15, c16, c17, c18, c19, c20, c21, c22, c23, c24, c25, c26, c27, c28, c29, c30, c31, c32, c33, c34, c35, c36, c37, c38, c39, c40, c41, c42⟩ := HCC.out w' hw'; go_simp; with_reducible rfl)
  simp only [Act.put, List.setIfInBounds_toArray, List.set_cons_zero, List.set_cons_succ]
  apply wpB_call 14 #[recV R, keyV k] rfl (v := _)
  · (intro w'; go_simp)
  · exact fun w' hw' => K4.out w'
  simp only [Act.put, List.setIfInBounds_toArray, List.set_cons_zero, List.set_cons_succ]
  apply wpB_val rfl
  · (intro w' hw'; obtain ⟨c0, c1, c2, c3, c4, c5, c6, c7, c8, c9, c10, c11, c12, c13, c14, c15, c16, c17, c18, c19, c20, c21, c22, c23, c24, c25, c26, c27, c28, c29, c30, c31, c32, c33, c34, c35, c36, c37, c38, c39, c40, c41, c42⟩ := HCC.out w' hw'; go_simp; with_reducible rfl)
  simp only [Act.put, List.setIfInBounds_toArray, List.set_cons_zero, List.set_cons_succ]
  apply wpB_val rfl
  · (intro w' hw'; obtain ⟨c0, c1, c2, c3, c4, c5, c6, c7, c8, c9, c10, c11, c12, c13, c14, c15, c16, c17, c18, c19, c20, c21, c22, c23, c24, c25, c26, c27, c28, c29, c30, c31, c32, c33, c34, c35, c36, c37, c38, c39, c40, c41, c42⟩ := HCC.out w' hw'; go_simp; with_reducible rfl)
  simp only [Act.put, List.setIfInBounds_toArray, List.set_cons_zero, List.set_cons_succ]
  apply wpB_call 15 #[recV R, keyV k] rfl (v := _)
  · (intro w'; go_simp)
  · exact fun w' hw' => K5.out w'
  simp only [Act.put, List.setIfInBounds_toArray, List.set_cons_zero, List.set_cons_succ]
  apply wpB_val rfl
  · (intro w' hw'; go_simp; with_reducible rfl)
  simp only [Act.put, List.setIfInBounds_toArray, List.set_cons_zero, List.set_cons_succ]
  apply wpB_val rfl
  · (intro w' hw'; go_simp; with_reducible rfl)
  simp only [Act.put, List.setIfInBounds_toArray, List.set_cons_zero, List.set_cons_succ]
  refine wpB_nil (HR.out _ (fun w2 hw2 => ?_))
  clear HR HCC
  have HB5 := Lib.hid (below_step HB4.out hw2)
  clear hw2
  go_wp2
  go_ret
  exact ⟨rfl, HB5.out⟩
end Go.Proofs.Ytddbobphmakmmaa
