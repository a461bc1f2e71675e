/- Chapter 41: RecordChanged. -/
import Derived.Test.YtddbobphmakmmaaWh41
namespace Go.Proofs.Ytddbobphmakmmaa
open Go.RowKit
attribute [local go_sem] Oper.semAt_some

set_option maxRecDepth 100000 in
set_option maxHeartbeats 8000000 in
theorem recordChanged_any (r : Rc) (k : K4) (which pl y : Nat) (w : World) (hw : which < 256) (hp : pl < 256) (hy : y < 256) :
    Calls Try.prog 5 #[recV r, keyV k, .int .u8 (which : Nat), .int .u8 (pl : Nat), .int .u8 (y : Nat)] w (Ret (.bool true) w) := by
  have E1 : wrap64 (IntKind.u64.wrap ((y : Int) * 2 ^ (8 * (pl % 8)))) = IntKind.i64.wrap ((dOf pl y : Nat) : Int) := by
    have := dOf_lt (q := pl) hy
    have e : (y : Int) * 2 ^ (8 * (pl % 8)) = ((dOf pl y : Nat) : Int) := by unfold dOf; push_cast; rfl
    rw [e, IntKind.wrap_u64, IntWalk.i64_left]
    congr 1
    omega
  have HE1 := Lib.hid E1
  clear E1
  go_enter Try.func5, Try.ntmps5
  go_wp2_with fail
  refine (head_any _).mono ?_
  rintro e w1 ⟨rfl, hb1⟩
  have HTB := Lib.hid (two_boxes w r k hb1)
  have HX := Lib.hid HTB.out.1
  have HK := Lib.hid HTB.out.2.1
  have HB := Lib.hid HTB.out.2.2
  clear hb1 HTB
  by_cases hy0 : y = 0
  · have hy0' : (y : Int) = 0 := by omega
    go_wp2
    go_ret
    exact ⟨rfl, HB.out⟩
  have hyb : ((y : Int) == 0) = false := by rw [beq_eq_false_iff_ne]; omega
  have zz := HK.out.lt
  obtain ⟨c0, c1, c2, c3, c4, c5, c6, c7, c8⟩ := HX.out.nums
  obtain ⟨c9, c10, c11, c12⟩ := HX.out.signs
  go_wp2_with fail
  clear c0 c1 c2 c3 c4 c5 c6 c7 c8 c9 c10 c11 c12
  have HOF := Lib.hid (chgC_off r (q := which % 9) (p := pl) (y := y) (by omega) hy)
  have HG0 := Lib.hid (chgC_g0 r (q := which % 9) (by omega) (IntKind.i64.wrap ((dOf pl y : Nat) : Int)))
  refine (changed_any r which _ w1 hw).mono ?_
  rintro e w2 ⟨rfl, hb2⟩
  rw [HE1.out]
  obtain ⟨c, hc⟩ : ∃ c, chgC r (which % 9) (IntKind.i64.wrap ((dOf pl y : Nat) : Int)) = c := ⟨_, rfl⟩
  rw [hc] at HOF HG0 ⊢
  clear hc HE1
  have HNE := Lib.hid (fun (z : Nat) (hz : z < 18446744073709551616) => sig_off (by omega) hy hy0 HOF.out hz)
  have HX2 := Lib.hid (HX.out.later hb2)
  have HK2 := Lib.hid (HK.out.later hb2)
  have HB2 := Lib.hid (below_step HB.out hb2)
  clear hb2 HX HK HB HOF zz
  have zz := HK2.out.lt
  obtain ⟨k0, k1, k2, k3⟩ := HK2.out.keys
  go_wp2
  clear k0 k1 k2 k3
  have HC3 := Lib.hid (RcB.new w2 c)
  have HX3 := Lib.hid (HX2.out.later (below_alloc (Below.refl _ _) (.cells #[.int .i64 c.se, .int .i64 c.ch, .int .i64 c.ca, .int .i64 c.ho, .int .i64 c.hs, .int .i64 c.fi, .int .i64 c.la, .int .i64 c.en, .int .i64 c.am, .int .u64 (c.g0 : Nat), .int .u64 (c.g1 : Nat), .int .u64 (c.g2 : Nat), .int .u64 (c.g3 : Nat)] 25)))
  have HK3 := Lib.hid (HK2.out.later (below_alloc (Below.refl _ _) (.cells #[.int .i64 c.se, .int .i64 c.ch, .int .i64 c.ca, .int .i64 c.ho, .int .i64 c.hs, .int .i64 c.fi, .int .i64 c.la, .int .i64 c.en, .int .i64 c.am, .int .u64 (c.g0 : Nat), .int .u64 (c.g1 : Nat), .int .u64 (c.g2 : Nat), .int .u64 (c.g3 : Nat)] 25)))
  have HB3 := Lib.hid (below_alloc HB2.out (.cells #[.int .i64 c.se, .int .i64 c.ch, .int .i64 c.ca, .int .i64 c.ho, .int .i64 c.hs, .int .i64 c.fi, .int .i64 c.la, .int .i64 c.en, .int .i64 c.am, .int .u64 (c.g0 : Nat), .int .u64 (c.g1 : Nat), .int .u64 (c.g2 : Nat), .int .u64 (c.g3 : Nat)] 25))
  obtain ⟨w3, hw3⟩ : ∃ w3, w2.alloc (.cells #[.int .i64 c.se, .int .i64 c.ch, .int .i64 c.ca, .int .i64 c.ho, .int .i64 c.hs, .int .i64 c.fi, .int .i64 c.la, .int .i64 c.en, .int .i64 c.am, .int .u64 (c.g0 : Nat), .int .u64 (c.g1 : Nat), .int .u64 (c.g2 : Nat), .int .u64 (c.g3 : Nat)] 25) = w3 := ⟨_, rfl⟩
  rw [hw3] at HC3 HX3 HK3 HB3 ⊢
  clear hw3 HX2 HK2 HB2
  go_loopw [30] (fun i wr => ∃ n : Nat, n ≤ 4 ∧ i = .int .i64 n ∧ Below w3.heap.size w3 wr) (fun i _ => 4 - (intOf i).toNat)
  case atStart => exact ⟨0, by omega, rfl, Below.refl _ _⟩
  case round =>
    obtain ⟨n, hn, rfl, hb⟩ := hrel
    have HBW := Lib.hid hb
    have HX1 := Lib.hid (HX3.out.later hb)
    have HC1 := Lib.hid (HC3.out.later hb)
    have HK1 := Lib.hid (HK3.out.later hb)
    clear hb
    rcases (by omega : n = 0 ∨ n = 1 ∨ n = 2 ∨ n = 3 ∨ n = 4) with rfl | rfl | rfl | rfl | rfl
    · rw [show ((0 : Nat) : Int) = 0 from rfl]
      have HS1 := Lib.hid (fun w' => rSign_any r k.k0 k.h0 w')
      have HS2 := Lib.hid (fun w' => rSign_any c k.k0 k.h0 w')
      have HN := Lib.hid (HNE.out k.k0 k.h0)
      obtain ⟨S1, hS1⟩ : ∃ S, sig r k.k0 = S := ⟨_, rfl⟩
      obtain ⟨S2, hS2⟩ : ∃ S, sig c k.k0 = S := ⟨_, rfl⟩
      rw [hS1] at HS1 HN
      rw [hS2] at HS2 HN
      clear hS1 hS2
      have hsn : ((S1 : Int) == (S2 : Int)) = false := by rw [beq_eq_false_iff_ne]; have := HN.out; omega
      have hix : ∀ w, (Instr.index 23 (.agg #[.int .u64 (k.k0 : Nat), .int .u64 (k.k1 : Nat), .int .u64 (k.k2 : Nat), .int .u64 (k.k3 : Nat)]) (.int .i64 0)).run Try.prog w = .ok (.int .u64 (k.k0 : Nat)) w := fun _ => by kernel_rfl
      go_wp2_with fail
      clear hix
      refine wp_region_B 7 (fun w'' => Below wr.heap.size wr w'') mixed (by kernel_rfl) (below_closed wr) (Below.refl _ _).drew ?_
      simp only [List.take_succ_cons, List.take_zero, List.drop_succ_cons, List.drop_zero]
      intro KR hR
      have HR := Lib.hid hR
      clear hR
      have HCC := Lib.hid (show ∀ w'', Below wr.heap.size wr w'' → w''.cell? ⟨w.heap.size, 0, none⟩ = some (.int .i64 r.se) ∧ w''.cell? ⟨w.heap.size, 1, none⟩ = some (.int .i64 r.ch) ∧ w''.cell? ⟨w.heap.size, 2, none⟩ = some (.int .i64 r.ca) ∧ w''.cell? ⟨w.heap.size, 3, none⟩ = some (.int .i64 r.ho) ∧ w''.cell? ⟨w.heap.size, 4, none⟩ = some (.int .i64 r.hs) ∧ w''.cell? ⟨w.heap.size, 5, none⟩ = some (.int .i64 r.fi) ∧ w''.cell? ⟨w.heap.size, 6, none⟩ = some (.int .i64 r.la) ∧ w''.cell? ⟨w.heap.size, 7, none⟩ = some (.int .i64 r.en) ∧ w''.cell? ⟨w.heap.size, 8, none⟩ = some (.int .i64 r.am) ∧ w''.cell? ⟨w.heap.size, 9, none⟩ = some (.int .u64 (r.g0 : Nat)) ∧ w''.cell? ⟨w.heap.size, 10, none⟩ = some (.int .u64 (r.g1 : Nat)) ∧ w''.cell? ⟨w.heap.size, 11, none⟩ = some (.int .u64 (r.g2 : Nat)) ∧ w''.cell? ⟨w.heap.size, 12, none⟩ = some (.int .u64 (r.g3 : Nat)) ∧ w''.cell? ⟨w2.heap.size, 0, none⟩ = some (.int .i64 c.se) ∧ w''.cell? ⟨w2.heap.size, 1, none⟩ = some (.int .i64 c.ch) ∧ w''.cell? ⟨w2.heap.size, 2, none⟩ = some (.int .i64 c.ca) ∧ w''.cell? ⟨w2.heap.size, 3, none⟩ = some (.int .i64 c.ho) ∧ w''.cell? ⟨w2.heap.size, 4, none⟩ = some (.int .i64 c.hs) ∧ w''.cell? ⟨w2.heap.size, 5, none⟩ = some (.int .i64 c.fi) ∧ w''.cell? ⟨w2.heap.size, 6, none⟩ = some (.int .i64 c.la) ∧ w''.cell? ⟨w2.heap.size, 7, none⟩ = some (.int .i64 c.en) ∧ w''.cell? ⟨w2.heap.size, 8, none⟩ = some (.int .i64 c.am) ∧ w''.cell? ⟨w2.heap.size, 9, none⟩ = some (.int .u64 (c.g0 : Nat)) ∧ w''.cell? ⟨w2.heap.size, 10, none⟩ = some (.int .u64 (c.g1 : Nat)) ∧ w''.cell? ⟨w2.heap.size, 11, none⟩ = some (.int .u64 (c.g2 : Nat)) ∧ w''.cell? ⟨w2.heap.size, 12, none⟩ = some (.int .u64 (c.g3 : Nat)) from fun w'' hw => ⟨(HX1.out.later hw).cell 0, (HX1.out.later hw).cell 1, (HX1.out.later hw).cell 2, (HX1.out.later hw).cell 3, (HX1.out.later hw).cell 4, (HX1.out.later hw).cell 5, (HX1.out.later hw).cell 6, (HX1.out.later hw).cell 7, (HX1.out.later hw).cell 8, (HX1.out.later hw).cell 9, (HX1.out.later hw).cell 10, (HX1.out.later hw).cell 11, (HX1.out.later hw).cell 12, (HC1.out.later hw).cell 0, (HC1.out.later hw).cell 1, (HC1.out.later hw).cell 2, (HC1.out.later hw).cell 3, (HC1.out.later hw).cell 4, (HC1.out.later hw).cell 5, (HC1.out.later hw).cell 6, (HC1.out.later hw).cell 7, (HC1.out.later hw).cell 8, (HC1.out.later hw).cell 9, (HC1.out.later hw).cell 10, (HC1.out.later hw).cell 11, (HC1.out.later hw).cell 12⟩)
      apply wpB_val rfl
      · (intro w' hw'; obtain ⟨c0, c1, c2, c3, c4, c5, c6, c7, c8, c9, c10, c11, c12, c13, c14, c15, c16, c17, c18, c19, c20, c21, c22, c23, c24, c25⟩ := HCC.out w' hw'; go_simp; with_reducible rfl)
      simp only [Act.put, List.setIfInBounds_toArray, List.set_cons_zero, List.set_cons_succ]
      ((with_reducible refine wpB_move ?_ ?_); exact rfl; simp only [Act.put, List.setIfInBounds_toArray, List.set_cons_zero, List.set_cons_succ])
      apply wpB_call 12 #[recV r, .int .u64 (k.k0 : Nat)] rfl (v := _)
      · (intro w'; go_simp)
      · exact fun w' hw' => HS1.out w'
      simp only [Act.put, List.setIfInBounds_toArray, List.set_cons_zero, List.set_cons_succ]
      apply wpB_val rfl
      · (intro w' hw'; obtain ⟨c0, c1, c2, c3, c4, c5, c6, c7, c8, c9, c10, c11, c12, c13, c14, c15, c16, c17, c18, c19, c20, c21, c22, c23, c24, c25⟩ := HCC.out w' hw'; go_simp; with_reducible rfl)
      simp only [Act.put, List.setIfInBounds_toArray, List.set_cons_zero, List.set_cons_succ]
      ((with_reducible refine wpB_move ?_ ?_); exact rfl; simp only [Act.put, List.setIfInBounds_toArray, List.set_cons_zero, List.set_cons_succ])
      apply wpB_call 12 #[recV c, .int .u64 (k.k0 : Nat)] rfl (v := _)
      · (intro w'; go_simp)
      · exact fun w' hw' => HS2.out w'
      simp only [Act.put, List.setIfInBounds_toArray, List.set_cons_zero, List.set_cons_succ]
      apply wpB_val rfl
      · (intro w' hw'; go_simp; with_reducible rfl)
      simp only [Act.put, List.setIfInBounds_toArray, List.set_cons_zero, List.set_cons_succ]
      refine wpB_nil (HR.out _ (fun w2 hw2 => ?_))
      clear HR HCC
      have HBQ := Lib.hid (below_step HBW.out hw2)
      clear hw2
      go_wp2
      go_roundw
      case rel => exact ⟨1, by omega, rfl, HBQ.out⟩
      case measure => simp [intOf]
    · rw [show ((1 : Nat) : Int) = 1 from rfl]
      have HS1 := Lib.hid (fun w' => rSign_any r k.k1 k.h1 w')
      have HS2 := Lib.hid (fun w' => rSign_any c k.k1 k.h1 w')
      have HN := Lib.hid (HNE.out k.k1 k.h1)
      obtain ⟨S1, hS1⟩ : ∃ S, sig r k.k1 = S := ⟨_, rfl⟩
      obtain ⟨S2, hS2⟩ : ∃ S, sig c k.k1 = S := ⟨_, rfl⟩
      rw [hS1] at HS1 HN
      rw [hS2] at HS2 HN
      clear hS1 hS2
      have hsn : ((S1 : Int) == (S2 : Int)) = false := by rw [beq_eq_false_iff_ne]; have := HN.out; omega
      have hix : ∀ w, (Instr.index 23 (.agg #[.int .u64 (k.k0 : Nat), .int .u64 (k.k1 : Nat), .int .u64 (k.k2 : Nat), .int .u64 (k.k3 : Nat)]) (.int .i64 1)).run Try.prog w = .ok (.int .u64 (k.k1 : Nat)) w := fun _ => by kernel_rfl
      go_wp2_with fail
      clear hix
      refine wp_region_B 7 (fun w'' => Below wr.heap.size wr w'') mixed (by kernel_rfl) (below_closed wr) (Below.refl _ _).drew ?_
      simp only [List.take_succ_cons, List.take_zero, List.drop_succ_cons, List.drop_zero]
      intro KR hR
      have HR := Lib.hid hR
      clear hR
      have HCC := Lib.hid (show ∀ w'', Below wr.heap.size wr w'' → w''.cell? ⟨w.heap.size, 0, none⟩ = some (.int .i64 r.se) ∧ w''.cell? ⟨w.heap.size, 1, none⟩ = some (.int .i64 r.ch) ∧ w''.cell? ⟨w.heap.size, 2, none⟩ = some (.int .i64 r.ca) ∧ w''.cell? ⟨w.heap.size, 3, none⟩ = some (.int .i64 r.ho) ∧ w''.cell? ⟨w.heap.size, 4, none⟩ = some (.int .i64 r.hs) ∧ w''.cell? ⟨w.heap.size, 5, none⟩ = some (.int .i64 r.fi) ∧ w''.cell? ⟨w.heap.size, 6, none⟩ = some (.int .i64 r.la) ∧ w''.cell? ⟨w.heap.size, 7, none⟩ = some (.int .i64 r.en) ∧ w''.cell? ⟨w.heap.size, 8, none⟩ = some (.int .i64 r.am) ∧ w''.cell? ⟨w.heap.size, 9, none⟩ = some (.int .u64 (r.g0 : Nat)) ∧ w''.cell? ⟨w.heap.size, 10, none⟩ = some (.int .u64 (r.g1 : Nat)) ∧ w''.cell? ⟨w.heap.size, 11, none⟩ = some (.int .u64 (r.g2 : Nat)) ∧ w''.cell? ⟨w.heap.size, 12, none⟩ = some (.int .u64 (r.g3 : Nat)) ∧ w''.cell? ⟨w2.heap.size, 0, none⟩ = some (.int .i64 c.se) ∧ w''.cell? ⟨w2.heap.size, 1, none⟩ = some (.int .i64 c.ch) ∧ w''.cell? ⟨w2.heap.size, 2, none⟩ = some (.int .i64 c.ca) ∧ w''.cell? ⟨w2.heap.size, 3, none⟩ = some (.int .i64 c.ho) ∧ w''.cell? ⟨w2.heap.size, 4, none⟩ = some (.int .i64 c.hs) ∧ w''.cell? ⟨w2.heap.size, 5, none⟩ = some (.int .i64 c.fi) ∧ w''.cell? ⟨w2.heap.size, 6, none⟩ = some (.int .i64 c.la) ∧ w''.cell? ⟨w2.heap.size, 7, none⟩ = some (.int .i64 c.en) ∧ w''.cell? ⟨w2.heap.size, 8, none⟩ = some (.int .i64 c.am) ∧ w''.cell? ⟨w2.heap.size, 9, none⟩ = some (.int .u64 (c.g0 : Nat)) ∧ w''.cell? ⟨w2.heap.size, 10, none⟩ = some (.int .u64 (c.g1 : Nat)) ∧ w''.cell? ⟨w2.heap.size, 11, none⟩ = some (.int .u64 (c.g2 : Nat)) ∧ w''.cell? ⟨w2.heap.size, 12, none⟩ = some (.int .u64 (c.g3 : Nat)) from fun w'' hw => ⟨(HX1.out.later hw).cell 0, (HX1.out.later hw).cell 1, (HX1.out.later hw).cell 2, (HX1.out.later hw).cell 3, (HX1.out.later hw).cell 4, (HX1.out.later hw).cell 5, (HX1.out.later hw).cell 6, (HX1.out.later hw).cell 7, (HX1.out.later hw).cell 8, (HX1.out.later hw).cell 9, (HX1.out.later hw).cell 10, (HX1.out.later hw).cell 11, (HX1.out.later hw).cell 12, (HC1.out.later hw).cell 0, (HC1.out.later hw).cell 1, (HC1.out.later hw).cell 2, (HC1.out.later hw).cell 3, (HC1.out.later hw).cell 4, (HC1.out.later hw).cell 5, (HC1.out.later hw).cell 6, (HC1.out.later hw).cell 7, (HC1.out.later hw).cell 8, (HC1.out.later hw).cell 9, (HC1.out.later hw).cell 10, (HC1.out.later hw).cell 11, (HC1.out.later hw).cell 12⟩)
      apply wpB_val rfl
      · (intro w' hw'; obtain ⟨c0, c1, c2, c3, c4, c5, c6, c7, c8, c9, c10, c11, c12, c13, c14, c15, c16, c17, c18, c19, c20, c21, c22, c23, c24, c25⟩ := HCC.out w' hw'; go_simp; with_reducible rfl)
      simp only [Act.put, List.setIfInBounds_toArray, List.set_cons_zero, List.set_cons_succ]
      ((with_reducible refine wpB_move ?_ ?_); exact rfl; simp only [Act.put, List.setIfInBounds_toArray, List.set_cons_zero, List.set_cons_succ])
      apply wpB_call 12 #[recV r, .int .u64 (k.k1 : Nat)] rfl (v := _)
      · (intro w'; go_simp)
      · exact fun w' hw' => HS1.out w'
      simp only [Act.put, List.setIfInBounds_toArray, List.set_cons_zero, List.set_cons_succ]
      apply wpB_val rfl
      · (intro w' hw'; obtain ⟨c0, c1, c2, c3, c4, c5, c6, c7, c8, c9, c10, c11, c12, c13, c14, c15, c16, c17, c18, c19, c20, c21, c22, c23, c24, c25⟩ := HCC.out w' hw'; go_simp; with_reducible rfl)
      simp only [Act.put, List.setIfInBounds_toArray, List.set_cons_zero, List.set_cons_succ]
      ((with_reducible refine wpB_move ?_ ?_); exact rfl; simp only [Act.put, List.setIfInBounds_toArray, List.set_cons_zero, List.set_cons_succ])
      apply wpB_call 12 #[recV c, .int .u64 (k.k1 : Nat)] rfl (v := _)
      · (intro w'; go_simp)
      · exact fun w' hw' => HS2.out w'
      simp only [Act.put, List.setIfInBounds_toArray, List.set_cons_zero, List.set_cons_succ]
      apply wpB_val rfl
      · (intro w' hw'; go_simp; with_reducible rfl)
      simp only [Act.put, List.setIfInBounds_toArray, List.set_cons_zero, List.set_cons_succ]
      refine wpB_nil (HR.out _ (fun w2 hw2 => ?_))
      clear HR HCC
      have HBQ := Lib.hid (below_step HBW.out hw2)
      clear hw2
      go_wp2
      go_roundw
      case rel => exact ⟨2, by omega, rfl, HBQ.out⟩
      case measure => simp [intOf]
    · rw [show ((2 : Nat) : Int) = 2 from rfl]
      have HS1 := Lib.hid (fun w' => rSign_any r k.k2 k.h2 w')
      have HS2 := Lib.hid (fun w' => rSign_any c k.k2 k.h2 w')
      have HN := Lib.hid (HNE.out k.k2 k.h2)
      obtain ⟨S1, hS1⟩ : ∃ S, sig r k.k2 = S := ⟨_, rfl⟩
      obtain ⟨S2, hS2⟩ : ∃ S, sig c k.k2 = S := ⟨_, rfl⟩
      rw [hS1] at HS1 HN
      rw [hS2] at HS2 HN
      clear hS1 hS2
      have hsn : ((S1 : Int) == (S2 : Int)) = false := by rw [beq_eq_false_iff_ne]; have := HN.out; omega
      have hix : ∀ w, (Instr.index 23 (.agg #[.int .u64 (k.k0 : Nat), .int .u64 (k.k1 : Nat), .int .u64 (k.k2 : Nat), .int .u64 (k.k3 : Nat)]) (.int .i64 2)).run Try.prog w = .ok (.int .u64 (k.k2 : Nat)) w := fun _ => by kernel_rfl
      go_wp2_with fail
      clear hix
      refine wp_region_B 7 (fun w'' => Below wr.heap.size wr w'') mixed (by kernel_rfl) (below_closed wr) (Below.refl _ _).drew ?_
      simp only [List.take_succ_cons, List.take_zero, List.drop_succ_cons, List.drop_zero]
      intro KR hR
      have HR := Lib.hid hR
      clear hR
      have HCC := Lib.hid (show ∀ w'', Below wr.heap.size wr w'' → w''.cell? ⟨w.heap.size, 0, none⟩ = some (.int .i64 r.se) ∧ w''.cell? ⟨w.heap.size, 1, none⟩ = some (.int .i64 r.ch) ∧ w''.cell? ⟨w.heap.size, 2, none⟩ = some (.int .i64 r.ca) ∧ w''.cell? ⟨w.heap.size, 3, none⟩ = some (.int .i64 r.ho) ∧ w''.cell? ⟨w.heap.size, 4, none⟩ = some (.int .i64 r.hs) ∧ w''.cell? ⟨w.heap.size, 5, none⟩ = some (.int .i64 r.fi) ∧ w''.cell? ⟨w.heap.size, 6, none⟩ = some (.int .i64 r.la) ∧ w''.cell? ⟨w.heap.size, 7, none⟩ = some (.int .i64 r.en) ∧ w''.cell? ⟨w.heap.size, 8, none⟩ = some (.int .i64 r.am) ∧ w''.cell? ⟨w.heap.size, 9, none⟩ = some (.int .u64 (r.g0 : Nat)) ∧ w''.cell? ⟨w.heap.size, 10, none⟩ = some (.int .u64 (r.g1 : Nat)) ∧ w''.cell? ⟨w.heap.size, 11, none⟩ = some (.int .u64 (r.g2 : Nat)) ∧ w''.cell? ⟨w.heap.size, 12, none⟩ = some (.int .u64 (r.g3 : Nat)) ∧ w''.cell? ⟨w2.heap.size, 0, none⟩ = some (.int .i64 c.se) ∧ w''.cell? ⟨w2.heap.size, 1, none⟩ = some (.int .i64 c.ch) ∧ w''.cell? ⟨w2.heap.size, 2, none⟩ = some (.int .i64 c.ca) ∧ w''.cell? ⟨w2.heap.size, 3, none⟩ = some (.int .i64 c.ho) ∧ w''.cell? ⟨w2.heap.size, 4, none⟩ = some (.int .i64 c.hs) ∧ w''.cell? ⟨w2.heap.size, 5, none⟩ = some (.int .i64 c.fi) ∧ w''.cell? ⟨w2.heap.size, 6, none⟩ = some (.int .i64 c.la) ∧ w''.cell? ⟨w2.heap.size, 7, none⟩ = some (.int .i64 c.en) ∧ w''.cell? ⟨w2.heap.size, 8, none⟩ = some (.int .i64 c.am) ∧ w''.cell? ⟨w2.heap.size, 9, none⟩ = some (.int .u64 (c.g0 : Nat)) ∧ w''.cell? ⟨w2.heap.size, 10, none⟩ = some (.int .u64 (c.g1 : Nat)) ∧ w''.cell? ⟨w2.heap.size, 11, none⟩ = some (.int .u64 (c.g2 : Nat)) ∧ w''.cell? ⟨w2.heap.size, 12, none⟩ = some (.int .u64 (c.g3 : Nat)) from fun w'' hw => ⟨(HX1.out.later hw).cell 0, (HX1.out.later hw).cell 1, (HX1.out.later hw).cell 2, (HX1.out.later hw).cell 3, (HX1.out.later hw).cell 4, (HX1.out.later hw).cell 5, (HX1.out.later hw).cell 6, (HX1.out.later hw).cell 7, (HX1.out.later hw).cell 8, (HX1.out.later hw).cell 9, (HX1.out.later hw).cell 10, (HX1.out.later hw).cell 11, (HX1.out.later hw).cell 12, (HC1.out.later hw).cell 0, (HC1.out.later hw).cell 1, (HC1.out.later hw).cell 2, (HC1.out.later hw).cell 3, (HC1.out.later hw).cell 4, (HC1.out.later hw).cell 5, (HC1.out.later hw).cell 6, (HC1.out.later hw).cell 7, (HC1.out.later hw).cell 8, (HC1.out.later hw).cell 9, (HC1.out.later hw).cell 10, (HC1.out.later hw).cell 11, (HC1.out.later hw).cell 12⟩)
      apply wpB_val rfl
      · (intro w' hw'; obtain ⟨c0, c1, c2, c3, c4, c5, c6, c7, c8, c9, c10, c11, c12, c13, c14, c15, c16, c17, c18, c19, c20, c21, c22, c23, c24, c25⟩ := HCC.out w' hw'; go_simp; with_reducible rfl)
      simp only [Act.put, List.setIfInBounds_toArray, List.set_cons_zero, List.set_cons_succ]
      ((with_reducible refine wpB_move ?_ ?_); exact rfl; simp only [Act.put, List.setIfInBounds_toArray, List.set_cons_zero, List.set_cons_succ])
      apply wpB_call 12 #[recV r, .int .u64 (k.k2 : Nat)] rfl (v := _)
      · (intro w'; go_simp)
      · exact fun w' hw' => HS1.out w'
      simp only [Act.put, List.setIfInBounds_toArray, List.set_cons_zero, List.set_cons_succ]
      apply wpB_val rfl
      · (intro w' hw'; obtain ⟨c0, c1, c2, c3, c4, c5, c6, c7, c8, c9, c10, c11, c12, c13, c14, c15, c16, c17, c18, c19, c20, c21, c22, c23, c24, c25⟩ := HCC.out w' hw'; go_simp; with_reducible rfl)
      simp only [Act.put, List.setIfInBounds_toArray, List.set_cons_zero, List.set_cons_succ]
      ((with_reducible refine wpB_move ?_ ?_); exact rfl; simp only [Act.put, List.setIfInBounds_toArray, List.set_cons_zero, List.set_cons_succ])
      apply wpB_call 12 #[recV c, .int .u64 (k.k2 : Nat)] rfl (v := _)
      · (intro w'; go_simp)
      · exact fun w' hw' => HS2.out w'
      simp only [Act.put, List.setIfInBounds_toArray, List.set_cons_zero, List.set_cons_succ]
      apply wpB_val rfl
      · (intro w' hw'; go_simp; with_reducible rfl)
      simp only [Act.put, List.setIfInBounds_toArray, List.set_cons_zero, List.set_cons_succ]
      refine wpB_nil (HR.out _ (fun w2 hw2 => ?_))
      clear HR HCC
      have HBQ := Lib.hid (below_step HBW.out hw2)
      clear hw2
      go_wp2
      go_roundw
      case rel => exact ⟨3, by omega, rfl, HBQ.out⟩
      case measure => simp [intOf]
    · rw [show ((3 : Nat) : Int) = 3 from rfl]
      have HS1 := Lib.hid (fun w' => rSign_any r k.k3 k.h3 w')
      have HS2 := Lib.hid (fun w' => rSign_any c k.k3 k.h3 w')
      have HN := Lib.hid (HNE.out k.k3 k.h3)
      obtain ⟨S1, hS1⟩ : ∃ S, sig r k.k3 = S := ⟨_, rfl⟩
      obtain ⟨S2, hS2⟩ : ∃ S, sig c k.k3 = S := ⟨_, rfl⟩
      rw [hS1] at HS1 HN
      rw [hS2] at HS2 HN
      clear hS1 hS2
      have hsn : ((S1 : Int) == (S2 : Int)) = false := by rw [beq_eq_false_iff_ne]; have := HN.out; omega
      have hix : ∀ w, (Instr.index 23 (.agg #[.int .u64 (k.k0 : Nat), .int .u64 (k.k1 : Nat), .int .u64 (k.k2 : Nat), .int .u64 (k.k3 : Nat)]) (.int .i64 3)).run Try.prog w = .ok (.int .u64 (k.k3 : Nat)) w := fun _ => by kernel_rfl
      go_wp2_with fail
      clear hix
      refine wp_region_B 7 (fun w'' => Below wr.heap.size wr w'') mixed (by kernel_rfl) (below_closed wr) (Below.refl _ _).drew ?_
      simp only [List.take_succ_cons, List.take_zero, List.drop_succ_cons, List.drop_zero]
      intro KR hR
      have HR := Lib.hid hR
      clear hR
      have HCC := Lib.hid (show ∀ w'', Below wr.heap.size wr w'' → w''.cell? ⟨w.heap.size, 0, none⟩ = some (.int .i64 r.se) ∧ w''.cell? ⟨w.heap.size, 1, none⟩ = some (.int .i64 r.ch) ∧ w''.cell? ⟨w.heap.size, 2, none⟩ = some (.int .i64 r.ca) ∧ w''.cell? ⟨w.heap.size, 3, none⟩ = some (.int .i64 r.ho) ∧ w''.cell? ⟨w.heap.size, 4, none⟩ = some (.int .i64 r.hs) ∧ w''.cell? ⟨w.heap.size, 5, none⟩ = some (.int .i64 r.fi) ∧ w''.cell? ⟨w.heap.size, 6, none⟩ = some (.int .i64 r.la) ∧ w''.cell? ⟨w.heap.size, 7, none⟩ = some (.int .i64 r.en) ∧ w''.cell? ⟨w.heap.size, 8, none⟩ = some (.int .i64 r.am) ∧ w''.cell? ⟨w.heap.size, 9, none⟩ = some (.int .u64 (r.g0 : Nat)) ∧ w''.cell? ⟨w.heap.size, 10, none⟩ = some (.int .u64 (r.g1 : Nat)) ∧ w''.cell? ⟨w.heap.size, 11, none⟩ = some (.int .u64 (r.g2 : Nat)) ∧ w''.cell? ⟨w.heap.size, 12, none⟩ = some (.int .u64 (r.g3 : Nat)) ∧ w''.cell? ⟨w2.heap.size, 0, none⟩ = some (.int .i64 c.se) ∧ w''.cell? ⟨w2.heap.size, 1, none⟩ = some (.int .i64 c.ch) ∧ w''.cell? ⟨w2.heap.size, 2, none⟩ = some (.int .i64 c.ca) ∧ w''.cell? ⟨w2.heap.size, 3, none⟩ = some (.int .i64 c.ho) ∧ w''.cell? ⟨w2.heap.size, 4, none⟩ = some (.int .i64 c.hs) ∧ w''.cell? ⟨w2.heap.size, 5, none⟩ = some (.int .i64 c.fi) ∧ w''.cell? ⟨w2.heap.size, 6, none⟩ = some (.int .i64 c.la) ∧ w''.cell? ⟨w2.heap.size, 7, none⟩ = some (.int .i64 c.en) ∧ w''.cell? ⟨w2.heap.size, 8, none⟩ = some (.int .i64 c.am) ∧ w''.cell? ⟨w2.heap.size, 9, none⟩ = some (.int .u64 (c.g0 : Nat)) ∧ w''.cell? ⟨w2.heap.size, 10, none⟩ = some (.int .u64 (c.g1 : Nat)) ∧ w''.cell? ⟨w2.heap.size, 11, none⟩ = some (.int .u64 (c.g2 : Nat)) ∧ w''.cell? ⟨w2.heap.size, 12, none⟩ = some (.int .u64 (c.g3 : Nat)) from fun w'' hw => ⟨(HX1.out.later hw).cell 0, (HX1.out.later hw).cell 1, (HX1.out.later hw).cell 2, (HX1.out.later hw).cell 3, (HX1.out.later hw).cell 4, (HX1.out.later hw).cell 5, (HX1.out.later hw).cell 6, (HX1.out.later hw).cell 7, (HX1.out.later hw).cell 8, (HX1.out.later hw).cell 9, (HX1.out.later hw).cell 10, (HX1.out.later hw).cell 11, (HX1.out.later hw).cell 12, (HC1.out.later hw).cell 0, (HC1.out.later hw).cell 1, (HC1.out.later hw).cell 2, (HC1.out.later hw).cell 3, (HC1.out.later hw).cell 4, (HC1.out.later hw).cell 5, (HC1.out.later hw).cell 6, (HC1.out.later hw).cell 7, (HC1.out.later hw).cell 8, (HC1.out.later hw).cell 9, (HC1.out.later hw).cell 10, (HC1.out.later hw).cell 11, (HC1.out.later hw).cell 12⟩)
      apply wpB_val rfl
      · (intro w' hw'; obtain ⟨c0, c1, c2, c3, c4, c5, c6, c7, c8, c9, c10, c11, c12, c13, c14, c15, c16, c17, c18, c19, c20, c21, c22, c23, c24, c25⟩ := HCC.out w' hw'; go_simp; with_reducible rfl)
      simp only [Act.put, List.setIfInBounds_toArray, List.set_cons_zero, List.set_cons_succ]
      ((with_reducible refine wpB_move ?_ ?_); exact rfl; simp only [Act.put, List.setIfInBounds_toArray, List.set_cons_zero, List.set_cons_succ])
      apply wpB_call 12 #[recV r, .int .u64 (k.k3 : Nat)] rfl (v := _)
      · (intro w'; go_simp)
      · exact fun w' hw' => HS1.out w'
      simp only [Act.put, List.setIfInBounds_toArray, List.set_cons_zero, List.set_cons_succ]
      apply wpB_val rfl
      · (intro w' hw'; obtain ⟨c0, c1, c2, c3, c4, c5, c6, c7, c8, c9, c10, c11, c12, c13, c14, c15, c16, c17, c18, c19, c20, c21, c22, c23, c24, c25⟩ := HCC.out w' hw'; go_simp; with_reducible rfl)
      simp only [Act.put, List.setIfInBounds_toArray, List.set_cons_zero, List.set_cons_succ]
      ((with_reducible refine wpB_move ?_ ?_); exact rfl; simp only [Act.put, List.setIfInBounds_toArray, List.set_cons_zero, List.set_cons_succ])
      apply wpB_call 12 #[recV c, .int .u64 (k.k3 : Nat)] rfl (v := _)
      · (intro w'; go_simp)
      · exact fun w' hw' => HS2.out w'
      simp only [Act.put, List.setIfInBounds_toArray, List.set_cons_zero, List.set_cons_succ]
      apply wpB_val rfl
      · (intro w' hw'; go_simp; with_reducible rfl)
      simp only [Act.put, List.setIfInBounds_toArray, List.set_cons_zero, List.set_cons_succ]
      refine wpB_nil (HR.out _ (fun w2 hw2 => ?_))
      clear HR HCC
      have HBQ := Lib.hid (below_step HBW.out hw2)
      clear hw2
      go_wp2
      go_roundw
      case rel => exact ⟨4, by omega, rfl, HBQ.out⟩
      case measure => simp [intOf]
    · rw [show ((4 : Nat) : Int) = 4 from rfl]
      obtain ⟨c0, c1, c2, c3, c4, c5, c6, c7, c8⟩ := HX1.out.nums
      obtain ⟨c9, c10, c11, c12⟩ := HX1.out.signs
      obtain ⟨k0, k1, k2, k3⟩ := HK1.out.keys
      go_wp2_with fail
      clear c0 c1 c2 c3 c4 c5 c6 c7 c8 c9 c10 c11 c12 k0 k1 k2 k3
      refine (rCheck_any r k wr).mono ?_
      rintro e w5 ⟨rfl, hb5⟩
      have HX5 := Lib.hid (HC1.out.later hb5)
      have HK5 := Lib.hid (HK1.out.later hb5)
      have HB5 := Lib.hid (below_step HB3.out (below_step HBW.out hb5))
      clear hb5
      by_cases hck : chkC r k = -1
      · have HZ := Lib.hid (chkC_off hck HG0.out (HNE.out k.k0 k.h0))
        rw [hck]
        clear hck
        obtain ⟨c0, c1, c2, c3, c4, c5, c6, c7, c8⟩ := HX5.out.nums
        obtain ⟨c9, c10, c11, c12⟩ := HX5.out.signs
        obtain ⟨k0, k1, k2, k3⟩ := HK5.out.keys
        go_wp2_with fail
        clear c0 c1 c2 c3 c4 c5 c6 c7 c8 c9 c10 c11 c12 k0 k1 k2 k3
        refine (rCheck_any c k w5).mono ?_
        rintro e w6 ⟨rfl, hb6⟩
        have HB6 := Lib.hid (below_step HB5.out hb6)
        clear hb6
        rw [HZ.out]
        go_wp2
        go_ret
        exact ⟨rfl, HB6.out⟩
      · have hcb : (chkC r k == -1) = false := by simpa using hck
        have hcb2 : (chkC r k != -1) = true := by rw [bne, hcb]; rfl
        obtain ⟨C, hC⟩ : ∃ C, chkC r k = C := ⟨_, rfl⟩
        rw [hC] at hcb hcb2 ⊢
        clear hC hck
        go_wp2
        go_ret
        exact ⟨rfl, HB5.out⟩
end Go.Proofs.Ytddbobphmakmmaa
