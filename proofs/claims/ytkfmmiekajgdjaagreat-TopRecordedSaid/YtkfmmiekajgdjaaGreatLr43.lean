/- TopRecorded: the law's walk. -/
import Derived.Test.YtkfmmiekajgdjaaGreatHd43
import Derived.Test.YtkfmmiekajgdjaaGreatFx43
import Derived.Test.YtkfmmiekajgdjaaGreatAt43
import Derived.Test.YtkfmmiekajgdjaaGreatPr43
namespace Go.Proofs.YtkfmmiekajgdjaaGreat
open Go.RowKit
attribute [local go_sem] Oper.semAt_some

theorem am_ok {x : Rc} (h : validC x = true) : (0 ≤ x.ho ∧ x.ho ≤ 7) ∧ (0 ≤ x.hs ∧ x.hs ≤ 7) ∧ (0 ≤ x.am ∧ x.am ≤ 1000000000) := by
  unfold validC at h
  simp only [decide_eq_true_eq] at h
  omega
set_option maxRecDepth 100000 in
set_option maxHeartbeats 16000000 in
theorem topRecorded_any (w : World) (c : ClA) (r : Rc) (k : K4) (hs : c.seed < 18446744073709551616) (hA : Arts w c.oa c.arts) (hT : Twos w c.oc c.chg) (hI : Ints w c.oh c.hol) (hR : Rds w c.od c.rds) (hS : Twos w c.s.o c.s.l) (hL : Twos w c.b.o c.b.l) : Calls Tryz.prog 5 #[.agg (clL c).toArray, .agg #[.int .i64 r.se, .int .i64 r.ch, .int .i64 r.ca, .int .i64 r.ho, .int .i64 r.hs, .int .i64 r.fi, .int .i64 r.la, .int .i64 r.en, .int .i64 r.am, .int .u64 (r.g0 : Nat), .int .u64 (r.g1 : Nat), .int .u64 (r.g2 : Nat), .int .u64 (r.g3 : Nat)], .agg #[.int .u64 (k.k0 : Nat), .int .u64 (k.k1 : Nat), .int .u64 (k.k2 : Nat), .int .u64 (k.k3 : Nat)]] w (Ret (.bool true) w) := by
  have HCM := Lib.hid (show FewC c → ClM w c from fun h => ⟨hA, hT, hI, hR, hS, hL, hs, by have := h.1.1; omega, by have := h.1.2.1; omega, by have := h.1.2.2.1; omega, by have := h.1.2.2.2.1; omega, by have := h.2.1; omega, by have := h.1.2.2.2.2; omega, by have := h.2.2; omega⟩)
  clear hA hT hI hR hS hL
  go_enter Tryz.func5, Tryz.ntmps5
  go_upto_region 1 with (fail)
  obtain ⟨wa, hwa⟩ : ∃ W, W = w.alloc (.cells (clL c).toArray 41) := ⟨_, rfl⟩
  obtain ⟨wb, hwb⟩ : ∃ W, W = wa.alloc (.cells #[.int .i64 r.se, .int .i64 r.ch, .int .i64 r.ca, .int .i64 r.ho, .int .i64 r.hs, .int .i64 r.fi, .int .i64 r.la, .int .i64 r.en, .int .i64 r.am, .int .u64 (r.g0 : Nat), .int .u64 (r.g1 : Nat), .int .u64 (r.g2 : Nat), .int .u64 (r.g3 : Nat)] 62) := ⟨_, rfl⟩
  obtain ⟨W1, hW1⟩ : ∃ W, W = wb.alloc (.cells #[.int .u64 (k.k0 : Nat), .int .u64 (k.k1 : Nat), .int .u64 (k.k2 : Nat), .int .u64 (k.k3 : Nat)] 60) := ⟨_, rfl⟩
  have hsa : wa.heap.size = w.heap.size + 1 := by rw [hwa, World.size_alloc]
  have hsb : wb.heap.size = w.heap.size + 1 + 1 := by rw [hwb, World.size_alloc, hsa]
  have HQ := Lib.hid (show Blk W1 w.heap.size 41 (clL c).toArray by rw [hW1, hwb]; refine Blk.alloc (Blk.alloc ?_ _) _; rw [hwa]; exact Blk.new _ _ _)
  have HP := Lib.hid (show Blk W1 (w.heap.size + 1) 62 #[.int .i64 r.se, .int .i64 r.ch, .int .i64 r.ca, .int .i64 r.ho, .int .i64 r.hs, .int .i64 r.fi, .int .i64 r.la, .int .i64 r.en, .int .i64 r.am, .int .u64 (r.g0 : Nat), .int .u64 (r.g1 : Nat), .int .u64 (r.g2 : Nat), .int .u64 (r.g3 : Nat)] by rw [hW1]; refine Blk.alloc ?_ _; rw [hwb, ← hsa]; exact Blk.new _ _ _)
  have HK := Lib.hid (show Blk W1 (w.heap.size + 1 + 1) 60 #[.int .u64 (k.k0 : Nat), .int .u64 (k.k1 : Nat), .int .u64 (k.k2 : Nat), .int .u64 (k.k3 : Nat)] by rw [hW1, ← hsb]; exact Blk.new _ _ _)
  have HB := Lib.hid (show Below w.heap.size w W1 by rw [hW1, hwb, hwa]; exact below_alloc (below_alloc (below_alloc (Below.refl _ _) _) _) _)
  have hS1 : W1 = ((w.alloc (.cells (clL c).toArray 41)).alloc (.cells #[.int .i64 r.se, .int .i64 r.ch, .int .i64 r.ca, .int .i64 r.ho, .int .i64 r.hs, .int .i64 r.fi, .int .i64 r.la, .int .i64 r.en, .int .i64 r.am, .int .u64 (r.g0 : Nat), .int .u64 (r.g1 : Nat), .int .u64 (r.g2 : Nat), .int .u64 (r.g3 : Nat)] 62)).alloc (.cells #[.int .u64 (k.k0 : Nat), .int .u64 (k.k1 : Nat), .int .u64 (k.k2 : Nat), .int .u64 (k.k3 : Nat)] 60) := by rw [hW1, hwb, hwa]
  rw [← hS1]
  clear hS1 hW1 hwb hwa hsa hsb
  go_wp2_with fail
  refine (head_any W1).mono ?_
  rintro _ W2 ⟨rfl, hb⟩
  replace HB := Lib.hid (below_step HB.out hb)
  replace HQ := Lib.hid (HQ.out.later hb)
  replace HP := Lib.hid (HP.out.later hb)
  replace HK := Lib.hid (HK.out.later hb)
  clear hb
  have q0 : W2.cell? ⟨w.heap.size, 0, none⟩ = some (.string c.nm) := HQ.out.cell 0
  have q1 : W2.cell? ⟨w.heap.size, 1, none⟩ = some (.slice c.oa c.arts.length c.ca) := HQ.out.cell 1
  have q2 : W2.cell? ⟨w.heap.size, 2, none⟩ = some (.int .i64 c.off) := HQ.out.cell 2
  have q3 : W2.cell? ⟨w.heap.size, 3, none⟩ = some (.slice c.oc c.chg.length c.cc) := HQ.out.cell 3
  have q4 : W2.cell? ⟨w.heap.size, 4, none⟩ = some (.slice c.oh c.hol.length c.ch) := HQ.out.cell 4
  have q5 : W2.cell? ⟨w.heap.size, 5, none⟩ = some (.slice c.od c.rds.length c.cd) := HQ.out.cell 5
  have q6 : W2.cell? ⟨w.heap.size, 6, none⟩ = some (.int .u64 (c.seed : Nat)) := HQ.out.cell 6
  have q7 : W2.cell? ⟨w.heap.size, 7, none⟩ = some (.int .i64 c.s.f) := HQ.out.cell 7
  have q8 : W2.cell? ⟨w.heap.size, 8, none⟩ = some (.int .i64 c.s.t) := HQ.out.cell 8
  have q9 : W2.cell? ⟨w.heap.size, 9, none⟩ = some (.int .i64 c.s.e) := HQ.out.cell 9
  have q10 : W2.cell? ⟨w.heap.size, 10, none⟩ = some (.slice c.s.o c.s.l.length c.s.cap) := HQ.out.cell 10
  have q11 : W2.cell? ⟨w.heap.size, 11, none⟩ = some (.slice c.b.o c.b.l.length c.b.cap) := HQ.out.cell 11
  have q12 : W2.cell? ⟨w.heap.size, 12, none⟩ = some (.int .i64 c.b.net) := HQ.out.cell 12
  have q13 : W2.cell? ⟨w.heap.size, 13, none⟩ = some (.int .i64 c.b.tax) := HQ.out.cell 13
  have q14 : W2.cell? ⟨w.heap.size, 14, none⟩ = some (.int .i64 c.b.tot) := HQ.out.cell 14
  have HFW := Lib.hid (few43_any c W2)
  go_wp2_with fail
  refine HFW.out.mono ?_
  rintro _ W3 ⟨⟨b, rfl, hfew⟩, hb⟩
  replace HB := Lib.hid (below_step HB.out hb)
  replace HQ := Lib.hid (HQ.out.later hb)
  replace HP := Lib.hid (HP.out.later hb)
  replace HK := Lib.hid (HK.out.later hb)
  clear hb HFW q0 q1 q2 q3 q4 q5 q6 q7 q8 q9 q10 q11 q12 q13 q14
  cases b with
  | false =>
    go_wp2
    go_ret
    exact ⟨rfl, HB.out⟩
  | true =>
  have HCL := Lib.hid (HCM.out (hfew rfl))
  clear hfew HCM
  have q0 : W3.cell? ⟨w.heap.size, 0, none⟩ = some (.string c.nm) := HQ.out.cell 0
  have q1 : W3.cell? ⟨w.heap.size, 1, none⟩ = some (.slice c.oa c.arts.length c.ca) := HQ.out.cell 1
  have q2 : W3.cell? ⟨w.heap.size, 2, none⟩ = some (.int .i64 c.off) := HQ.out.cell 2
  have q3 : W3.cell? ⟨w.heap.size, 3, none⟩ = some (.slice c.oc c.chg.length c.cc) := HQ.out.cell 3
  have q4 : W3.cell? ⟨w.heap.size, 4, none⟩ = some (.slice c.oh c.hol.length c.ch) := HQ.out.cell 4
  have q5 : W3.cell? ⟨w.heap.size, 5, none⟩ = some (.slice c.od c.rds.length c.cd) := HQ.out.cell 5
  have q6 : W3.cell? ⟨w.heap.size, 6, none⟩ = some (.int .u64 (c.seed : Nat)) := HQ.out.cell 6
  have q7 : W3.cell? ⟨w.heap.size, 7, none⟩ = some (.int .i64 c.s.f) := HQ.out.cell 7
  have q8 : W3.cell? ⟨w.heap.size, 8, none⟩ = some (.int .i64 c.s.t) := HQ.out.cell 8
  have q9 : W3.cell? ⟨w.heap.size, 9, none⟩ = some (.int .i64 c.s.e) := HQ.out.cell 9
  have q10 : W3.cell? ⟨w.heap.size, 10, none⟩ = some (.slice c.s.o c.s.l.length c.s.cap) := HQ.out.cell 10
  have q11 : W3.cell? ⟨w.heap.size, 11, none⟩ = some (.slice c.b.o c.b.l.length c.b.cap) := HQ.out.cell 11
  have q12 : W3.cell? ⟨w.heap.size, 12, none⟩ = some (.int .i64 c.b.net) := HQ.out.cell 12
  have q13 : W3.cell? ⟨w.heap.size, 13, none⟩ = some (.int .i64 c.b.tax) := HQ.out.cell 13
  have q14 : W3.cell? ⟨w.heap.size, 14, none⟩ = some (.int .i64 c.b.tot) := HQ.out.cell 14
  have HV := Lib.hid (verify_any c W3 (HCL.out.later HB.out))
  go_wp2_with fail
  refine HV.out.mono ?_
  rintro _ W4 ⟨rfl, hb⟩
  replace HB := Lib.hid (below_step HB.out hb)
  replace HQ := Lib.hid (HQ.out.later hb)
  replace HP := Lib.hid (HP.out.later hb)
  replace HK := Lib.hid (HK.out.later hb)
  clear hb HV q0 q1 q2 q3 q4 q5 q6 q7 q8 q9 q10 q11 q12 q13 q14
  by_cases hv : verA c = 0
  rotate_left
  · have hvb : (verA c != 0) = true := by simpa using hv
    go_wp2
    go_ret
    exact ⟨rfl, HB.out⟩
  have HVF := Lib.hid (ver_facts hv)
  rw [hv]
  clear hv
  have HJ := Lib.hid (show W4.cell? ⟨w.heap.size, 5, none⟩ = some (.slice c.od c.rds.length c.cd) ∧ W4.cell? ⟨w.heap.size, 7, none⟩ = some (.int .i64 c.s.f) ∧ W4.cell? ⟨w.heap.size, 14, none⟩ = some (.int .i64 c.b.tot) from ⟨HQ.out.cell 5, HQ.out.cell 7, HQ.out.cell 14⟩)
  go_upto_region 4 with (fail)
  refine wp_region_mask [5, 13, 15, 17] [true, true, true, true, true, false, true, true, true, true, true, true, true, false, true, false, true, false] (fun w'' => w''.cell? ⟨w.heap.size, 5, none⟩ = some (.slice c.od c.rds.length c.cd) ∧ w''.cell? ⟨w.heap.size, 7, none⟩ = some (.int .i64 c.s.f) ∧ w''.cell? ⟨w.heap.size, 14, none⟩ = some (.int .i64 c.b.tot)) mixed (by kernel_rfl) ?_
  intro KR hR
  have HR := Lib.hid hR
  clear hR
  simp only [marked]
  apply wpM_val rfl
  · (intro w' hw'; go_simp; with_reducible rfl)
  simp only [Act.put, List.setIfInBounds_toArray, List.set_cons_zero, List.set_cons_succ]
  apply wpM_val rfl
  · (intro w' hw'; obtain ⟨c0, c1, c2⟩ := hw'; go_simp; with_reducible rfl)
  simp only [Act.put, List.setIfInBounds_toArray, List.set_cons_zero, List.set_cons_succ]
  apply wpM_val rfl
  · (intro w' hw'; go_simp; with_reducible rfl)
  simp only [Act.put, List.setIfInBounds_toArray, List.set_cons_zero, List.set_cons_succ]
  apply wpM_val rfl
  · (intro w' hw'; go_simp; with_reducible rfl)
  simp only [Act.put, List.setIfInBounds_toArray, List.set_cons_zero, List.set_cons_succ]
  apply wpM_val rfl
  · (intro w' hw'; obtain ⟨c0, c1, c2⟩ := hw'; go_simp; with_reducible rfl)
  simp only [Act.put, List.setIfInBounds_toArray, List.set_cons_zero, List.set_cons_succ]
  apply wpM_val rfl
  · (intro w' hw'; go_simp; with_reducible rfl)
  simp only [Act.put, List.setIfInBounds_toArray, List.set_cons_zero, List.set_cons_succ]
  apply wpM_val rfl
  · (intro w' hw'; obtain ⟨c0, c1, c2⟩ := hw'; go_simp; with_reducible rfl)
  simp only [Act.put, List.setIfInBounds_toArray, List.set_cons_zero, List.set_cons_succ]
  apply wpM_val rfl
  · (intro w' hw'; go_simp; with_reducible rfl)
  simp only [Act.put, List.setIfInBounds_toArray, List.set_cons_zero, List.set_cons_succ]
  apply wpM_val rfl
  · (intro w' hw'; go_simp; with_reducible rfl)
  simp only [Act.put, List.setIfInBounds_toArray, List.set_cons_zero, List.set_cons_succ]
  apply wpM_val rfl
  · (intro w' hw'; go_simp; with_reducible rfl)
  simp only [Act.put, List.setIfInBounds_toArray, List.set_cons_zero, List.set_cons_succ]
  apply wpM_val rfl
  · (intro w' hw'; obtain ⟨c0, c1, c2⟩ := hw'; go_simp; with_reducible rfl)
  simp only [Act.put, List.setIfInBounds_toArray, List.set_cons_zero, List.set_cons_succ]
  apply wpM_val rfl
  · (intro w' hw'; go_simp; with_reducible rfl)
  simp only [Act.put, List.setIfInBounds_toArray, List.set_cons_zero, List.set_cons_succ]
  apply wpM_val rfl
  · (intro w' hw'; go_simp; with_reducible rfl)
  simp only [Act.put, List.setIfInBounds_toArray, List.set_cons_zero, List.set_cons_succ]
  apply wpM_val rfl
  · (intro w' hw'; go_simp; with_reducible rfl)
  simp only [Act.put, List.setIfInBounds_toArray, List.set_cons_zero, List.set_cons_succ]
  refine wpM_nil (HR.out _ ?_)
  clear HR
  obtain ⟨W5, hW5⟩ : ∃ W, W = W4.drew := ⟨_, rfl⟩
  have HD := Lib.hid (show Below W4.heap.size W4 W5 by rw [hW5]; exact (Below.refl _ _).drew)
  rw [← hW5]
  clear hW5
  have HJ5 := Lib.hid (show W5.cell? ⟨w.heap.size, 5, none⟩ = some (.slice c.od c.rds.length c.cd) ∧ W5.cell? ⟨w.heap.size, 7, none⟩ = some (.int .i64 c.s.f) ∧ W5.cell? ⟨w.heap.size, 14, none⟩ = some (.int .i64 c.b.tot) from ⟨cell_kept HD.out HJ.out.1, cell_kept HD.out HJ.out.2.1, cell_kept HD.out HJ.out.2.2⟩)
  have HB5 := Lib.hid (below_step HB.out HD.out)
  have HAT := Lib.hid (At_any c.od c.cd c.rds c.s.f W5 (HCL.out.later HB5.out).rds (by have := HVF.out.len; omega))
  refine wpC_call (f := 14) (args := #[.slice c.od c.rds.length c.cd, .int .i64 c.s.f]) (w' := W5) rfl rfl HJ5.out (by go_simp) ?_
  refine HAT.out.mono ?_
  rintro e W6 ⟨rfl, hb⟩
  refine ⟨_, rfl, ?_⟩
  simp only [Act.put, List.setIfInBounds_toArray]
  have HJ6 := Lib.hid (show W6.cell? ⟨w.heap.size, 5, none⟩ = some (.slice c.od c.rds.length c.cd) ∧ W6.cell? ⟨w.heap.size, 7, none⟩ = some (.int .i64 c.s.f) ∧ W6.cell? ⟨w.heap.size, 14, none⟩ = some (.int .i64 c.b.tot) from ⟨cell_kept hb HJ5.out.1, cell_kept hb HJ5.out.2.1, cell_kept hb HJ5.out.2.2⟩)
  have HB6 := Lib.hid (below_step HB5.out hb)
  have HD6 := Lib.hid (below_step HD.out hb)
  have HQ6 := Lib.hid (HQ.out.later HD6.out)
  have HP6 := Lib.hid (HP.out.later HD6.out)
  have HK6 := Lib.hid (HK.out.later HD6.out)
  clear hb HJ HJ5 HAT HB5 HD HQ HP HK HB HD6
  have HRO := Lib.hid (show recOf c r = { r with fi := ((atN c.rds c.s.f c.rds.length : Nat) : Int), la := (c.rds.length : Int), am := c.b.tot } from rfl)
  obtain ⟨A, hA⟩ : ∃ A, atN c.rds c.s.f c.rds.length = A := ⟨_, rfl⟩
  rw [hA] at HRO ⊢
  clear hA
  have hne : ¬ w.heap.size = w.heap.size + 1 := by omega
  have f0 := HP6.out.frozen 5
  have g0 : W6.cell? ⟨w.heap.size + 1, 5, none⟩ = some (.int .i64 r.fi) := HP6.out.cell 5
  refine wpC_skipN rfl rfl rfl HJ6.out (w' := W6.setCell ⟨w.heap.size + 1, 5, none⟩ (.int .i64 (A : Nat))) (by go_simp) ?_
  obtain ⟨W7, hX⟩ : ∃ W, W = W6.setCell ⟨w.heap.size + 1, 5, none⟩ (.int .i64 (A : Nat)) := ⟨_, rfl⟩
  have HP7 := Lib.hid (show Blk W7 (w.heap.size + 1) 62 #[.int .i64 r.se, .int .i64 r.ch, .int .i64 r.ca, .int .i64 r.ho, .int .i64 r.hs, .int .i64 (A : Nat), .int .i64 r.la, .int .i64 r.en, .int .i64 r.am, .int .u64 (r.g0 : Nat), .int .u64 (r.g1 : Nat), .int .u64 (r.g2 : Nat), .int .u64 (r.g3 : Nat)] by rw [hX]; exact HP6.out.set 5 _)
  have HQ7 := Lib.hid (show Blk W7 w.heap.size 41 (clL c).toArray by rw [hX]; exact HQ6.out.other (p := ⟨w.heap.size + 1, 5, none⟩) (by simp) _)
  have HK7 := Lib.hid (show Blk W7 (w.heap.size + 1 + 1) 60 #[.int .u64 (k.k0 : Nat), .int .u64 (k.k1 : Nat), .int .u64 (k.k2 : Nat), .int .u64 (k.k3 : Nat)] by rw [hX]; exact HK6.out.other (p := ⟨w.heap.size + 1, 5, none⟩) (by simp) _)
  have HB7 := Lib.hid (show Below w.heap.size w W7 by rw [hX]; exact HB6.out.setCell (by simp) _)
  have HJ7 := Lib.hid (show W7.cell? ⟨w.heap.size, 5, none⟩ = some (.slice c.od c.rds.length c.cd) ∧ W7.cell? ⟨w.heap.size, 7, none⟩ = some (.int .i64 c.s.f) ∧ W7.cell? ⟨w.heap.size, 14, none⟩ = some (.int .i64 c.b.tot) from ⟨HQ7.out.cell 5, HQ7.out.cell 7, HQ7.out.cell 14⟩)
  rw [← hX]
  clear hX f0 g0 HJ6 HP6 HQ6 HK6 HB6
  have f0 := HP7.out.frozen 6
  have g0 : W7.cell? ⟨w.heap.size + 1, 6, none⟩ = some (.int .i64 r.la) := HP7.out.cell 6
  refine wpC_skipN rfl rfl rfl HJ7.out (w' := W7.setCell ⟨w.heap.size + 1, 6, none⟩ (.int .i64 c.rds.length)) (by go_simp) ?_
  obtain ⟨W8, hX⟩ : ∃ W, W = W7.setCell ⟨w.heap.size + 1, 6, none⟩ (.int .i64 c.rds.length) := ⟨_, rfl⟩
  have HP8 := Lib.hid (show Blk W8 (w.heap.size + 1) 62 #[.int .i64 r.se, .int .i64 r.ch, .int .i64 r.ca, .int .i64 r.ho, .int .i64 r.hs, .int .i64 (A : Nat), .int .i64 c.rds.length, .int .i64 r.en, .int .i64 r.am, .int .u64 (r.g0 : Nat), .int .u64 (r.g1 : Nat), .int .u64 (r.g2 : Nat), .int .u64 (r.g3 : Nat)] by rw [hX]; exact HP7.out.set 6 _)
  have HQ8 := Lib.hid (show Blk W8 w.heap.size 41 (clL c).toArray by rw [hX]; exact HQ7.out.other (p := ⟨w.heap.size + 1, 6, none⟩) (by simp) _)
  have HK8 := Lib.hid (show Blk W8 (w.heap.size + 1 + 1) 60 #[.int .u64 (k.k0 : Nat), .int .u64 (k.k1 : Nat), .int .u64 (k.k2 : Nat), .int .u64 (k.k3 : Nat)] by rw [hX]; exact HK7.out.other (p := ⟨w.heap.size + 1, 6, none⟩) (by simp) _)
  have HB8 := Lib.hid (show Below w.heap.size w W8 by rw [hX]; exact HB7.out.setCell (by simp) _)
  have HJ8 := Lib.hid (show W8.cell? ⟨w.heap.size, 5, none⟩ = some (.slice c.od c.rds.length c.cd) ∧ W8.cell? ⟨w.heap.size, 7, none⟩ = some (.int .i64 c.s.f) ∧ W8.cell? ⟨w.heap.size, 14, none⟩ = some (.int .i64 c.b.tot) from ⟨HQ8.out.cell 5, HQ8.out.cell 7, HQ8.out.cell 14⟩)
  rw [← hX]
  clear hX f0 g0 HJ7 HP7 HQ7 HK7 HB7
  have f0 := HP8.out.frozen 8
  have g0 : W8.cell? ⟨w.heap.size + 1, 8, none⟩ = some (.int .i64 r.am) := HP8.out.cell 8
  refine wpC_skipN rfl rfl rfl HJ8.out (w' := W8.setCell ⟨w.heap.size + 1, 8, none⟩ (.int .i64 c.b.tot)) (by go_simp) ?_
  obtain ⟨W9, hX⟩ : ∃ W, W = W8.setCell ⟨w.heap.size + 1, 8, none⟩ (.int .i64 c.b.tot) := ⟨_, rfl⟩
  have HP9 := Lib.hid (show Blk W9 (w.heap.size + 1) 62 #[.int .i64 r.se, .int .i64 r.ch, .int .i64 r.ca, .int .i64 r.ho, .int .i64 r.hs, .int .i64 (A : Nat), .int .i64 c.rds.length, .int .i64 r.en, .int .i64 c.b.tot, .int .u64 (r.g0 : Nat), .int .u64 (r.g1 : Nat), .int .u64 (r.g2 : Nat), .int .u64 (r.g3 : Nat)] by rw [hX]; exact HP8.out.set 8 _)
  have HQ9 := Lib.hid (show Blk W9 w.heap.size 41 (clL c).toArray by rw [hX]; exact HQ8.out.other (p := ⟨w.heap.size + 1, 8, none⟩) (by simp) _)
  have HK9 := Lib.hid (show Blk W9 (w.heap.size + 1 + 1) 60 #[.int .u64 (k.k0 : Nat), .int .u64 (k.k1 : Nat), .int .u64 (k.k2 : Nat), .int .u64 (k.k3 : Nat)] by rw [hX]; exact HK8.out.other (p := ⟨w.heap.size + 1, 8, none⟩) (by simp) _)
  have HB9 := Lib.hid (show Below w.heap.size w W9 by rw [hX]; exact HB8.out.setCell (by simp) _)
  have HJ9 := Lib.hid (show W9.cell? ⟨w.heap.size, 5, none⟩ = some (.slice c.od c.rds.length c.cd) ∧ W9.cell? ⟨w.heap.size, 7, none⟩ = some (.int .i64 c.s.f) ∧ W9.cell? ⟨w.heap.size, 14, none⟩ = some (.int .i64 c.b.tot) from ⟨HQ9.out.cell 5, HQ9.out.cell 7, HQ9.out.cell 14⟩)
  rw [← hX]
  clear hX f0 g0 HJ8 HP8 HQ8 HK8 HB8
  clear HJ9
  refine wpC_nil ?_
  have HCO := Lib.hid (rClose_any (recOf c r) c.od c.cd c.rds k W9 (HCL.out.later HB9.out).rds (by have := HVF.out.len; omega))
  rw [HRO.out] at HCO
  have e0 : W9.cell? ⟨w.heap.size + 1, 0, none⟩ = some (.int .i64 r.se) := HP9.out.cell 0
  have e1 : W9.cell? ⟨w.heap.size + 1, 1, none⟩ = some (.int .i64 r.ch) := HP9.out.cell 1
  have e2 : W9.cell? ⟨w.heap.size + 1, 2, none⟩ = some (.int .i64 r.ca) := HP9.out.cell 2
  have e3 : W9.cell? ⟨w.heap.size + 1, 3, none⟩ = some (.int .i64 r.ho) := HP9.out.cell 3
  have e4 : W9.cell? ⟨w.heap.size + 1, 4, none⟩ = some (.int .i64 r.hs) := HP9.out.cell 4
  have e5 : W9.cell? ⟨w.heap.size + 1, 5, none⟩ = some (.int .i64 (A : Nat)) := HP9.out.cell 5
  have e6 : W9.cell? ⟨w.heap.size + 1, 6, none⟩ = some (.int .i64 c.rds.length) := HP9.out.cell 6
  have e7 : W9.cell? ⟨w.heap.size + 1, 7, none⟩ = some (.int .i64 r.en) := HP9.out.cell 7
  have e8 : W9.cell? ⟨w.heap.size + 1, 8, none⟩ = some (.int .i64 c.b.tot) := HP9.out.cell 8
  have e9 : W9.cell? ⟨w.heap.size + 1, 9, none⟩ = some (.int .u64 (r.g0 : Nat)) := HP9.out.cell 9
  have e10 : W9.cell? ⟨w.heap.size + 1, 10, none⟩ = some (.int .u64 (r.g1 : Nat)) := HP9.out.cell 10
  have e11 : W9.cell? ⟨w.heap.size + 1, 11, none⟩ = some (.int .u64 (r.g2 : Nat)) := HP9.out.cell 11
  have e12 : W9.cell? ⟨w.heap.size + 1, 12, none⟩ = some (.int .u64 (r.g3 : Nat)) := HP9.out.cell 12
  have k0 : W9.cell? ⟨w.heap.size + 1 + 1, 0, none⟩ = some (.int .u64 (k.k0 : Nat)) := HK9.out.cell 0
  have k1 : W9.cell? ⟨w.heap.size + 1 + 1, 1, none⟩ = some (.int .u64 (k.k1 : Nat)) := HK9.out.cell 1
  have k2 : W9.cell? ⟨w.heap.size + 1 + 1, 2, none⟩ = some (.int .u64 (k.k2 : Nat)) := HK9.out.cell 2
  have k3 : W9.cell? ⟨w.heap.size + 1 + 1, 3, none⟩ = some (.int .u64 (k.k3 : Nat)) := HK9.out.cell 3
  have q5 : W9.cell? ⟨w.heap.size, 5, none⟩ = some (.slice c.od c.rds.length c.cd) := HQ9.out.cell 5
  cases hok : clOk (recOf c r) c.rds with
  | false =>
    have HCN := Lib.hid (clV_no (k := k) hok)
    rw [HRO.out] at HCN
    rw [HCN.out] at HCO
    clear hok
    go_wp2_with fail
    refine HCO.out.mono ?_
    rintro _ W10 ⟨rfl, hb⟩
    replace HB9 := Lib.hid (below_step HB9.out hb)
    clear hb e0 e1 e2 e3 e4 e5 e6 e7 e8 e9 e10 e11 e12 k0 k1 k2 k3 q5 HCO
    go_upto_region 6 with (fail)
    obtain ⟨W11, hX⟩ : ∃ W, W = W10.alloc (.cells #[.int .i64 0, .int .i64 0, .int .i64 0, .int .i64 0, .int .i64 0, .int .i64 0, .int .i64 0, .int .i64 0, .int .i64 0, .int .u64 0, .int .u64 0, .int .u64 0, .int .u64 0] 62) := ⟨_, rfl⟩
    have HB11 := Lib.hid (show Below w.heap.size w W11 by rw [hX]; exact below_alloc HB9.out _)
    rw [← hX]
    clear hX
    go_wp2
    go_ret
    exact ⟨rfl, HB11.out⟩
  | true =>
  have HCN := Lib.hid (clV_yes (k := k) hok)
  have HRD := Lib.hid (recd (k := k) HVF.out hok)
  obtain ⟨x, hx⟩ : ∃ x, sgd { recOf c r with en := enN c.rds (recOf c r).fi (recOf c r).la } k 4 = x := ⟨_, rfl⟩
  rw [hx] at HCN HRD
  rw [HRO.out] at HCN
  rw [HCN.out] at HCO
  clear hok hx HCN
  go_wp2_with fail
  refine HCO.out.mono ?_
  rintro _ W10 ⟨rfl, hb⟩
  replace HB9 := Lib.hid (below_step HB9.out hb)
  replace HQ9 := Lib.hid (HQ9.out.later hb)
  replace HK9 := Lib.hid (HK9.out.later hb)
  clear hb e0 e1 e2 e3 e4 e5 e6 e7 e8 e9 e10 e11 e12 k0 k1 k2 k3 q5 HCO HP9 HRO
  go_upto_region 6 with (fail)
  obtain ⟨W11, hX⟩ : ∃ W, W = W10.alloc (.cells #[.int .i64 x.se, .int .i64 x.ch, .int .i64 x.ca, .int .i64 x.ho, .int .i64 x.hs, .int .i64 x.fi, .int .i64 x.la, .int .i64 x.en, .int .i64 x.am, .int .u64 (x.g0 : Nat), .int .u64 (x.g1 : Nat), .int .u64 (x.g2 : Nat), .int .u64 (x.g3 : Nat)] 62) := ⟨_, rfl⟩
  have HX := Lib.hid (show Blk W11 W10.heap.size 62 #[.int .i64 x.se, .int .i64 x.ch, .int .i64 x.ca, .int .i64 x.ho, .int .i64 x.hs, .int .i64 x.fi, .int .i64 x.la, .int .i64 x.en, .int .i64 x.am, .int .u64 (x.g0 : Nat), .int .u64 (x.g1 : Nat), .int .u64 (x.g2 : Nat), .int .u64 (x.g3 : Nat)] by rw [hX]; exact Blk.new _ _ _)
  have hab : Below W10.heap.size W10 W11 := by rw [hX]; exact below_alloc (Below.refl _ _) _
  have HB := Lib.hid (below_step HB9.out hab)
  have HQ := Lib.hid (HQ9.out.later hab)
  have HK := Lib.hid (HK9.out.later hab)
  rw [← hX]
  clear hX hab HB9 HQ9 HK9
  obtain ⟨X, hX⟩ : ∃ X, W10.heap.size = X := ⟨_, rfl⟩
  rw [hX] at HX ⊢
  clear hX
  have HCLB := Lib.hid (HCL.out.later HB.out)
  have q10 : W11.cell? ⟨w.heap.size, 10, none⟩ = some (.slice c.s.o c.s.l.length c.s.cap) := HQ.out.cell 10
  go_wp2
  clear q10
  go_loopw [10, 58] (fun a i wr => ∃ k : Nat, k ≤ c.s.l.length ∧ i = .int .i64 k ∧ a = .int .i64 (sumL (c.s.l.take k)) ∧ Below W11.heap.size W11 wr) (fun _ i _ => c.s.l.length - (intOf i).toNat)
  case atStart => exact ⟨0, Nat.zero_le _, rfl, rfl, Below.refl _ _⟩
  case round =>
    obtain ⟨m, hkl, rfl, rfl, hbl⟩ := hrel
    obtain ⟨wA, rfl⟩ : ∃ wA : World, wA = wr := ⟨_, rfl⟩
    have HBL := Lib.hid hbl
    clear hbl
    by_cases hlt : m < c.s.l.length
    · obtain ⟨bs, fs, hso, s0, s1⟩ := (HCLB.out.later HBL.out).sls m hlt
      have HTK := Lib.hid (sumL_take hlt)
      have HSB := Lib.hid (sumL_bound HVF.out.all m (by omega))
      have HSC := Lib.hid (sumL_bound HVF.out.all (m + 1) hlt)
      have hn40 := HVF.out.n
      rw [hso]
      obtain ⟨z, hz⟩ : ∃ z, c.s.l.getD m (0, 0) = z := ⟨_, rfl⟩
      rw [hz] at s0 s1 HTK
      clear hz
      obtain ⟨S, hS⟩ : ∃ S, sumL (c.s.l.take m) = S := ⟨_, rfl⟩
      rw [hS] at HTK HSB ⊢
      clear hS
      have wsm : IntKind.i64.wrap (S + z.2) = S + z.2 := IntWalk.i64_in _ (by have h1 := HTK.out; have h2 := HSC.out; omega)
      have y1 : (0 : Int) ≤ (m : Int) := by omega
      have y2 : (m : Int) < (c.s.l.length : Int) := by omega
      go_upto_region 12 with (fail)
      obtain ⟨W7, hW7⟩ : ∃ W, W = wA.alloc (.cells #[.int .i64 z.1, .int .i64 z.2] 50) := ⟨_, rfl⟩
      have HXX := Lib.hid (show Blk W7 wA.heap.size 50 #[.int .i64 z.1, .int .i64 z.2] by rw [hW7]; exact Blk.new _ _ _)
      have HB7 := Lib.hid (show Below W11.heap.size W11 W7 by rw [hW7]; exact below_alloc HBL.out _)
      rw [← hW7]
      clear hW7 s0 s1
      have x1 : W7.cell? ⟨wA.heap.size, 1, none⟩ = some (.int .i64 z.2) := HXX.out.cell 1
      go_wp2
      go_roundw
      case rel => exact ⟨m + 1, hlt, by go_num, by rw [HTK.out], HB7.out⟩
      case measure => simp [intOf]; omega
    · obtain rfl : m = c.s.l.length := by omega
      rw [List.take_length]
      have HBA := Lib.hid (below_step HB.out HBL.out)
      have HQA := Lib.hid (HQ.out.later HBL.out)
      have HKA := Lib.hid (HK.out.later HBL.out)
      have HXA := Lib.hid (HX.out.later HBL.out)
      rw [← HRD.out.en]
      clear HB HQ HK HX HBL HCL HCLB HVF
      have e0 : wA.cell? ⟨X, 0, none⟩ = some (.int .i64 x.se) := HXA.out.cell 0
      have e1 : wA.cell? ⟨X, 1, none⟩ = some (.int .i64 x.ch) := HXA.out.cell 1
      have e2 : wA.cell? ⟨X, 2, none⟩ = some (.int .i64 x.ca) := HXA.out.cell 2
      have e3 : wA.cell? ⟨X, 3, none⟩ = some (.int .i64 x.ho) := HXA.out.cell 3
      have e4 : wA.cell? ⟨X, 4, none⟩ = some (.int .i64 x.hs) := HXA.out.cell 4
      have e5 : wA.cell? ⟨X, 5, none⟩ = some (.int .i64 x.fi) := HXA.out.cell 5
      have e6 : wA.cell? ⟨X, 6, none⟩ = some (.int .i64 x.la) := HXA.out.cell 6
      have e7 : wA.cell? ⟨X, 7, none⟩ = some (.int .i64 x.en) := HXA.out.cell 7
      have e8 : wA.cell? ⟨X, 8, none⟩ = some (.int .i64 x.am) := HXA.out.cell 8
      have e9 : wA.cell? ⟨X, 9, none⟩ = some (.int .u64 (x.g0 : Nat)) := HXA.out.cell 9
      have e10 : wA.cell? ⟨X, 10, none⟩ = some (.int .u64 (x.g1 : Nat)) := HXA.out.cell 10
      have e11 : wA.cell? ⟨X, 11, none⟩ = some (.int .u64 (x.g2 : Nat)) := HXA.out.cell 11
      have e12 : wA.cell? ⟨X, 12, none⟩ = some (.int .u64 (x.g3 : Nat)) := HXA.out.cell 12
      have HNO := Lib.hid (fun g W (h : Blk W g 62 #[.int .i64 x.se, .int .i64 x.ch, .int .i64 x.ca, .int .i64 x.ho, .int .i64 x.hs, .int .i64 x.fi, .int .i64 x.la, .int .i64 x.en, .int .i64 x.am, .int .u64 (x.g0 : Nat), .int .u64 (x.g1 : Nat), .int .u64 (x.g2 : Nat), .int .u64 (x.g3 : Nat)]) => Net_one g x W h HRD.out.ok)
      go_wp2_with fail
      obtain ⟨WB, hWB⟩ : ∃ W, W = wA.alloc (.cells #[.int .i64 x.se, .int .i64 x.ch, .int .i64 x.ca, .int .i64 x.ho, .int .i64 x.hs, .int .i64 x.fi, .int .i64 x.la, .int .i64 x.en, .int .i64 x.am, .int .u64 (x.g0 : Nat), .int .u64 (x.g1 : Nat), .int .u64 (x.g2 : Nat), .int .u64 (x.g3 : Nat)] 62) := ⟨_, rfl⟩
      have HG := Lib.hid (show Blk WB wA.heap.size 62 #[.int .i64 x.se, .int .i64 x.ch, .int .i64 x.ca, .int .i64 x.ho, .int .i64 x.hs, .int .i64 x.fi, .int .i64 x.la, .int .i64 x.en, .int .i64 x.am, .int .u64 (x.g0 : Nat), .int .u64 (x.g1 : Nat), .int .u64 (x.g2 : Nat), .int .u64 (x.g3 : Nat)] by rw [hWB]; exact Blk.new _ _ _)
      have hab : Below wA.heap.size wA WB := by rw [hWB]; exact below_alloc (Below.refl _ _) _
      rw [← hWB]
      clear hWB
      refine (HNO.out _ _ HG.out).mono ?_
      rintro e WC ⟨hb, V, rfl, hvb⟩
      replace hb := below_step hab hb
      have HVB := Lib.hid hvb
      have HB := Lib.hid (below_step HBA.out hb)
      have HQ := Lib.hid (HQA.out.later hb)
      have HK := Lib.hid (HKA.out.later hb)
      have HX := Lib.hid (HXA.out.later hb)
      clear hb hab hvb HBA HQA HKA HXA HG HNO e0 e1 e2 e3 e4 e5 e6 e7 e8 e9 e10 e11 e12
      have e0 : WC.cell? ⟨X, 0, none⟩ = some (.int .i64 x.se) := HX.out.cell 0
      have e1 : WC.cell? ⟨X, 1, none⟩ = some (.int .i64 x.ch) := HX.out.cell 1
      have e2 : WC.cell? ⟨X, 2, none⟩ = some (.int .i64 x.ca) := HX.out.cell 2
      have e3 : WC.cell? ⟨X, 3, none⟩ = some (.int .i64 x.ho) := HX.out.cell 3
      have e4 : WC.cell? ⟨X, 4, none⟩ = some (.int .i64 x.hs) := HX.out.cell 4
      have e5 : WC.cell? ⟨X, 5, none⟩ = some (.int .i64 x.fi) := HX.out.cell 5
      have e6 : WC.cell? ⟨X, 6, none⟩ = some (.int .i64 x.la) := HX.out.cell 6
      have e7 : WC.cell? ⟨X, 7, none⟩ = some (.int .i64 x.en) := HX.out.cell 7
      have e8 : WC.cell? ⟨X, 8, none⟩ = some (.int .i64 x.am) := HX.out.cell 8
      have e9 : WC.cell? ⟨X, 9, none⟩ = some (.int .u64 (x.g0 : Nat)) := HX.out.cell 9
      have e10 : WC.cell? ⟨X, 10, none⟩ = some (.int .u64 (x.g1 : Nat)) := HX.out.cell 10
      have e11 : WC.cell? ⟨X, 11, none⟩ = some (.int .u64 (x.g2 : Nat)) := HX.out.cell 11
      have e12 : WC.cell? ⟨X, 12, none⟩ = some (.int .u64 (x.g3 : Nat)) := HX.out.cell 12
      have k0 : WC.cell? ⟨w.heap.size + 1 + 1, 0, none⟩ = some (.int .u64 (k.k0 : Nat)) := HK.out.cell 0
      have k1 : WC.cell? ⟨w.heap.size + 1 + 1, 1, none⟩ = some (.int .u64 (k.k1 : Nat)) := HK.out.cell 1
      have k2 : WC.cell? ⟨w.heap.size + 1 + 1, 2, none⟩ = some (.int .u64 (k.k2 : Nat)) := HK.out.cell 2
      have k3 : WC.cell? ⟨w.heap.size + 1 + 1, 3, none⟩ = some (.int .u64 (k.k3 : Nat)) := HK.out.cell 3
      have HCK := Lib.hid (rCheck_any x k WC)
      rw [HRD.out.chk] at HCK
      go_wp2_with fail
      refine HCK.out.mono ?_
      rintro _ WD ⟨rfl, hb⟩
      replace HVB := Lib.hid (HVB.out.later hb)
      replace HB := Lib.hid (below_step HB.out hb)
      replace HQ := Lib.hid (HQ.out.later hb)
      replace HX := Lib.hid (HX.out.later hb)
      clear hb HK e0 e1 e2 e3 e4 e5 e6 e7 e8 e9 e10 e11 e12 k0 k1 k2 k3 HCK
      have HAM := Lib.hid (am_ok HRD.out.ok)
      have HOW := Lib.hid (fun i hi => owed (a := x.am) HAM.out.2.1 HAM.out.1 (i := i) hi)
      have e3 : WD.cell? ⟨X, 3, none⟩ = some (.int .i64 x.ho) := HX.out.cell 3
      have e4 : WD.cell? ⟨X, 4, none⟩ = some (.int .i64 x.hs) := HX.out.cell 4
      have q14 : WD.cell? ⟨w.heap.size, 14, none⟩ = some (.int .i64 x.am) := by rw [HRD.out.am]; exact HQ.out.cell 14
      have a0 := HAM.out.2.2.1
      have a1 := HAM.out.2.2.2
      obtain ⟨T, hT⟩ : ∃ T, x.am = T := ⟨_, rfl⟩
      rw [hT] at HVB HOW q14 a0 a1
      clear hT
      obtain ⟨u, hu⟩ : ∃ T, x.hs = T := ⟨_, rfl⟩
      rw [hu] at HVB HOW e4
      clear hu
      obtain ⟨d, hd⟩ : ∃ T, x.ho = T := ⟨_, rfl⟩
      rw [hd] at HVB HOW e3
      clear hd
      have v1 : IntKind.i64.wrap T = T := IntWalk.i64_in _ (by omega)
      have v1' : IntKind.i64.wrap (0 + T) = T := by rw [Int.zero_add]; exact v1
      have v2 : IntKind.i64.wrap (-T) = -T := IntWalk.i64_in _ (by omega)
      have v2' : IntKind.i64.wrap (0 - T) = -T := by rw [Int.zero_sub]; exact v2
      have v3 : IntKind.i64.wrap (T - T) = 0 := by rw [Int.sub_self]; rfl
      clear HQ HX HRD HAM
      go_wp2_with fail
      go_loop [94] (fun i => ∃ m : Nat, m ≤ 8 ∧ i = .int .i64 m) (fun i => 8 - (intOf i).toNat)
      case atStart => exact ⟨0, by decide, rfl⟩
      case round =>
        obtain ⟨m, hm, rfl⟩ := hrel
        by_cases hlt : m < 8
        · have HCV := Lib.hid ((HVB.out.cell m).trans (intsC_get (by rw [addAt_len, addAt_len, List.length_replicate]; exact hlt)))
          rw [HOW.out m hlt] at HCV
          have y1 : (0 : Int) ≤ (m : Int) := by omega
          have y2 : (m : Int) < 8 := by omega
          by_cases h1 : (m : Int) = u
          · have d1 : ((m : Int) == u) = true := by simpa using h1
            rw [if_pos h1] at HCV
            by_cases h2 : (m : Int) = d
            · have d2 : ((m : Int) == d) = true := by simpa using h2
              rw [if_pos h2, Int.sub_self] at HCV
              have cv := HCV.out
              clear h1 h2 HCV
              go_wp2
              go_round
              case rel => exact ⟨m + 1, hlt, by go_num⟩
              case measure => simp [intOf]; omega
            · have d2 : ((m : Int) == d) = false := by simpa using h2
              rw [if_neg h2, Int.sub_zero] at HCV
              have cv := HCV.out
              clear h1 h2 HCV
              go_wp2
              go_round
              case rel => exact ⟨m + 1, hlt, by go_num⟩
              case measure => simp [intOf]; omega
          · have d1 : ((m : Int) == u) = false := by simpa using h1
            rw [if_neg h1] at HCV
            by_cases h2 : (m : Int) = d
            · have d2 : ((m : Int) == d) = true := by simpa using h2
              rw [if_pos h2, Int.zero_sub] at HCV
              have cv := HCV.out
              clear h1 h2 HCV
              go_wp2
              go_round
              case rel => exact ⟨m + 1, hlt, by go_num⟩
              case measure => simp [intOf]; omega
            · have d2 : ((m : Int) == d) = false := by simpa using h2
              rw [if_neg h2, Int.sub_zero] at HCV
              have cv := HCV.out
              clear h1 h2 HCV
              go_wp2
              go_round
              case rel => exact ⟨m + 1, hlt, by go_num⟩
              case measure => simp [intOf]; omega
        · obtain rfl : m = 8 := by omega
          go_wp2
          go_ret
          exact ⟨rfl, HB.out⟩
end Go.Proofs.YtkfmmiekajgdjaaGreat