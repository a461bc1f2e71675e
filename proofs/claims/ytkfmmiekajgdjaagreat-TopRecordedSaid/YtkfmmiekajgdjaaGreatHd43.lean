/- The head of the laws: two minutes that are metered, billed and accepted. -/
import Derived.Test.YtkfmmiekajgdjaaGreatVg43
namespace Go.Proofs.YtkfmmiekajgdjaaGreat
open Go.RowKit
attribute [local go_sem] Oper.semAt_some

def headArt : Art := ⟨2, 7, 0, 1440, 3000, 0, 0⟩
def headC (oa : Option Addr) : ClA := ⟨⟨#[116]⟩, oa, 1, [headArt], 0, none, 0, [], none, 0, [], none, 0, [], 5, SesA.zero, BilA.zero⟩
def headMs : List (Nat × Nat) := [(16, 3), (16, 3)]
theorem head_name : nameA ⟨#[116]⟩ = true := by decide +kernel
theorem head_ok (oa : Option Addr) : metOk (headC oa) 600 headMs = true := by
  have h1 : tarA (headC oa).nm (headC oa).arts = true := by
    show tarA ⟨#[116]⟩ [headArt] = true
    unfold tarA
    rw [head_name]
    decide +kernel
  have h2 : datA (headC oa).off (headC oa).chg (headC oa).hol = true := by
    show datA 0 [] [] = true
    decide +kernel
  have h3 : sesB ⟨600, 600 + headMs.length, metE headMs 600 headMs.length, none, 0, metS headMs 600 headMs.length⟩ = true := by decide +kernel
  have h4 : apOk 600 headMs.length = true := by decide +kernel
  have h5 : sumOk (headC oa) ⟨600, 600 + headMs.length, metE headMs 600 headMs.length, none, 0, metS headMs 600 headMs.length⟩ = true := by
    have e : ∀ s, sumOk (headC oa) s = sumOk (headC none) s := fun s => by
      unfold sumOk linOk netB
      rw [show (headC oa).arts = (headC none).arts from rfl]
      have : ∀ k, linA (headC oa) s k = linA (headC none) s k := linA_eq rfl rfl rfl rfl rfl rfl rfl rfl
      rw [this]
    rw [e]
    decide +kernel
  unfold metOk billOk
  rw [h4, h1, h2, h3, h5]
  rfl
set_option maxRecDepth 100000 in
set_option maxHeartbeats 16000000 in
theorem head_any (w : World) : Calls Tryz.prog 6 #[] w (Ret (.bool true) w) := by
  go_enter Tryz.func6, Tryz.ntmps6
  go_upto_region 2 with (fail)
  obtain ⟨wa, hwa⟩ : ∃ W, W = w.alloc (.cells #[.int .i64 2, .int .i64 7, .int .i64 0, .int .i64 1440, .int .i64 3000, .int .i64 0, .int .i64 0] 72) := ⟨_, rfl⟩
  obtain ⟨W1, hW1⟩ : ∃ W, W = wa.alloc (.cells #[.string ⟨#[116]⟩, .slice (some ⟨w.heap.size, 0, none⟩) 1 1] 24) := ⟨_, rfl⟩
  have hsa : wa.heap.size = w.heap.size + 1 := by rw [hwa, World.size_alloc]
  have HQ := Lib.hid (show Blk W1 w.heap.size 72 #[.int .i64 2, .int .i64 7, .int .i64 0, .int .i64 1440, .int .i64 3000, .int .i64 0, .int .i64 0] by rw [hW1]; refine Blk.alloc ?_ _; rw [hwa]; exact Blk.new _ _ _)
  have HP := Lib.hid (show Blk W1 (w.heap.size + 1) 24 #[.string ⟨#[116]⟩, .slice (some ⟨w.heap.size, 0, none⟩) 1 1] by rw [hW1, ← hsa]; exact Blk.new _ _ _)
  have HB := Lib.hid (show Below w.heap.size w W1 by rw [hW1, hwa]; exact below_alloc (below_alloc (Below.refl _ _) _) _)
  have hS1 : W1 = (w.alloc (.cells #[.int .i64 2, .int .i64 7, .int .i64 0, .int .i64 1440, .int .i64 3000, .int .i64 0, .int .i64 0] 72)).alloc (.cells #[.string ⟨#[116]⟩, .slice (some ⟨w.heap.size, 0, none⟩) 1 1] 24) := by rw [hW1, hwa]
  rw [← hS1]
  clear hS1 hW1 hwa hsa
  have p0 : W1.cell? ⟨w.heap.size + 1, 0, none⟩ = some (.string ⟨#[116]⟩) := HP.out.cell 0
  have p1 : W1.cell? ⟨w.heap.size + 1, 1, none⟩ = some (.slice (some ⟨w.heap.size, 0, none⟩) 1 1) := HP.out.cell 1
  go_wp2_with fail
  obtain ⟨W2, hW2⟩ : ∃ W, W = W1.alloc (.cells #[.int .u8 16, .int .u8 3, .int .u8 16, .int .u8 3] 73) := ⟨_, rfl⟩
  have HB2 := Lib.hid (show Below W1.heap.size W1 W2 by rw [hW2]; exact below_alloc (Below.refl _ _) _)
  have HX := Lib.hid (show Blk W2 W1.heap.size 73 #[.int .u8 16, .int .u8 3, .int .u8 16, .int .u8 3] by rw [hW2]; exact Blk.new _ _ _)
  rw [← hW2]
  clear hW2
  have HQ2 := Lib.hid (HQ.out.later HB2.out)
  have HAR : Hid (Arts W2 (some ⟨w.heap.size, 0, none⟩) [headArt]) := Lib.hid (fun i hi => by
    obtain rfl : i = 0 := by simpa using hi
    exact ⟨_, _, rfl, HQ2.out.cell 0, HQ2.out.cell 1, HQ2.out.cell 2, HQ2.out.cell 3, HQ2.out.cell 4, HQ2.out.cell 5, HQ2.out.cell 6⟩)
  have HMM : Hid (MinM W2 (some ⟨W1.heap.size, 0, none⟩) headMs) := Lib.hid (fun i hi => by
    have hi2 : i < 2 := hi
    match i, hi2 with
    | 0, _ => exact ⟨_, _, rfl, HX.out.cell 0, HX.out.cell 1, by decide, by decide⟩
    | 1, _ => exact ⟨_, _, rfl, HX.out.cell 2, HX.out.cell 3, by decide, by decide⟩)
  have HC : Hid (Calls Tryz.prog 8 #[.agg #[.string ⟨#[116]⟩, .slice (some ⟨w.heap.size, 0, none⟩) 1 1], .agg #[.int .i64 0, .slice none 0 0, .slice none 0 0], .int .u64 5, .int .i64 600, .slice (some ⟨W1.heap.size, 0, none⟩) 2 2] W2 (MetOut (headC (some ⟨w.heap.size, 0, none⟩)) (by show 5 < 18446744073709551616; decide) 600 headMs W2)) := Lib.hid
    (metered_any W2 (headC (some ⟨w.heap.size, 0, none⟩)) (by show 5 < 18446744073709551616; decide) 600 (some ⟨W1.heap.size, 0, none⟩) 2 headMs HAR.out ⟨Twos.nil, Ints.nil⟩ HMM.out (by decide) (by decide) (by decide) (by show (1 : Nat) ≤ _; decide) (by show (1 : Nat) ≤ _; decide) (by show (0 : Nat) ≤ _; decide) (by show (0 : Nat) ≤ _; decide))
  have HOK := Lib.hid (head_ok (some ⟨w.heap.size, 0, none⟩))
  have HBW := Lib.hid (below_step HB.out HB2.out)
  clear HX HQ2 HAR HMM HQ HP HB HB2 p0 p1
  refine HC.out.mono ?_
  rintro e W3 ⟨hb, ⟨_, od, cd, os, cs, ob, cb, rfl, hcl⟩ | ⟨hno, _⟩⟩
  rotate_left
  · exact absurd HOK.out (by rw [hno]; decide)
  have HV := Lib.hid (met_ver (hs := (by show 5 < 18446744073709551616; decide)) (od := od) (cd := cd) (os := os) (cs := cs) (ob := ob) (cb := cb) (by decide) HOK.out)
  have HCL := Lib.hid hcl
  have HLT : Hid ((claimM (headC (some ⟨w.heap.size, 0, none⟩)) (by show 5 < 18446744073709551616; decide) 600 headMs od cd os cs ob cb).b.l.length = 1 ∧ (claimM (headC (some ⟨w.heap.size, 0, none⟩)) (by show 5 < 18446744073709551616; decide) 600 headMs od cd os cs ob cb).b.tot = 1104) := Lib.hid (by
    have hl : ∀ k, linA (headC (some ⟨w.heap.size, 0, none⟩)) ⟨600, 600 + (headMs.length : Nat), metE headMs 600 headMs.length, os, cs, metS headMs 600 headMs.length⟩ k = linA (headC none) ⟨600, 600 + (headMs.length : Nat), metE headMs 600 headMs.length, none, 0, metS headMs 600 headMs.length⟩ k := linA_eq rfl rfl rfl rfl rfl rfl rfl rfl
    show (linA (headC (some ⟨w.heap.size, 0, none⟩)) ⟨600, 600 + (headMs.length : Nat), metE headMs 600 headMs.length, os, cs, metS headMs 600 headMs.length⟩ 1).length = 1 ∧ capA [headArt] (sumL (linA (headC (some ⟨w.heap.size, 0, none⟩)) ⟨600, 600 + (headMs.length : Nat), metE headMs 600 headMs.length, os, cs, metS headMs 600 headMs.length⟩ 1)) + taxOf (capA [headArt] (sumL (linA (headC (some ⟨w.heap.size, 0, none⟩)) ⟨600, 600 + (headMs.length : Nat), metE headMs 600 headMs.length, os, cs, metS headMs 600 headMs.length⟩ 1))) (rateN [headArt]) = 1104
    rw [hl]
    decide +kernel)
  obtain ⟨D, hD⟩ : ∃ D, claimM (headC (some ⟨w.heap.size, 0, none⟩)) (by show 5 < 18446744073709551616; decide) 600 headMs od cd os cs ob cb = D := ⟨_, rfl⟩
  rw [hD] at HV HCL HLT ⊢
  replace HBW := Lib.hid (below_step HBW.out hb)
  have hr : regW headMs headMs.length = 1324800 := by decide +kernel
  rw [hr]
  clear hD hr hb hcl HC HOK
  go_upto_region 3 with (fail)
  obtain ⟨wd, hwd⟩ : ∃ W, W = W3.alloc (.cells (clL D).toArray 41) := ⟨_, rfl⟩
  obtain ⟨W4, hW4⟩ : ∃ W, W = wd.alloc (.cells #[.int .i64 1, .int .i64 1324800, .bool false] 43) := ⟨_, rfl⟩
  have hsd : wd.heap.size = W3.heap.size + 1 := by rw [hwd, World.size_alloc]
  have HD := Lib.hid (show Blk W4 W3.heap.size 41 (clL D).toArray by rw [hW4]; refine Blk.alloc ?_ _; rw [hwd]; exact Blk.new _ _ _)
  have HM := Lib.hid (show Blk W4 (W3.heap.size + 1) 43 #[.int .i64 1, .int .i64 1324800, .bool false] by rw [hW4, ← hsd]; exact Blk.new _ _ _)
  have HB4 := Lib.hid (show Below W3.heap.size W3 W4 by rw [hW4, hwd]; exact below_alloc (below_alloc (Below.refl _ _) _) _)
  have hS : W4 = (W3.alloc (.cells (clL D).toArray 41)).alloc (.cells #[.int .i64 1, .int .i64 1324800, .bool false] 43) := by rw [hW4, hwd]
  rw [← hS]
  clear hS hW4 hwd hsd
  replace HCL := Lib.hid (HCL.out.later HB4.out)
  replace HBW := Lib.hid (below_step HBW.out HB4.out)
  clear HB4
  obtain ⟨Q, hQ⟩ : ∃ X, W3.heap.size = X := ⟨_, rfl⟩
  rw [hQ] at HD HM ⊢
  clear hQ
  have m0 : W4.cell? ⟨Q + 1, 0, none⟩ = some (.int .i64 1) := HM.out.cell 0
  have m1 : W4.cell? ⟨Q + 1, 1, none⟩ = some (.int .i64 1324800) := HM.out.cell 1
  have m2 : W4.cell? ⟨Q + 1, 2, none⟩ = some (.bool false) := HM.out.cell 2
  go_wp2_with fail
  refine (Energy_met 1324800 W4 (by decide) (by decide)).mono ?_
  rintro _ W5 ⟨rfl, hb⟩
  have e368 : (1324800 : Int) / 3600 = 368 := by decide
  rw [e368]
  replace HCL := Lib.hid (HCL.out.later hb)
  replace HD := Lib.hid (HD.out.later hb)
  replace HBW := Lib.hid (below_step HBW.out hb)
  clear hb m0 m1 m2 HM e368
  have q0 : W5.cell? ⟨Q, 0, none⟩ = some (.string D.nm) := HD.out.cell 0
  have q1 : W5.cell? ⟨Q, 1, none⟩ = some (.slice D.oa D.arts.length D.ca) := HD.out.cell 1
  have q2 : W5.cell? ⟨Q, 2, none⟩ = some (.int .i64 D.off) := HD.out.cell 2
  have q3 : W5.cell? ⟨Q, 3, none⟩ = some (.slice D.oc D.chg.length D.cc) := HD.out.cell 3
  have q4 : W5.cell? ⟨Q, 4, none⟩ = some (.slice D.oh D.hol.length D.ch) := HD.out.cell 4
  have q5 : W5.cell? ⟨Q, 5, none⟩ = some (.slice D.od D.rds.length D.cd) := HD.out.cell 5
  have q6 : W5.cell? ⟨Q, 6, none⟩ = some (.int .u64 (D.seed : Nat)) := HD.out.cell 6
  have q7 : W5.cell? ⟨Q, 7, none⟩ = some (.int .i64 D.s.f) := HD.out.cell 7
  have q8 : W5.cell? ⟨Q, 8, none⟩ = some (.int .i64 D.s.t) := HD.out.cell 8
  have q9 : W5.cell? ⟨Q, 9, none⟩ = some (.int .i64 D.s.e) := HD.out.cell 9
  have q10 : W5.cell? ⟨Q, 10, none⟩ = some (.slice D.s.o D.s.l.length D.s.cap) := HD.out.cell 10
  have q11 : W5.cell? ⟨Q, 11, none⟩ = some (.slice D.b.o D.b.l.length D.b.cap) := HD.out.cell 11
  have q12 : W5.cell? ⟨Q, 12, none⟩ = some (.int .i64 D.b.net) := HD.out.cell 12
  have q13 : W5.cell? ⟨Q, 13, none⟩ = some (.int .i64 D.b.tax) := HD.out.cell 13
  have q14 : W5.cell? ⟨Q, 14, none⟩ = some (.int .i64 D.b.tot) := HD.out.cell 14
  have HV5 := Lib.hid (verify_any D W5 HCL.out)
  rw [HV.out] at HV5
  go_wp2_with fail
  refine HV5.out.mono ?_
  rintro _ W6 ⟨rfl, hb⟩
  replace HD := Lib.hid (HD.out.later hb)
  replace HBW := Lib.hid (below_step HBW.out hb)
  clear hb q0 q1 q2 q3 q4 q5 q6 q7 q8 q9 q10 q11 q12 q13 q14
  have q11 : W6.cell? ⟨Q, 11, none⟩ = some (.slice D.b.o D.b.l.length D.b.cap) := HD.out.cell 11
  have q14 : W6.cell? ⟨Q, 14, none⟩ = some (.int .i64 D.b.tot) := HD.out.cell 14
  have hln := HLT.out.1
  have htt := HLT.out.2
  rw [hln] at q11
  rw [htt] at q14
  clear hln htt
  go_wp2
  go_ret
  exact ⟨rfl, HBW.out⟩
end Go.Proofs.YtkfmmiekajgdjaaGreat
