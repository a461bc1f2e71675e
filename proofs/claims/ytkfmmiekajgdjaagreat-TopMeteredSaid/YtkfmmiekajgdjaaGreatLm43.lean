/- TopMetered: the law's walk. -/
import Derived.Test.YtkfmmiekajgdjaaGreatHd43
import Derived.Test.YtkfmmiekajgdjaaGreatFw43
namespace Go.Proofs.YtkfmmiekajgdjaaGreat
open Go.RowKit
attribute [local go_sem] Oper.semAt_some

set_option maxRecDepth 100000 in
set_option maxHeartbeats 16000000 in
theorem topMetered_any (w : World) (c : ClA) (hs : c.seed < 18446744073709551616) (f : Int) (om : Option Addr) (cm : Nat) (ms : List (Nat × Nat)) (hA : Arts w c.oa c.arts) (hC : CalM w c) (hM : MinM w om ms) (hf0 : -9223372036854775808 ≤ f) (hf1 : f ≤ 9223372036854775807) : Calls Tryz.prog 3 #[.agg #[.string c.nm, .slice c.oa c.arts.length c.ca], .agg #[.int .i64 c.off, .slice c.oc c.chg.length c.cc, .slice c.oh c.hol.length c.ch], .int .u64 (c.seed : Nat), .int .i64 f, .slice om ms.length cm] w (Ret (.bool true) w) := by
  have HA := Lib.hid hA
  have HC := Lib.hid hC
  have HM := Lib.hid hM
  clear hA hC hM
  go_enter Tryz.func3, Tryz.ntmps3
  go_upto_region 1 with (fail)
  obtain ⟨wa, hwa⟩ : ∃ W, W = w.alloc (.cells #[.string c.nm, .slice c.oa c.arts.length c.ca] 24) := ⟨_, rfl⟩
  obtain ⟨W1, hW1⟩ : ∃ W, W = wa.alloc (.cells #[.int .i64 c.off, .slice c.oc c.chg.length c.cc, .slice c.oh c.hol.length c.ch] 28) := ⟨_, rfl⟩
  have hsa : wa.heap.size = w.heap.size + 1 := by rw [hwa, World.size_alloc]
  have HQ := Lib.hid (show Blk W1 w.heap.size 24 #[.string c.nm, .slice c.oa c.arts.length c.ca] by rw [hW1]; refine Blk.alloc ?_ _; rw [hwa]; exact Blk.new _ _ _)
  have HP := Lib.hid (show Blk W1 (w.heap.size + 1) 28 #[.int .i64 c.off, .slice c.oc c.chg.length c.cc, .slice c.oh c.hol.length c.ch] by rw [hW1, ← hsa]; exact Blk.new _ _ _)
  have HB := Lib.hid (show Below w.heap.size w W1 by rw [hW1, hwa]; exact below_alloc (below_alloc (Below.refl _ _) _) _)
  have hS1 : W1 = (w.alloc (.cells #[.string c.nm, .slice c.oa c.arts.length c.ca] 24)).alloc (.cells #[.int .i64 c.off, .slice c.oc c.chg.length c.cc, .slice c.oh c.hol.length c.ch] 28) := by rw [hW1, hwa]
  rw [← hS1]
  clear hS1 hW1 hwa hsa
  go_wp2_with fail
  refine (head_any W1).mono ?_
  rintro _ W2 ⟨rfl, hb⟩
  replace HB := Lib.hid (below_step HB.out hb)
  replace HQ := Lib.hid (HQ.out.later hb)
  replace HP := Lib.hid (HP.out.later hb)
  clear hb
  have t0 : W2.cell? ⟨w.heap.size, 0, none⟩ = some (.string c.nm) := HQ.out.cell 0
  have t1 : W2.cell? ⟨w.heap.size, 1, none⟩ = some (.slice c.oa c.arts.length c.ca) := HQ.out.cell 1
  have k0 : W2.cell? ⟨w.heap.size + 1, 0, none⟩ = some (.int .i64 c.off) := HP.out.cell 0
  have k1 : W2.cell? ⟨w.heap.size + 1, 1, none⟩ = some (.slice c.oc c.chg.length c.cc) := HP.out.cell 1
  have k2 : W2.cell? ⟨w.heap.size + 1, 2, none⟩ = some (.slice c.oh c.hol.length c.ch) := HP.out.cell 2
  go_wp2_with fail
  refine (few33_any c.nm c.oa c.arts.length c.ca c.off c.oc c.oh c.chg.length c.cc c.hol.length c.ch 0 0 0 none 0 0 W2).mono ?_
  rintro _ W3 ⟨⟨b, rfl, hfew⟩, hb⟩
  replace HB := Lib.hid (below_step HB.out hb)
  replace HQ := Lib.hid (HQ.out.later hb)
  replace HP := Lib.hid (HP.out.later hb)
  clear hb t0 t1 k0 k1 k2
  cases b with
  | false =>
    go_wp2
    go_ret
    exact ⟨rfl, HB.out⟩
  | true =>
  have HFEW := Lib.hid (hfew rfl)
  clear hfew
  by_cases hk : ms.length ≤ 40
  rotate_left
  · have dk : decide (40 < (ms.length : Int)) = true := decide_eq_true (by omega)
    go_wp2
    go_ret
    exact ⟨rfl, HB.out⟩
  have dk : decide (40 < (ms.length : Int)) = false := decide_eq_false (by omega)
  have t0 : W3.cell? ⟨w.heap.size, 0, none⟩ = some (.string c.nm) := HQ.out.cell 0
  have t1 : W3.cell? ⟨w.heap.size, 1, none⟩ = some (.slice c.oa c.arts.length c.ca) := HQ.out.cell 1
  have k0 : W3.cell? ⟨w.heap.size + 1, 0, none⟩ = some (.int .i64 c.off) := HP.out.cell 0
  have k1 : W3.cell? ⟨w.heap.size + 1, 1, none⟩ = some (.slice c.oc c.chg.length c.cc) := HP.out.cell 1
  have k2 : W3.cell? ⟨w.heap.size + 1, 2, none⟩ = some (.slice c.oh c.hol.length c.ch) := HP.out.cell 2
  have HMET := Lib.hid (metered_any W3 c hs f om cm ms (HA.out.later HB.out) (HC.out.later HB.out) (HM.out.later HB.out) hk hf0 hf1 (by have := HFEW.out.1; omega) (by have := HFEW.out.2.1; omega) (by have := HFEW.out.2.2.1; omega) (by have := HFEW.out.2.2.2.1; omega))
  go_wp2_with fail
  refine HMET.out.mono ?_
  rintro e W4 ⟨hb, hmo⟩
  replace HB := Lib.hid (below_step HB.out hb)
  clear t0 t1 k0 k1 k2 HMET HQ HP hb HA HC HM
  rcases hmo with ⟨hok, od, cd, os, cs, ob, cb, rfl, hcl⟩ | ⟨hno, c', r', rfl⟩
  rotate_left
  · clear hno
    go_upto_region 5 with (fail)
    have HB5 := Lib.hid (below_alloc (below_alloc HB.out (.cells (clL c').toArray 41)) (.cells #[.int .i64 1, .int .i64 r', .bool false] 43))
    go_wp2
    go_ret
    exact ⟨rfl, HB5.out⟩
  have HV := Lib.hid (met_ver (hs := hs) (od := od) (cd := cd) (os := os) (cs := cs) (ob := ob) (cb := cb) hk hok)
  have HCL := Lib.hid hcl
  have HSUM : Hid (sumL (claimM c hs f ms od cd os cs ob cb).s.l = regW ms ms.length / 3600) := Lib.hid (metS_sum ms f ms.length)
  have HALL : Hid (∀ x ∈ (claimM c hs f ms od cd os cs ob cb).s.l, 0 ≤ x.2 ∧ x.2 ≤ 1000000000) := Lib.hid (by
    have h := hok
    unfold metOk billOk at h
    simp only [Bool.and_eq_true] at h
    have := (sesB_ok h.2.2.2.1).all
    exact fun x hx => by have h2 := this x hx; omega)
  have HNL : Hid ((claimM c hs f ms od cd os cs ob cb).s.l.length ≤ 40) := Lib.hid (by have := metS_len ms f ms.length; show (metS ms f ms.length).length ≤ 40; omega)
  have HRG := Lib.hid (regW_bound ms ms.length)
  obtain ⟨D, hD⟩ : ∃ D, claimM c hs f ms od cd os cs ob cb = D := ⟨_, rfl⟩
  rw [hD] at HV HCL HSUM HALL HNL ⊢
  obtain ⟨R, hR⟩ : ∃ R, regW ms ms.length = R := ⟨_, rfl⟩
  rw [hR] at HSUM HRG ⊢
  clear hD hR hok hcl
  go_upto_region 7 with (fail)
  obtain ⟨wd, hwd⟩ : ∃ W, W = W4.alloc (.cells (clL D).toArray 41) := ⟨_, rfl⟩
  obtain ⟨W5, hW5⟩ : ∃ W, W = wd.alloc (.cells #[.int .i64 1, .int .i64 R, .bool false] 43) := ⟨_, rfl⟩
  have hsd : wd.heap.size = W4.heap.size + 1 := by rw [hwd, World.size_alloc]
  have HD := Lib.hid (show Blk W5 W4.heap.size 41 (clL D).toArray by rw [hW5]; refine Blk.alloc ?_ _; rw [hwd]; exact Blk.new _ _ _)
  have HMB := Lib.hid (show Blk W5 (W4.heap.size + 1) 43 #[.int .i64 1, .int .i64 R, .bool false] by rw [hW5, ← hsd]; exact Blk.new _ _ _)
  have HB5 := Lib.hid (show Below W4.heap.size W4 W5 by rw [hW5, hwd]; exact below_alloc (below_alloc (Below.refl _ _) _) _)
  have hS : W5 = (W4.alloc (.cells (clL D).toArray 41)).alloc (.cells #[.int .i64 1, .int .i64 R, .bool false] 43) := by rw [hW5, hwd]
  rw [← hS]
  clear hS hW5 hwd hsd
  replace HCL := Lib.hid (HCL.out.later HB5.out)
  replace HB := Lib.hid (below_step HB.out HB5.out)
  clear HB5
  obtain ⟨Q, hQ⟩ : ∃ X, W4.heap.size = X := ⟨_, rfl⟩
  rw [hQ] at HD HMB ⊢
  clear hQ
  have m0 : W5.cell? ⟨Q + 1, 0, none⟩ = some (.int .i64 1) := HMB.out.cell 0
  have m1 : W5.cell? ⟨Q + 1, 1, none⟩ = some (.int .i64 R) := HMB.out.cell 1
  have m2 : W5.cell? ⟨Q + 1, 2, none⟩ = some (.bool false) := HMB.out.cell 2
  go_wp2_with fail
  refine (Energy_met R W5 HRG.out.1 (by have := HRG.out.2; omega)).mono ?_
  rintro _ W6 ⟨rfl, hb⟩
  replace HCL := Lib.hid (HCL.out.later hb)
  replace HD := Lib.hid (HD.out.later hb)
  replace HB := Lib.hid (below_step HB.out hb)
  clear hb m0 m1 m2 HMB
  rw [← HSUM.out]
  clear HSUM HRG
  have q10 : W6.cell? ⟨Q, 10, none⟩ = some (.slice D.s.o D.s.l.length D.s.cap) := HD.out.cell 10
  go_wp2
  clear q10
  go_loopw [17, 55] (fun a i wr => ∃ k : Nat, k ≤ D.s.l.length ∧ i = .int .i64 k ∧ a = .int .i64 (sumL (D.s.l.take k)) ∧ Below W6.heap.size W6 wr) (fun _ i _ => D.s.l.length - (intOf i).toNat)
  case atStart => exact ⟨0, Nat.zero_le _, rfl, rfl, Below.refl _ _⟩
  case round =>
    obtain ⟨k, hkl, rfl, rfl, hbl⟩ := hrel
    obtain ⟨wA, rfl⟩ : ∃ wA : World, wA = wr := ⟨_, rfl⟩
    have HBL := Lib.hid hbl
    clear hbl
    by_cases hlt : k < D.s.l.length
    · obtain ⟨bs, fs, hso, s0, s1⟩ := (HCL.out.later HBL.out).sls k hlt
      have HTK := Lib.hid (sumL_take hlt)
      have HSB := Lib.hid (sumL_bound HALL.out k (by omega))
      have HSC := Lib.hid (sumL_bound HALL.out (k + 1) hlt)
      have hn40 := HNL.out
      rw [hso]
      obtain ⟨x, hx⟩ : ∃ x, D.s.l.getD k (0, 0) = x := ⟨_, rfl⟩
      rw [hx] at s0 s1 HTK
      clear hx
      obtain ⟨S, hS⟩ : ∃ S, sumL (D.s.l.take k) = S := ⟨_, rfl⟩
      rw [hS] at HTK HSB ⊢
      clear hS
      have wsm : IntKind.i64.wrap (S + x.2) = S + x.2 := IntWalk.i64_in _ (by have h1 := HTK.out; have h2 := HSC.out; omega)
      have y1 : (0 : Int) ≤ (k : Int) := by omega
      have y2 : (k : Int) < (D.s.l.length : Int) := by omega
      go_upto_region 12 with (fail)
      obtain ⟨W7, hW7⟩ : ∃ W, W = wA.alloc (.cells #[.int .i64 x.1, .int .i64 x.2] 50) := ⟨_, rfl⟩
      have HX := Lib.hid (show Blk W7 wA.heap.size 50 #[.int .i64 x.1, .int .i64 x.2] by rw [hW7]; exact Blk.new _ _ _)
      have HB7 := Lib.hid (show Below W6.heap.size W6 W7 by rw [hW7]; exact below_alloc HBL.out _)
      rw [← hW7]
      clear hW7 s0 s1
      have x1 : W7.cell? ⟨wA.heap.size, 1, none⟩ = some (.int .i64 x.2) := HX.out.cell 1
      go_wp2
      go_roundw
      case rel => exact ⟨k + 1, hlt, by go_num, by rw [HTK.out], HB7.out⟩
      case measure => simp [intOf]; omega
    · obtain rfl : k = D.s.l.length := by omega
      rw [List.take_length]
      replace HCL := Lib.hid (HCL.out.later HBL.out)
      replace HD := Lib.hid (HD.out.later HBL.out)
      replace HB := Lib.hid (below_step HB.out HBL.out)
      obtain ⟨S, hS⟩ : ∃ S, sumL D.s.l = S := ⟨_, rfl⟩
      rw [hS]
      clear HBL HALL HNL hS
      have q0 : wA.cell? ⟨Q, 0, none⟩ = some (.string D.nm) := HD.out.cell 0
      have q1 : wA.cell? ⟨Q, 1, none⟩ = some (.slice D.oa D.arts.length D.ca) := HD.out.cell 1
      have q2 : wA.cell? ⟨Q, 2, none⟩ = some (.int .i64 D.off) := HD.out.cell 2
      have q3 : wA.cell? ⟨Q, 3, none⟩ = some (.slice D.oc D.chg.length D.cc) := HD.out.cell 3
      have q4 : wA.cell? ⟨Q, 4, none⟩ = some (.slice D.oh D.hol.length D.ch) := HD.out.cell 4
      have q5 : wA.cell? ⟨Q, 5, none⟩ = some (.slice D.od D.rds.length D.cd) := HD.out.cell 5
      have q6 : wA.cell? ⟨Q, 6, none⟩ = some (.int .u64 (D.seed : Nat)) := HD.out.cell 6
      have q7 : wA.cell? ⟨Q, 7, none⟩ = some (.int .i64 D.s.f) := HD.out.cell 7
      have q8 : wA.cell? ⟨Q, 8, none⟩ = some (.int .i64 D.s.t) := HD.out.cell 8
      have q9 : wA.cell? ⟨Q, 9, none⟩ = some (.int .i64 D.s.e) := HD.out.cell 9
      have q10 : wA.cell? ⟨Q, 10, none⟩ = some (.slice D.s.o D.s.l.length D.s.cap) := HD.out.cell 10
      have q11 : wA.cell? ⟨Q, 11, none⟩ = some (.slice D.b.o D.b.l.length D.b.cap) := HD.out.cell 11
      have q12 : wA.cell? ⟨Q, 12, none⟩ = some (.int .i64 D.b.net) := HD.out.cell 12
      have q13 : wA.cell? ⟨Q, 13, none⟩ = some (.int .i64 D.b.tax) := HD.out.cell 13
      have q14 : wA.cell? ⟨Q, 14, none⟩ = some (.int .i64 D.b.tot) := HD.out.cell 14
      have HV5 := Lib.hid (verify_any D wA HCL.out)
      rw [HV.out] at HV5
      go_wp2_with fail
      refine HV5.out.mono ?_
      rintro _ W8 ⟨rfl, hb⟩
      replace HB := Lib.hid (below_step HB.out hb)
      clear hb q0 q1 q2 q3 q4 q5 q6 q7 q8 q9 q10 q11 q12 q13 q14
      go_wp2
      go_ret
      exact ⟨rfl, HB.out⟩
theorem topMetered_row (nm : ByteArray) (oa : Option Addr) (ca : Nat) (arts : List Art) (off : Int) (oc : Option Addr) (cc : Nat) (chg : List (Int × Int)) (oh : Option Addr) (ch : Nat) (hol : List Int) (seed f : Int) (om : Option Addr) (cm : Nat) (ms : List (Nat × Nat)) (w : World) (hA : Arts w oa arts) (hT : Twos w oc chg) (hI : Ints w oh hol) (s0 : 0 ≤ seed) (s1 : seed < 18446744073709551616) (f0 : -9223372036854775808 ≤ f) (f1 : f ≤ 9223372036854775807) (hM : MinM w om ms) : Calls Tryz.prog 3 #[.agg #[.string nm, .slice oa arts.length ca], .agg #[.int .i64 off, .slice oc chg.length cc, .slice oh hol.length ch], .int .u64 seed, .int .i64 f, .slice om ms.length cm] w (Ret (.bool true) w) := by
  obtain ⟨s, rfl⟩ : ∃ s : Nat, seed = s := ⟨seed.toNat, by omega⟩
  exact topMetered_any w ⟨nm, oa, ca, arts, off, oc, cc, chg, oh, ch, hol, none, 0, [], s, SesA.zero, BilA.zero⟩ (by show s < 18446744073709551616; omega) f om cm ms hA ⟨hT, hI⟩ hM f0 f1
end Go.Proofs.YtkfmmiekajgdjaaGreat