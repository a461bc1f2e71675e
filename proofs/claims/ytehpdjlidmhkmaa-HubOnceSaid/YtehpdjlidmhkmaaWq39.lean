/- Chapter 39: Receive. -/
import Derived.Test.YtehpdjlidmhkmaaWqa39
import Derived.Maps.OwnIn
namespace Go.Proofs.Ytehpdjlidmhkmaa
open Go.RowKit Go.Shelf
attribute [local go_sem] Oper.semAt_some

set_option maxRecDepth 100000 in
set_option maxHeartbeats 32000000 in
theorem Receive_new (o : Option Addr) (cap : Nat) (l : List Bx) (m : Msg) (w : World) (hr : Bxs w o l) (hl : l.length ≤ 1000000000000000) : Calls Try.prog 12 #[.slice o l.length cap, msgV m] w (RecvNew l m w) := by
  have HR := Lib.hid hr
  clear hr
  obtain ⟨n, hn⟩ : ∃ n : Nat, 6 ≤ n := ⟨8, by omega⟩
  refine (callsIn_wide (n := n)).1 ?_
  refine callsIn_of_wp_marks Try.func12 rfl trivial ?_ rfl
  simp only [Try.ntmps12, List.size_toArray, List.length_cons, List.length_nil, Nat.reduceAdd, Nat.reduceSub, Array.replicate_succ, Array.replicate_zero, List.push_toArray, List.append_toArray, List.nil_append, List.cons_append]
  refine wpIn_wide.2 ?_
  go_wp2_with fail
  have HBM0 := Lib.hid (Box3.new w 24 (.int .i64 m.f) (.int .i64 m.n) (.int .i64 m.b))
  refine (Valid_any o cap l _ (HR.out.later HBM0.out.below) (by omega)).mono ?_
  rintro e w1 ⟨rfl, hb1⟩
  have HBM := Lib.hid (HBM0.out.later hb1)
  clear hb1 HBM0
  obtain ⟨V, hV⟩ : ∃ V, validL l = V := ⟨_, rfl⟩
  rw [hV]
  have HV := Lib.hid hV
  clear hV
  cases V with
  | false =>
    have HE := Lib.hid (show recvE l m = 1 from recvE_arg (by rw [HV.out]; rfl))
    go_wp2
    refine ⟨.tuple #[.slice none 0 0, .slice none 0 0, .int .i64 1], by simp [results, Try.results12, go_sem], RecvNew.err HBM.out.below HE.out (by decide)⟩
  | true =>
  have m0 := HBM.out.c0
  have m1 := HBM.out.c1
  have m2 := HBM.out.c2
  go_wp2_with fail
  clear m0 m1 m2
  refine (validMessage_any m w1).mono ?_
  rintro e w2 ⟨rfl, hb2⟩
  replace HBM := Lib.hid (HBM.out.later hb2)
  clear hb2
  obtain ⟨VM, hVM⟩ : ∃ VM, validM m = VM := ⟨_, rfl⟩
  rw [hVM]
  have HVM := Lib.hid hVM
  clear hVM
  cases VM with
  | false =>
    have HE := Lib.hid (show recvE l m = 1 from recvE_arg (by rw [HV.out, HVM.out]; rfl))
    go_wp2
    refine ⟨.tuple #[.slice none 0 0, .slice none 0 0, .int .i64 1], by simp [results, Try.results12, go_sem], RecvNew.err HBM.out.below HE.out (by decide)⟩
  | true =>
  have HVL := Lib.hid (validL_iff.1 HV.out)
  have hl64 := HVL.out.1
  have m0 := HBM.out.c0
  go_wp2_with fail
  clear m0
  refine (findB_any o cap l m.f w2 (HR.out.later HBM.out.below) hl).mono ?_
  rintro e w3 ⟨rfl, hb3⟩
  replace HBM := Lib.hid (HBM.out.later hb3)
  clear hb3
  have HEE := Lib.hid (recvE_check HV.out HVM.out)
  have HWB := Lib.hid (withBox_at (m := m) HVL.out.2.2)
  have hTl : atF l m.f ≤ l.length := (cutF (f := m.f) HVL.out.2.2).1
  have hws : (boxOf l m.f).ws.length ≤ 64 := by rw [boxOf_eq HVL.out.2.2]; exact Nat.le_trans ws_le HVL.out.2.1
  have HBX : Hid (∃ (oo : Option Addr) (cp : Nat), GoodA w3 ⟨boxOf l m.f, oo, cp⟩ ∧ (knownF l m.f = false → oo = none ∧ cp = 0 ∧ boxOf l m.f = ⟨m.f, 1, []⟩) ∧ (knownF l m.f = true → ∃ b off, o = some ⟨b, off, none⟩ ∧ atF l m.f < l.length ∧ w3.cell? ⟨b, off + atF l m.f * 3, none⟩ = some (.int .i64 (boxOf l m.f).f) ∧ w3.cell? ⟨b, off + atF l m.f * 3 + 1, none⟩ = some (.int .i64 (boxOf l m.f).x) ∧ w3.cell? ⟨b, off + atF l m.f * 3 + 2, none⟩ = some (.slice oo (boxOf l m.f).ws.length cp))) := Lib.hid (by
    by_cases hk : knownF l m.f = true
    · have hh := (cut_has HVL.out.2.2 (cutF HVL.out.2.2)).1.1 (by rw [← knownF_has HVL.out.2.2]; exact hk)
      obtain ⟨b, off, hbo, oo, cp, k1, k2, k3, c0, c1, c2⟩ := (HR.out.later HBM.out.below) (atF l m.f) hh.1
      have e : boxOf l m.f = getB l (atF l m.f) := by unfold boxOf; rw [if_pos hk]
      rw [e]
      exact ⟨oo, cp, ⟨k3, k1, k2⟩, fun h => (by rw [hk] at h; cases h), fun _ => ⟨b, off, hbo, hh.1, c0, c1, c2⟩⟩
    · have e : boxOf l m.f = ⟨m.f, 1, []⟩ := by unfold boxOf; rw [if_neg hk]
      rw [e]
      exact ⟨none, 0, ⟨Msgs.nil, by simp, by simp⟩, fun _ => ⟨rfl, rfl, rfl⟩, fun h => absurd h hk⟩)
  have HXV := Lib.hid (show validB (boxOf l m.f) = true by rw [boxOf_eq HVL.out.2.2]; exact ofF_valid (validM_iff.1 HVM.out).1 HVL.out.2.2)
  have HXF := Lib.hid (show (boxOf l m.f).f = m.f by rw [boxOf_eq HVL.out.2.2]; exact ofF_f _ _)
  obtain ⟨x, hx⟩ : ∃ x, boxOf l m.f = x := ⟨_, rfl⟩
  obtain ⟨K, hK⟩ : ∃ K, knownF l m.f = K := ⟨_, rfl⟩
  obtain ⟨T, hT⟩ : ∃ T, atF l m.f = T := ⟨_, rfl⟩
  have HX := Lib.hid hx
  have HK := Lib.hid hK
  have HT := Lib.hid hT
  rw [hx, hK] at HEE
  rw [hx, hT] at HWB
  rw [hx] at hws HXV HXF
  rw [hx, hK, hT] at HBX
  rw [hT] at hTl
  rw [hK, hT]
  clear hx hK hT
  obtain ⟨oo, cp, hga, hkf, hkt⟩ := HBX.out
  have HGA := Lib.hid hga
  have HKF := Lib.hid hkf
  have HKT := Lib.hid hkt
  clear hga hkf hkt HBX
  have hxx : 1 ≤ x.x ∧ x.x ≤ 1000001 := (validB_iff.1 HXV.out).2.1
  have hmn : 1 ≤ m.n ∧ m.n ≤ 1000000 := (validM_iff.1 HVM.out).2.1
  have m0 := HBM.out.c0
  have hmlt : w.heap.size < w3.heap.size := cell_lt m0
  have HB4 := Lib.hid (Box3.new w3 42 (.int .i64 m.f) (.int .i64 1) (.slice none 0 0))
  go_upto_if 36 with (fail)
  clear m0
  go_cut [] from 37 to 40 (fun wc' => Below w3.heap.size w3 wc' ∧ Blk wc' w3.heap.size 42 #[.int .i64 x.f, .int .i64 x.x, .slice oo x.ws.length cp])
  case first =>
    cases K with
    | true =>
      obtain ⟨b, off, hbo, hTlt, c0, c1, c2⟩ := HKT.out rfl
      subst hbo
      have hbl : b < w3.heap.size := cell_lt c0
      replace c0 := cell_kept HB4.out.below c0
      replace c1 := cell_kept HB4.out.below c1
      replace c2 := cell_kept HB4.out.below c2
      have y1 : (0 : Int) ≤ (T : Int) := by omega
      have y2 : (T : Int) < (l.length : Int) := by omega
      go_wp2_with fail
      go_meet
      case rel => exact ⟨below_alloc (Below.refl _ _) _, Blk.new ..⟩
    | false =>
      obtain ⟨rfl, rfl, hx⟩ := HKF.out rfl
      subst hx
      go_wp2_with fail
      go_meet
      case rel => exact ⟨HB4.out.below, Blk.new ..⟩
  case rest =>
    obtain ⟨hbc, hblk⟩ := hcut
    have HBL := Lib.hid hblk
    replace HBM := Lib.hid (HBM.out.later hbc)
    replace HGA := Lib.hid (HGA.out.later hbc)
    clear hbc hblk HB4 HKT
    have b2 : wc.cell? ⟨w3.heap.size, 2, none⟩ = some (.slice oo x.ws.length cp) := HBL.out.cell 2
    have m1 := HBM.out.c1
    go_wp2_with fail
    clear b2 m1
    refine (findM_any oo cp x.ws m.n wc HGA.out.ms (by omega)).mono ?_
    rintro e w5 ⟨rfl, hb5⟩
    replace HBM := Lib.hid (HBM.out.later hb5)
    replace HGA := Lib.hid (HGA.out.later hb5)
    replace HBL := Lib.hid (HBL.out.later hb5)
    clear hb5
    have hPl : atN x.ws m.n ≤ x.ws.length := (cutN (n := m.n) (validB_iff.1 HXV.out).2.2).1
    obtain ⟨PL, hPL⟩ : ∃ PL, atN x.ws m.n = PL := ⟨_, rfl⟩
    obtain ⟨WT, hWT⟩ : ∃ WT, knownN x.ws m.n = WT := ⟨_, rfl⟩
    rw [hWT] at HEE
    rw [hPL] at hPl
    rw [hPL, hWT]
    have HPL := Lib.hid hPL
    clear hPL hWT
    have b0 : w5.cell? ⟨w3.heap.size, 0, none⟩ = some (.int .i64 x.f) := HBL.out.cell 0
    have b1 : w5.cell? ⟨w3.heap.size, 1, none⟩ = some (.int .i64 x.x) := HBL.out.cell 1
    have b2 : w5.cell? ⟨w3.heap.size, 2, none⟩ = some (.slice oo x.ws.length cp) := HBL.out.cell 2
    have m0 := HBM.out.c0
    have m1 := HBM.out.c1
    have m2 := HBM.out.c2
    go_wp2_with fail
    clear b0 b1 b2 m0 m1 m2
    refine (check_any o cap l m x oo cp K WT w5 (HR.out.later HBM.out.below) (by omega)).mono ?_
    rintro e w6 ⟨rfl, hb6⟩
    replace HBM := Lib.hid (HBM.out.later hb6)
    replace HGA := Lib.hid (HGA.out.later hb6)
    replace HBL := Lib.hid (HBL.out.later hb6)
    clear hb6
    obtain ⟨E, hE⟩ : ∃ E, checkE l m x K WT = E := ⟨_, rfl⟩
    rw [hE] at HEE ⊢
    clear hE
    by_cases hE0 : E = 0
    rotate_left
    · have hEb : (E != 0) = true := by simpa using hE0
      have HE0 := Lib.hid hE0
      clear hE0
      go_wp2
      refine ⟨.tuple #[.slice none 0 0, .slice none 0 0, .int .i64 E], by simp [results, Try.results12, go_sem], RecvNew.err HBM.out.below HEE.out HE0.out⟩
    subst hE0
    have HTK := Lib.hid (took HEE.out)
    have HBM0W := Lib.hid HBM.out.below
    go_wp2_with fail
    refine (duplicate_any o cap l w6 (HR.out.later HBM.out.below) (by omega) HVL.out.2.1).mono ?_
    rintro e w7 ⟨v7, ls, rfl, hls, hrow7, hgood7, hap7, hlo7⟩
    have HLS := Lib.hid hls
    have HRW := Lib.hid hrow7
    have HGD := Lib.hid hgood7
    have HAP := Lib.hid hap7
    have HLO := Lib.hid hlo7
    replace HBM := Lib.hid (HBM.out.later hrow7.below)
    replace HGA := Lib.hid (HGA.out.later hrow7.below)
    replace HBL := Lib.hid (HBL.out.later hrow7.below)
    clear hls hrow7 hgood7 hap7 hlo7
    have HLB := Lib.hid (show withBox l m = if K = true then l else l.take T ++ x :: l.drop T by unfold withBox; rw [HK.out, HT.out, HX.out])
    obtain ⟨L2, hL2⟩ : ∃ L2, withBox l m = L2 := ⟨_, rfl⟩
    rw [hL2] at HLB HWB
    clear hL2
    have hT2 : T < L2.length := HWB.out.1
    have b0 : w7.cell? ⟨w3.heap.size, 0, none⟩ = some (.int .i64 x.f) := HBL.out.cell 0
    have b1 : w7.cell? ⟨w3.heap.size, 1, none⟩ = some (.int .i64 x.x) := HBL.out.cell 1
    have b2 : w7.cell? ⟨w3.heap.size, 2, none⟩ = some (.slice oo x.ws.length cp) := HBL.out.cell 2
    go_upto_if 61 with (fail)
    go_cut [13] from 62 to 65 (fun s wc' => ∃ (g cap2 : Nat) (ls2 : List BxA), s = .slice (some ⟨g, 0, none⟩) L2.length cap2 ∧ OutR w6 wc' L2 g cap2 ls2 ∧ Below w7.heap.size w7 wc')
    case first =>
      cases K with
      | true =>
        obtain rfl : L2 = l := by rw [HLB.out, if_pos rfl]
        obtain ⟨g, cap2, rfl, hout⟩ := OutR.known (by omega) HLS.out HRW.out HGD.out HAP.out HLO.out
        go_wp2_with fail
        go_meet
        case rel => exact ⟨g, cap2, ls, rfl, hout, Below.refl _ _⟩
      | false =>
        have HLX := Lib.hid (show LowA w6.heap.size ⟨x, oo, cp⟩ from fun p hp _ => by rw [(HKF.out rfl).1] at hp; cases hp)
        obtain ⟨o7, c7, rfl, hc7⟩ := HRW.out.shape
        have HLE := Lib.hid (show ls.length = l.length by rw [← HLS.out, bxs_length])
        go_wp2_with fail
        refine (insertedB_any o7 c7 l.length T (flatB ls) ⟨x, oo, cp⟩ w7 HRW.out.cells (by rw [flatB_length, HLE.out]) (flatB_one' ls) (by omega) hc7 hTl).mono ?_
        rintro e w8 ⟨g, cap2, rfl, hrow8⟩
        have HO8 := Lib.hid (OutR.ins HRW.out.below HLS.out HGD.out HGA.out HLO.out HLX.out hrow8)
        have HB8 := Lib.hid hrow8.below
        clear hrow8
        have e2 : L2 = l.take T ++ x :: l.drop T := by rw [HLB.out, if_neg (by decide)]
        have e3 : L2.length = l.length + 1 := by rw [e2]; simp; omega
        rw [← e2] at HO8
        have HE3 := Lib.hid e3
        clear e2 e3
        go_wp2_with fail
        go_meet
        case rel => exact ⟨g, cap2, _, by rw [HE3.out], HO8.out, HB8.out⟩
    case rest =>
      obtain ⟨g, cap2, ls2, rfl, hout, hb8⟩ := hcut
      have HO := Lib.hid hout
      replace HBM := Lib.hid (HBM.out.later hb8)
      have HW7 := Lib.hid (show w6.heap.size ≤ w7.heap.size from HRW.out.below.size)
      clear hout hb8 HLS HRW HGD HAP HLO HGA HBL HKF HLB b0 b1 b2 HEE
      have HTW := Lib.hid HTK.out.waits
      have HTG := Lib.hid HTK.out.ge
      have HTN := Lib.hid HTK.out.new
      have HNB := Lib.hid HTK.out.newBox
      have HOV := Lib.hid HTK.out.over
      rw [← boxOf_eq HVL.out.2.2, HX.out] at HTW HTG HTN HNB HOV
      obtain ⟨a2, ha2⟩ : ∃ a2, getA ls2 T = a2 := ⟨_, rfl⟩
      have ha2b : a2.b = x := by rw [← ha2, HO.out.getA hT2, HWB.out.2.1]
      obtain ⟨xb, o2, cp2⟩ := a2
      obtain rfl : xb = x := ha2b
      have HA2 := Lib.hid ha2
      have hgd2 := HO.out.good _ (getA_mem (i := T) (by rw [HO.out.len]; exact hT2))
      have hap2 := HO.out.apart _ (getA_mem (i := T) (by rw [HO.out.len]; exact hT2))
      have hlw2 := HO.out.lowb _ (getA_mem (i := T) (by rw [HO.out.len]; exact hT2))
      rw [ha2] at hgd2 hap2 hlw2
      have HLW2 := Lib.hid hlw2
      have HG2 := Lib.hid hgd2
      have HP2 := Lib.hid hap2
      have hcp2 : xb.ws.length ≤ cp2 := hgd2.cap
      clear ha2 hgd2 hap2 hlw2
      obtain ⟨f0, f1, f2⟩ := HO.out.cells hT2 HA2.out
      have m0 := HBM.out.c0
      have m1 := HBM.out.c1
      have m2 := HBM.out.c2
      have y1 : (0 : Int) ≤ (T : Int) := by omega
      have y2 : (T : Int) < (L2.length : Int) := by omega
      have HRL := Lib.hid HWB.out.2.2
      by_cases hxm : xb.x < m.n
      · have HOV0 := Lib.hid (show overOf l m = [] by rw [HOV.out]; unfold ov; rw [if_pos hxm])
        have HNB0 := Lib.hid (show newBox l m = ⟨xb.f, xb.x, xb.ws.take PL ++ m :: xb.ws.drop PL⟩ by rw [HNB.out, ← HPL.out, insCut HTW.out HTN.out]; unfold nb; rw [if_pos hxm, HXF.out])
        have HLW := Lib.hid (show (xb.ws.take PL ++ m :: xb.ws.drop PL).length = xb.ws.length + 1 by simp; omega)
        go_wp2_with fail
        go_quiet (fail)
        go_wp2_with fail
        obtain ⟨W9, hW9⟩ : ∃ W9 : World, W9 = wc.drewN nq := ⟨_, rfl⟩
        rw [← hW9]
        have HO9 := Lib.hid (show OutR w6 W9 L2 g cap2 ls2 from by rw [hW9]; exact HO.out.later (below_drewN (Below.refl _ _) _))
        have HM9 := Lib.hid (show Box3 w W9 (.int .i64 m.f) (.int .i64 m.n) (.int .i64 m.b) from by rw [hW9]; exact HBM.out.later (below_drewN (Below.refl _ _) _))
        have HG9 := Lib.hid (show GoodA W9 ⟨xb, o2, cp2⟩ from by rw [hW9]; exact HG2.out.later (below_drewN (Below.refl _ _) _))
        clear hW9 f0 f1 f2 m0 m1 m2 HG2
        refine wp_region_mask [7, 10] [true, true, true, true, true, true, true, false, true, true, false] (fun w'' => w''.cell? ⟨g, T * 3 + 2, none⟩ = some (.slice o2 xb.ws.length cp2) ∧ w''.cell? ⟨w.heap.size, 0, none⟩ = some (.int .i64 m.f) ∧ w''.cell? ⟨w.heap.size, 1, none⟩ = some (.int .i64 m.n) ∧ w''.cell? ⟨w.heap.size, 2, none⟩ = some (.int .i64 m.b)) mixed (by kernel_rfl) ?_
        intro KR hR
        have HR := Lib.hid hR
        clear hR
        simp only [marked]
        ((with_reducible refine wpM_move ?_ ?_); exact rfl; simp only [Act.put, List.setIfInBounds_toArray, List.set_cons_zero, List.set_cons_succ])
        ((with_reducible refine wpM_move ?_ ?_); exact rfl; simp only [Act.put, List.setIfInBounds_toArray, List.set_cons_zero, List.set_cons_succ])
        apply wpM_val rfl
        · (intro w' hw'; go_simp; with_reducible rfl)
        simp only [Act.put, List.setIfInBounds_toArray, List.set_cons_zero, List.set_cons_succ]
        apply wpM_val rfl
        · (intro w' hw'; go_simp; with_reducible rfl)
        simp only [Act.put, List.setIfInBounds_toArray, List.set_cons_zero, List.set_cons_succ]
        apply wpM_val rfl
        · (intro w' hw'; obtain ⟨c0, c1, c2, c3⟩ := hw'; go_simp; with_reducible rfl)
        simp only [Act.put, List.setIfInBounds_toArray, List.set_cons_zero, List.set_cons_succ]
        ((with_reducible refine wpM_move ?_ ?_); exact rfl; simp only [Act.put, List.setIfInBounds_toArray, List.set_cons_zero, List.set_cons_succ])
        apply wpM_val rfl
        · (intro w' hw'; obtain ⟨c0, c1, c2, c3⟩ := hw'; go_simp; with_reducible rfl)
        simp only [Act.put, List.setIfInBounds_toArray, List.set_cons_zero, List.set_cons_succ]
        apply wpM_val rfl
        · (intro w' hw'; go_simp; with_reducible rfl)
        simp only [Act.put, List.setIfInBounds_toArray, List.set_cons_zero, List.set_cons_succ]
        apply wpM_val rfl
        · (intro w' hw'; go_simp; with_reducible rfl)
        simp only [Act.put, List.setIfInBounds_toArray, List.set_cons_zero, List.set_cons_succ]
        refine wpM_nil (HR.out _ ?_)
        clear HR
        have HJ := Lib.hid (fun (w' : World) (hb : Below W9.heap.size W9 w') => show w'.cell? ⟨g, T * 3 + 2, none⟩ = some (.slice o2 xb.ws.length cp2) ∧ w'.cell? ⟨w.heap.size, 0, none⟩ = some (.int .i64 m.f) ∧ w'.cell? ⟨w.heap.size, 1, none⟩ = some (.int .i64 m.n) ∧ w'.cell? ⟨w.heap.size, 2, none⟩ = some (.int .i64 m.b) from ⟨cell_kept hb (HO9.out.cells hT2 HA2.out).2.2, cell_kept hb HM9.out.c0, cell_kept hb HM9.out.c1, cell_kept hb HM9.out.c2⟩)
        have HBD := Lib.hid (show Below W9.heap.size W9 W9.drew from (Below.refl _ _).drew)
        refine wpC_call (f := 33) (args := #[.slice o2 xb.ws.length cp2, .int .i64 (PL : Nat), msgV m]) (w' := W9.drew) rfl rfl (HJ.out _ HBD.out) (by go_simp) ?_
        refine (insertedM_any o2 cp2 xb.ws.length PL (flatM xb.ws) m W9.drew (HG9.out.ms.later HBD.out).cells (by rw [flatM_length]) (flatM_one' xb.ws) (by omega) hcp2 hPl).mono ?_
        rintro e w11 ⟨g3, cap3, rfl, hrow11⟩
        refine ⟨_, rfl, ?_⟩
        simp only [Act.put, List.setIfInBounds_toArray]
        have HB11 := Lib.hid (below_step HBD.out hrow11.below)
        have HO11 := Lib.hid (HO9.out.later HB11.out)
        have HLG3 := Lib.hid (show LowA w6.heap.size ⟨⟨xb.f, xb.x, xb.ws.take PL ++ m :: xb.ws.drop PL⟩, some ⟨g3, 0, none⟩, cap3⟩ from fun p hp _ => by injection hp with hp; subst hp; have h1 := HO9.out.row.below.size; have h2 := hrow11.block.1; have h3 := HBD.out.size; show w6.heap.size ≤ g3; omega)
        have hne3 : g ≠ g3 := fun e => by have h1 := HO9.out.row.block.2; have h2 := hrow11.block.1; have h3 := HBD.out.size; omega
        have hcap3 : xb.ws.length + 1 ≤ cap3 := by obtain ⟨_, _, hv, hc⟩ := hrow11.shape; injection hv with _ _ hv; omega
        rw [flatM_ins] at hrow11
        have HM11 := Lib.hid hrow11.msgs
        clear hrow11
        obtain ⟨f0, f1, f2⟩ := HO11.out.cells hT2 HA2.out
        have fz := HO11.out.row.frozenAt (T * 3 + 2)
        refine wpC_skip rfl rfl (HJ.out _ HB11.out) (w' := w11.setCell ⟨g, T * 3 + 2, none⟩ (.slice (some ⟨g3, 0, none⟩) (xb.ws.length + 1) cap3)) (by go_simp) ?_
        simp only [Act.put]
        refine wpC_nil ?_
        clear f0 f1 f2 fz
        have HO12 := Lib.hid (HO11.out.set2 hT2 HA2.out (ws := xb.ws.take PL ++ m :: xb.ws.drop PL) (o2 := some ⟨g3, 0, none⟩) (c2 := cap3) (n2 := xb.ws.length + 1) HLW.out.symm ⟨HM11.out, by rw [HLW.out]; omega, by rw [HLW.out]; exact hcap3⟩ (fun p hp _ e => by injection hp with hp; subst hp; exact hne3 e.symm) HLG3.out)
        have HBF := Lib.hid (below_step (below_step HBM0W.out HO12.out.row.below) (Below.refl _ _))
        go_wp2
        refine ⟨.tuple #[.slice (some ⟨g, 0, none⟩) L2.length cap2, .slice none 0 0, .int .i64 0], by simp [results, Try.results12, go_sem], ?_⟩
        exact RecvNew.ok HBF.out HTK.out.zero (by rw [HRL.out, HNB0.out]) HOV0.out (by simp) rfl (HO12.out.bxsL HBM0W.out.size) Msgs.nil (fun p hp => by cases hp)
      · have HOV0 := Lib.hid (show overOf l m = m :: runOf (m.n + 1) xb.ws by rw [HOV.out]; unfold ov; rw [if_neg hxm])
        have HNB0 := Lib.hid (show newBox l m = ⟨xb.f, xb.x + 1 + (runOf (m.n + 1) xb.ws).length, xb.ws.drop (runOf (m.n + 1) xb.ws).length⟩ by rw [HNB.out]; unfold nb; rw [if_neg hxm, HXF.out])
        have hxb : decide (xb.x < m.n) = false := by simpa using hxm
        go_wp2_with fail
        go_quiet (fail)
        obtain ⟨W8, hW8⟩ : ∃ W8 : World, W8 = wc := ⟨_, rfl⟩
        subst hW8
        obtain ⟨B, hB⟩ : ∃ B : Nat, W8.heap.size = B := ⟨_, rfl⟩
        have HLOW := Lib.hid (show (∀ a ∈ ls2, ∀ p : Addr, a.o = some p → 0 < a.b.ws.length → p.block < B) ∧ g < B ∧ w6.heap.size ≤ B ∧ w.heap.size < B from by
          rw [← hB]
          exact ⟨fun a ha p hp hl => (HO.out.good a ha).ms.lt p hp hl, HO.out.row.block.2, HO.out.row.below.size, cell_lt m0⟩)
        go_upto_region 18 with (fail)
        go_cut [15] from 17 to 130 (fun s wc' => s = .pointer (some ⟨B, 0, none⟩) ∧ Below W8.heap.size W8 wc' ∧ Blk wc' B 27 #[.slice none 0 0])
        case first =>
          have HBK := Lib.hid (show Blk ((W8.drewN nq).alloc (.cells #[.slice none 0 0] 27)) B 27 #[.slice none 0 0] from by rw [← hB]; exact Blk.new (W8.drewN nq) _ _)
          have HBB := Lib.hid (show Below W8.heap.size W8 ((W8.drewN nq).alloc (.cells #[.slice none 0 0] 27)) from below_step (below_drewN (Below.refl _ _) _) (below_alloc (Below.refl _ _) _))
          have HB := Lib.hid hB
          clear hB
          go_wp2_with fail
          go_meet
          case rel => exact ⟨by rw [← HB.out], HBB.out, HBK.out⟩
        case rest =>
          obtain ⟨rfl, hb9, hbk9⟩ := hcut
          have HBK := Lib.hid hbk9
          replace HO := Lib.hid (HO.out.later hb9)
          replace HBM := Lib.hid (HBM.out.later hb9)
          replace HG2 := Lib.hid (HG2.out.later hb9)
          have HLO2 := Lib.hid (show ∀ p : Addr, o2 = some p → 0 < xb.ws.length → p.block < B from fun p hp hl => HLOW.out.1 ⟨xb, o2, cp2⟩ (by rw [← HA2.out]; exact getA_mem (by rw [HO.out.len]; exact hT2)) p hp hl)
          clear hb9 hbk9 hB f0 f1 f2 m0 m1 m2 hxb
          go_wp2_with fail
          refine wp_region_B 5 (fun w'' => Below wc.heap.size wc w'') mixed (by kernel_rfl) (below_closed wc) (Below.refl _ _).drew ?_
          simp only [List.take_succ_cons, List.take_zero, List.drop_succ_cons, List.drop_zero]
          intro KR hR
          have HR := Lib.hid hR
          clear hR
          have HCC := Lib.hid (show ∀ w'', Below wc.heap.size wc w'' → w''.cell? ⟨g, T * 3 + 2, none⟩ = some (.slice o2 xb.ws.length cp2) ∧ w''.cell? ⟨w.heap.size, 0, none⟩ = some (.int .i64 m.f) ∧ w''.cell? ⟨w.heap.size, 1, none⟩ = some (.int .i64 m.n) ∧ w''.cell? ⟨w.heap.size, 2, none⟩ = some (.int .i64 m.b) from fun w'' hw => ⟨cell_kept hw (HO.out.cells hT2 HA2.out).2.2, cell_kept hw HBM.out.c0, cell_kept hw HBM.out.c1, cell_kept hw HBM.out.c2⟩)
          apply wpB_val rfl
          · (intro w' hw'; obtain ⟨c0, c1, c2, c3⟩ := HCC.out w' hw'; go_simp; with_reducible rfl)
          simp only [Act.put, List.setIfInBounds_toArray, List.set_cons_zero, List.set_cons_succ]
          ((with_reducible refine wpB_move ?_ ?_); exact rfl; simp only [Act.put, List.setIfInBounds_toArray, List.set_cons_zero, List.set_cons_succ])
          apply wpB_val rfl
          · (intro w' hw'; go_simp; with_reducible rfl)
          simp only [Act.put, List.setIfInBounds_toArray, List.set_cons_zero, List.set_cons_succ]
          apply wpB_val rfl
          · (intro w' hw'; go_simp; with_reducible rfl)
          simp only [Act.put, List.setIfInBounds_toArray, List.set_cons_zero, List.set_cons_succ]
          apply wpB_val rfl
          · (intro w' hw'; obtain ⟨c0, c1, c2, c3⟩ := HCC.out w' hw'; go_simp; with_reducible rfl)
          simp only [Act.put, List.setIfInBounds_toArray, List.set_cons_zero, List.set_cons_succ]
          refine wpB_nil (HR.out _ (fun w2 hw2 => ?_))
          clear HR HCC
          replace HO := Lib.hid (HO.out.later hw2)
          replace HBM := Lib.hid (HBM.out.later hw2)
          replace HG2 := Lib.hid (HG2.out.later hw2)
          replace HBK := Lib.hid (HBK.out.later hw2)
          clear hw2
          go_wp2_with fail
          refine (ready_any m o2 xb.ws.length cp2 w2).mono ?_
          rintro e w' ⟨rfl, rfl⟩
          obtain ⟨q, hq⟩ : ∃ q : Nat, w2.heap.size = q := ⟨_, rfl⟩
          rw [hq]
          have hBq : B < q := by rw [← hq]; exact HBK.out.lt
          obtain ⟨W0, hW0⟩ : ∃ W0 : World, W0 = (w2.alloc (.cells #[.int .i64 m.f, .int .i64 m.n, .int .i64 m.b] 24)).alloc (.cells #[.slice o2 xb.ws.length cp2] 27) := ⟨_, rfl⟩
          rw [← hW0]
          have HBE := Lib.hid (show Below w2.heap.size w2 W0 from by rw [hW0]; exact below_step (below_alloc (Below.refl _ _) _) (below_alloc (Below.refl _ _) _))
          have HSZ := Lib.hid (show q + 2 = W0.heap.size from by rw [hW0, World.size_alloc, World.size_alloc, hq])
          have HQ1 := Lib.hid (show Blk W0 q 24 #[.int .i64 m.f, .int .i64 m.n, .int .i64 m.b] from by rw [hW0, ← hq]; exact (Blk.new w2 _ _).alloc _)
          have HQ2 := Lib.hid (show Blk W0 (q + 1) 27 #[.slice o2 xb.ws.length cp2] from by have := Blk.new (w2.alloc (.cells #[.int .i64 m.f, .int .i64 m.n, .int .i64 m.b] 24)) 27 #[.slice o2 xb.ws.length cp2]; rw [World.size_alloc, hq] at this; rw [hW0]; exact this)
          replace HO := Lib.hid (HO.out.later HBE.out)
          replace HBM := Lib.hid (HBM.out.later HBE.out)
          replace HG2 := Lib.hid (HG2.out.later HBE.out)
          replace HBK := Lib.hid (HBK.out.later HBE.out)
          clear hW0 hq HBE
          have HI0 := Lib.hid (show OvSt W0 W0 B [] (.slice none 0 0) from ⟨HBK.out, World.ownsRow_nil .., Below.refl _ _, by have := HSZ.out; omega⟩)
          go_wp2_with fail
          refine (wpIn_wide (n := n)).1 ?_
          refine wpIn_rangeFunc_ownH (F := Fence.wide) rfl (by omega) (gf := 40) (lb := #[.pointer (some ⟨q, 0, none⟩), .pointer (some ⟨q + 1, 0, none⟩)]) rfl trivial (enters_of Try.func40 (by kernel_rfl) rfl)
            (ready_stops (n - 1) q B m o2 cp2 xb.ws (by omega) hmn W0 HLO2.out HQ1.out HQ2.out HG2.out.ms) (fun h k => h.trans k)
            (fun W lb ob ob' h1 h2 _ _ => ⟨(Below.refl _ _).grown (grownBy_putObj' W lb ob') (by have := (Array.getElem?_eq_some_iff.1 h2).1; have := HSZ.out; omega) (fun k e => by cases e; have := HSZ.out; omega), World.putObj_heap_other (by have := HSZ.out; omega), World.putObj_heap_other (by have := HSZ.out; omega)⟩)
            (Below.refl _ _) (fun _ => rfl)
            (fun pre W => ∃ v, OvSt W0 W B pre v)
            (fun _ _ _ => False)
            (fun s A C row hs hg hr => by obtain ⟨v, hs⟩ := hs; exact ⟨v, hs.turn hg hr⟩)
            (fun c s A C row hs hg hr => hs.elim)
            ⟨_, HI0.out⟩
            (fun x a' W => ∃ Bx, q + 1 < Bx ∧ Blk W Bx 24 #[.int .i64 x.f, .int .i64 x.n, .int .i64 x.b] ∧ a' = { tmps := #[Value.slice o l.length cap, msgV m, undef, Value.pointer (some ⟨w.heap.size, 0, none⟩), Value.slice none 0 0, Value.slice none 0 0, Value.int .i64 0, Value.int .i64 (T : Nat), Value.bool K, Value.pointer (some ⟨w3.heap.size, 0, none⟩), Value.int .i64 (PL : Nat), Value.bool WT, Value.int .i64 0, Value.slice (some ⟨g, 0, none⟩) L2.length cap2, Value.pointer (some ⟨g, T * 3, none⟩), Value.pointer (some ⟨B, 0, none⟩), Value.pointer (some ⟨Bx, 0, none⟩), u17, u18, u19, u20, u21, u22, u23, u24, u25, u26, u27, u28, u29, u30, u31, u32, u33, u34, u35, u36, u37, u38, u39, u40, u41, u42, u43, u44, u45, u46, u47, u48, u49, u50, u51, u52, u53, u54, u55, u56, u57, u58, u59, u60, u61, u62, u63, u64, u65, u66, u67, u68, u69, u70, u71, u72, u73, u74, u75, u76, u77, u78, u79, u80, u81, u82, u83, u84, u85, u86, msgV m, Value.pointer (some ⟨g, T * 3, none⟩), Value.pointer (some ⟨g, T * 3, none⟩), Value.pointer (some ⟨g, T * 3 + 2, none⟩), Value.slice o2 xb.ws.length cp2, Value.func (.func 40) #[] #[.pointer (some ⟨q, 0, none⟩), .pointer (some ⟨q + 1, 0, none⟩)], msgV x, u94, u95, u96, u97, u98, u99, u100, u101, u102, u103, u104, u105, u106, u107, u108, u109, u110, u111, u112, u113, u114, u115, u116, u117, u118, u119, u120, u121, u122, u123, u124, u125, u126, u127, u128, u129, u130], defers := [] })
            (fun x a' _ A C row hs hg hr => by
              obtain ⟨Bx, h1, h2, h3⟩ := hs
              refine ⟨Bx, h1, (hg.block Bx (Blk.lt h2) (fun e => ?_)).trans h2, h3⟩
              obtain ⟨_, ob, ho, hc⟩ := hr Bx e.symm
              rw [show A.heap[Bx]? = _ from h2] at ho
              cases ho
              cases hc)
            ?assign ?body ?done ?stop
          case stop => exact fun _ _ _ _ _ _ h => h.elim
          case assign =>
            rintro lp pre x W K' ⟨v, hst⟩ hK
            have HK' := Lib.hid hK
            have HS := Lib.hid hst
            have HZ := Lib.hid (show q + 1 < W.heap.size from by have := hst.bel.size; have := HSZ.out; omega)
            clear hK hst
            gi_wp2
            exact HK'.out _ _ ((KeepsOthers.alloc _ _).from _) ⟨(Below.refl _ W).alloc (by have := HZ.out; omega) _, Below.heap_alloc _ _ _ (by have := HZ.out; omega), Below.heap_alloc _ _ _ HZ.out⟩ ⟨v, HS.out.later (below_alloc (Below.refl _ _) _)⟩ ⟨W.heap.size, HZ.out, Blk.new W _ _, rfl⟩
          case body =>
            rintro lp pre x a' W _ _ ⟨v, hst⟩ ⟨Bx, hBx, hxb, rfl⟩ hpl
            obtain ⟨ov, cv, rfl, _⟩ := ownsRow_shape hst.row
            have HS := Lib.hid hst
            have c0 : W.cell? ⟨Bx, 0, none⟩ = some (.int .i64 x.f) := hxb.cell 0
            have c1 : W.cell? ⟨Bx, 1, none⟩ = some (.int .i64 x.n) := hxb.cell 1
            have c2 : W.cell? ⟨Bx, 2, none⟩ = some (.int .i64 x.b) := hxb.cell 2
            have b0 : W.cell? ⟨B, 0, none⟩ = some (.slice ov pre.length cv) := hst.box.cell 0
            have HZ := Lib.hid (show q + 2 ≤ W.heap.size from by have := hst.bel.size; have := HSZ.out; omega)
            clear hst hxb
            obtain ⟨ei, ez, e1, e2, e3, e4, e5⟩ := elemM.info
            have HEI := Lib.hid (And.intro e1 (And.intro e2 (And.intro e3 (And.intro e4 e5))))
            clear e1 e2 e3 e4 e5
            have HN1 := Lib.hid (show pre.length + 1 ≤ maxLen by simp only [maxLen]; omega)
            have HN2 := Lib.hid (show (pre.length + 1) * 24 ≤ 140737488355328 by omega)
            have HN3 := Lib.hid (show W0.heap.size ≤ (W.alloc (.cells #[.int .i64 x.f, .int .i64 x.n, .int .i64 x.b] 24)).heap.size by rw [World.size_alloc]; have := HSZ.out; have := HZ.out; omega)
            have HNW := Lib.hid (show ∀ j u, (msgC x)[j]? = some u → (W.alloc (.cells #[.int .i64 x.f, .int .i64 x.n, .int .i64 x.b] 24)).cell? ((⟨W.heap.size, 0, none⟩ : Addr).add j) = some u from fun j u hj => by
              have := (Blk.new W 24 #[.int .i64 x.f, .int .i64 x.n, .int .i64 x.b]).cell j
              rw [Addr.add_lit, Nat.zero_add]
              exact this.trans (by simpa using hj))
            have HSA := Lib.hid (HS.out.later (below_alloc (Below.refl _ _) (.cells #[.int .i64 x.f, .int .i64 x.n, .int .i64 x.b] 24)))
            gi_wp2_with (gi_at_builtin; refine wpListIn_append_own_at _ rfl _ _ 27 rfl W0.heap.size 24 ei ez 3 24 Try.underlying27 HEI.out.1 HEI.out.2.1 HEI.out.2.2.1 HEI.out.2.2.2.1 HEI.out.2.2.2.2 (by decide) (.slice ov pre.length cv) pre.length (flatM pre) rfl HSA.out.row ⟨W.heap.size, 0, none⟩ 1 1 (msgC x) rfl rfl HNW.out (msgC_one x) HN1.out HN2.out HN3.out ?_)
            clear c0 c1 c2 b0
            intro v2 w4 hown hgrow _ hat
            have HST := Lib.hid (HSA.out.step hown hgrow)
            have HKO := Lib.hid ((KeepsOthers.alloc W _).trans (HSA.out.keeps (v' := v2) hgrow))
            have HKR := Lib.hid ((show KpR B q W (W.alloc (.cells #[.int .i64 x.f, .int .i64 x.n, .int .i64 x.b] 24)) from ⟨(Below.refl _ W).alloc (by have := HZ.out; omega) _, Below.heap_alloc _ _ _ (by have := HZ.out; omega), Below.heap_alloc _ _ _ (by have := HZ.out; omega)⟩).trans (HSA.out.kpr (v' := v2) HSZ.out hBq hgrow))
            have hbx : Blk w4 B 27 #[.slice ov pre.length cv] := (hgrow.block B HSA.out.box.lt (fun e => by have h1 := (HSA.out.row.lt B e.symm).1; have h2 := HSZ.out; omega)).trans HSA.out.box
            have b0 : w4.cell? ⟨B, 0, none⟩ = some (.slice ov pre.length cv) := hbx.cell 0
            have f0 := hbx.frozen 0
            obtain ⟨o4, c4, hv4, _⟩ := ownsRow_shape hown
            subst hv4
            clear hown hgrow hat hbx
            gi_wp2
            exact ⟨HKO.out.from _, HKR.out, _, HST.out⟩
          case done =>
            rintro D xs W hD rfl ⟨v, hst⟩ hKD
            obtain ⟨oV, cV, rfl, _⟩ := ownsRow_shape hst.row
            have HS := Lib.hid hst
            have HKD := Lib.hid hKD
            have HOW := Lib.hid (HO.out.low (by have := HSZ.out; omega) HLOW.out.2.1 HLOW.out.2.2.1 HLOW.out.1 hst.bel)
            have HGW := Lib.hid (HG2.out.ms.low HLO2.out hst.bel)
            have HBW := Lib.hid (show Below w.heap.size w W from HBM.out.below.trans (hst.bel.mono (Nat.le_of_lt HLOW.out.2.2.2)))
            have HWS := Lib.hid hst.bel.size
            clear hst hKD
            have hRl := run_le (m.n + 1) xb.ws
            have HLN := Lib.hid (show (m :: runOf (m.n + 1) xb.ws).length = (runOf (m.n + 1) xb.ws).length + 1 from rfl)
            obtain ⟨XS, hXS⟩ : ∃ XS, m :: runOf (m.n + 1) xb.ws = XS := ⟨_, rfl⟩
            rw [hXS] at HS HLN HOV0
            clear hXS
            obtain ⟨R, hR⟩ : ∃ R, (runOf (m.n + 1) xb.ws).length = R := ⟨_, rfl⟩
            rw [hR] at hRl HLN HNB0
            clear hR
            obtain ⟨N, hN⟩ : ∃ N, XS.length = N := ⟨_, rfl⟩
            have HNX := Lib.hid hN
            have HSR := Lib.hid HS.out.row
            have HSB := Lib.hid HS.out.box
            rw [hN] at HSR HSB HLN
            clear hN
            have hNR : N = R + 1 := HLN.out
            have eN : (N : Int) - 1 = (R : Int) := by omega
            have eS : IntKind.i64.wrap (xb.x + (N : Int)) = xb.x + (N : Int) := IntWalk.i64_in _ (by omega)
            have HNR := Lib.hid hNR
            have hNb : N ≤ 65 := by omega
            clear hNR
            have b0 : W.cell? ⟨B, 0, none⟩ = some (.slice oV N cV) := HSB.out.cell 0
            have r1 : ∀ W' : World, (Instr.slice 27 (.slice o2 xb.ws.length cp2) (some (.int .i64 (R : Nat))) (some (.int .i64 (xb.ws.length : Nat))) (some (.int .i64 (xb.ws.length : Nat)))).run Try.prog W' = .ok (.slice (fromA o2 R 3 xb.ws.length) (xb.ws.length - R) (xb.ws.length - R)) W' := fun W' => run_slice_full elemM o2 xb.ws.length cp2 R hRl hcp2 W'
            go_wp2_with fail
            clear b0
            refine wp_region_B 9 (fun w'' => Below W.heap.size W w'') mixed (by kernel_rfl) (below_closed W) (Below.refl _ _).drew ?_
            simp only [List.take_succ_cons, List.take_zero, List.drop_succ_cons, List.drop_zero]
            intro KR hR
            have HR := Lib.hid hR
            clear hR
            have HCC := Lib.hid (show ∀ w'', Below W.heap.size W w'' → w''.cell? ⟨g, T * 3 + 1, none⟩ = some (.int .i64 xb.x) ∧ w''.cell? ⟨B, 0, none⟩ = some (.slice oV N cV) from fun w'' hw => ⟨cell_kept hw (HOW.out.cells hT2 HA2.out).2.1, cell_kept hw (HSB.out.cell 0)⟩)
            ((with_reducible refine wpB_move ?_ ?_); exact rfl; simp only [Act.put, List.setIfInBounds_toArray, List.set_cons_zero, List.set_cons_succ])
            apply wpB_val rfl
            · (intro w' hw'; go_simp; with_reducible rfl)
            simp only [Act.put, List.setIfInBounds_toArray, List.set_cons_zero, List.set_cons_succ]
            apply wpB_val rfl
            · (intro w' hw'; go_simp; with_reducible rfl)
            simp only [Act.put, List.setIfInBounds_toArray, List.set_cons_zero, List.set_cons_succ]
            apply wpB_val rfl
            · (intro w' hw'; obtain ⟨c0, c1⟩ := HCC.out w' hw'; go_simp; with_reducible rfl)
            simp only [Act.put, List.setIfInBounds_toArray, List.set_cons_zero, List.set_cons_succ]
            apply wpB_val rfl
            · (intro w' hw'; obtain ⟨c0, c1⟩ := HCC.out w' hw'; go_simp; with_reducible rfl)
            simp only [Act.put, List.setIfInBounds_toArray, List.set_cons_zero, List.set_cons_succ]
            apply wpB_val rfl
            · (intro w' hw'; go_simp; with_reducible rfl)
            simp only [Act.put, List.setIfInBounds_toArray, List.set_cons_zero, List.set_cons_succ]
            apply wpB_val rfl
            · (intro w' hw'; go_simp; with_reducible rfl)
            simp only [Act.put, List.setIfInBounds_toArray, List.set_cons_zero, List.set_cons_succ]
            apply wpB_val rfl
            · (intro w' hw'; go_simp; with_reducible rfl)
            simp only [Act.put, List.setIfInBounds_toArray, List.set_cons_zero, List.set_cons_succ]
            apply wpB_val rfl
            · (intro w' hw'; go_simp; with_reducible rfl)
            simp only [Act.put, List.setIfInBounds_toArray, List.set_cons_zero, List.set_cons_succ]
            refine wpB_nil (HR.out _ (fun w2 hw2 => ?_))
            clear HR HCC
            have HO2 := Lib.hid (HOW.out.later hw2)
            have HK2 := Lib.hid (show w2.heap[D]? = some (.deferred (some [])) from (hw2.block D (Array.getElem?_eq_some_iff.1 HKD.out).1).trans HKD.out)
            have HR2 := Lib.hid (ownsRow_later HSR.out hw2)
            have HM2 := Lib.hid (HGW.out.later hw2)
            have HX2 := Lib.hid (HSB.out.later hw2)
            have HW2 := Lib.hid (below_step HBW.out hw2)
            have HZ2 := Lib.hid (show W0.heap.size ≤ w2.heap.size from Nat.le_trans HWS.out hw2.size)
            clear hw2
            obtain ⟨f0, f1, f2⟩ := HO2.out.cells hT2 HA2.out
            have fz := HO2.out.row.frozenAt (T * 3 + 1)
            go_wp2_with fail
            clear f0 f1 f2 fz
            obtain ⟨W3, hW3⟩ : ∃ W3 : World, W3 = w2.setCell ⟨g, T * 3 + 1, none⟩ (.int .i64 (xb.x + (N : Int))) := ⟨_, rfl⟩
            rw [← hW3]
            have HO3 := Lib.hid (show OutR w6 W3 (L2.set T ⟨xb.f, xb.x + (N : Int), xb.ws⟩) g cap2 (ls2.set T ⟨⟨xb.f, xb.x + (N : Int), xb.ws⟩, o2, cp2⟩) from by rw [hW3]; exact HO2.out.set1 hT2 HA2.out _)
            have HK3 := Lib.hid (show W3.heap[D]? = some (.deferred (some [])) from by rw [hW3, Below.heap_setCell _ _ _ _ (by have h1 := HLOW.out.2.1; have h2 := HSZ.out; show D ≠ g; omega)]; exact HK2.out)
            have HR3 := Lib.hid (show W3.ownsRow W0.heap.size 24 3 (.slice oV N cV) N (flatM XS) from by rw [hW3]; exact ownsRow_setCell_below (a := ⟨g, T * 3 + 1, none⟩) HR2.out (by have h1 := HLOW.out.2.1; have h2 := HSZ.out; show g < _; omega) _)
            have HM3 := Lib.hid (show Msgs W3 o2 xb.ws from by rw [hW3]; exact HM2.out.grown (grown_set _ _ _) (fun p hp hl e => HP2.out p hp hl e))
            have HX3 := Lib.hid (show Blk W3 B 27 #[.slice oV N cV] from by rw [hW3]; exact HX2.out.other (by have h1 := HLOW.out.2.1; show B ≠ g; omega) _)
            have HZ3 := Lib.hid (show W0.heap.size ≤ W3.heap.size from by rw [hW3, World.size_setCell]; exact HZ2.out)
            have HA3 := Lib.hid (show getA (ls2.set T ⟨⟨xb.f, xb.x + (N : Int), xb.ws⟩, o2, cp2⟩) T = ⟨⟨xb.f, xb.x + (N : Int), xb.ws⟩, o2, cp2⟩ from by have := HO.out.len; simp [getA, List.getD_eq_getElem?_getD, this, hT2])
            have hT3 : T < (L2.set T ⟨xb.f, xb.x + (N : Int), xb.ws⟩).length := by simpa using hT2
            clear hW3
            go_wp2_with fail
            refine wp_region_B 19 (fun w'' => Below W3.heap.size W3 w'') mixed (by kernel_rfl) (below_closed W3) (Below.refl _ _).drew ?_
            simp only [List.take_succ_cons, List.take_zero, List.drop_succ_cons, List.drop_zero]
            intro KR hR
            have HR := Lib.hid hR
            clear hR
            have HCC := Lib.hid (show ∀ w'', Below W3.heap.size W3 w'' → w''.cell? ⟨g, T * 3 + 2, none⟩ = some (.slice o2 xb.ws.length cp2) from fun w'' hw => cell_kept hw (HO3.out.cells hT3 HA3.out).2.2)
            ((with_reducible refine wpB_move ?_ ?_); exact rfl; simp only [Act.put, List.setIfInBounds_toArray, List.set_cons_zero, List.set_cons_succ])
            ((with_reducible refine wpB_move ?_ ?_); exact rfl; simp only [Act.put, List.setIfInBounds_toArray, List.set_cons_zero, List.set_cons_succ])
            apply wpB_val rfl
            · (intro w' hw'; go_simp; with_reducible rfl)
            simp only [Act.put, List.setIfInBounds_toArray, List.set_cons_zero, List.set_cons_succ]
            apply wpB_val rfl
            · (intro w' hw'; go_simp; with_reducible rfl)
            simp only [Act.put, List.setIfInBounds_toArray, List.set_cons_zero, List.set_cons_succ]
            apply wpB_val rfl
            · (intro w' hw'; have c0 := HCC.out w' hw'; go_simp; with_reducible rfl)
            simp only [Act.put, List.setIfInBounds_toArray, List.set_cons_zero, List.set_cons_succ]
            ((with_reducible refine wpB_move ?_ ?_); exact rfl; simp only [Act.put, List.setIfInBounds_toArray, List.set_cons_zero, List.set_cons_succ])
            ((with_reducible refine wpB_move ?_ ?_); exact rfl; simp only [Act.put, List.setIfInBounds_toArray, List.set_cons_zero, List.set_cons_succ])
            apply wpB_val rfl
            · (intro w' hw'; go_simp; with_reducible rfl)
            simp only [Act.put, List.setIfInBounds_toArray, List.set_cons_zero, List.set_cons_succ]
            apply wpB_val rfl
            · (intro w' hw'; go_simp; with_reducible rfl)
            simp only [Act.put, List.setIfInBounds_toArray, List.set_cons_zero, List.set_cons_succ]
            apply wpB_val rfl
            · (intro w' hw'; have c0 := HCC.out w' hw'; go_simp; with_reducible rfl)
            simp only [Act.put, List.setIfInBounds_toArray, List.set_cons_zero, List.set_cons_succ]
            apply wpB_val rfl
            · (intro w' hw'; go_simp; with_reducible rfl)
            simp only [Act.put, List.setIfInBounds_toArray, List.set_cons_zero, List.set_cons_succ]
            ((with_reducible refine wpB_move ?_ ?_); exact rfl; simp only [Act.put, List.setIfInBounds_toArray, List.set_cons_zero, List.set_cons_succ])
            apply wpB_val rfl
            · (intro w' hw'; go_simp; with_reducible rfl)
            simp only [Act.put, List.setIfInBounds_toArray, List.set_cons_zero, List.set_cons_succ]
            apply wpB_val rfl
            · (intro w' hw'; go_simp; with_reducible rfl)
            simp only [Act.put, List.setIfInBounds_toArray, List.set_cons_zero, List.set_cons_succ]
            apply wpB_val rfl
            · (intro w' hw'; have c0 := HCC.out w' hw'; go_simp; with_reducible rfl)
            simp only [Act.put, List.setIfInBounds_toArray, List.set_cons_zero, List.set_cons_succ]
            apply wpB_val rfl
            · (intro w' hw'; go_simp; with_reducible rfl)
            simp only [Act.put, List.setIfInBounds_toArray, List.set_cons_zero, List.set_cons_succ]
            apply wpB_val rfl
            · (intro w' hw'; go_simp; with_reducible rfl)
            simp only [Act.put, List.setIfInBounds_toArray, List.set_cons_zero, List.set_cons_succ]
            apply wpB_val rfl
            · (intro w' hw'; go_simp; with_reducible rfl)
            simp only [Act.put, List.setIfInBounds_toArray, List.set_cons_zero, List.set_cons_succ]
            apply wpB_val rfl
            · (intro w' hw'; go_simp; with_reducible rfl)
            simp only [Act.put, List.setIfInBounds_toArray, List.set_cons_zero, List.set_cons_succ]
            refine wpB_nil (HR.out _ (fun w2 hw2 => ?_))
            clear HR HCC
            have HO4 := Lib.hid (HO3.out.later hw2)
            have HK4 := Lib.hid (show w2.heap[D]? = some (.deferred (some [])) from (hw2.block D (Array.getElem?_eq_some_iff.1 HK3.out).1).trans HK3.out)
            have HR4 := Lib.hid (ownsRow_later HR3.out hw2)
            have HM4 := Lib.hid (HM3.out.later hw2)
            have HX4 := Lib.hid (HX3.out.later hw2)
            have HZ4 := Lib.hid (show W0.heap.size ≤ w2.heap.size from Nat.le_trans HZ3.out hw2.size)
            clear hw2
            obtain ⟨f0, f1, f2⟩ := HO4.out.cells hT3 HA3.out
            have fz := HO4.out.row.frozenAt (T * 3 + 2)
            go_wp2_with fail
            clear f0 f1 f2 fz
            obtain ⟨W5, hW5⟩ : ∃ W5 : World, W5 = w2.setCell ⟨g, T * 3 + 2, none⟩ (.slice (fromA o2 R 3 xb.ws.length) (xb.ws.length - R) (xb.ws.length - R)) := ⟨_, rfl⟩
            rw [← hW5]
            have HF := Lib.hid (show ∀ p : Addr, fromA o2 R 3 xb.ws.length = some p → 0 < (xb.ws.drop R).length → p.block < B from fun p hp hl => by
              obtain ⟨p', h1, h2⟩ := fromA_block hp
              rw [← h2]
              exact HLO2.out p' h1 (by rw [List.length_drop] at hl; omega))
            have HO5 := Lib.hid (show OutR w6 W5 ((L2.set T ⟨xb.f, xb.x + (N : Int), xb.ws⟩).set T ⟨xb.f, xb.x + (N : Int), xb.ws.drop R⟩) g cap2 ((ls2.set T ⟨⟨xb.f, xb.x + (N : Int), xb.ws⟩, o2, cp2⟩).set T ⟨⟨xb.f, xb.x + (N : Int), xb.ws.drop R⟩, fromA o2 R 3 xb.ws.length, xb.ws.length - R⟩) from by
              rw [hW5]
              refine HO4.out.set2 hT3 HA3.out (ws := xb.ws.drop R) (by rw [List.length_drop]) ⟨HM4.out.from R, by simp only [List.length_drop]; omega, by simp only [List.length_drop]; omega⟩ (fun p hp hl e => ?_) (fun p hp hl => ?_)
              · obtain ⟨p', h1, h2⟩ := fromA_block hp
                exact HP2.out p' h1 (by rw [List.length_drop] at hl; show 0 < xb.ws.length; omega) (by rw [h2, e]; rfl)
              · obtain ⟨p', h1, h2⟩ := fromA_block hp
                rw [← h2]
                exact HLW2.out p' h1 (by simp only [List.length_drop] at hl; show 0 < xb.ws.length; omega))
            have HK5 := Lib.hid (show W5.heap[D]? = some (.deferred (some [])) from by rw [hW5, Below.heap_setCell _ _ _ _ (by have h1 := HLOW.out.2.1; have h2 := HSZ.out; show D ≠ g; omega)]; exact HK4.out)
            have HR5 := Lib.hid (show W5.ownsRow W0.heap.size 24 3 (.slice oV N cV) N (flatM XS) from by rw [hW5]; exact ownsRow_setCell_below (a := ⟨g, T * 3 + 2, none⟩) HR4.out (by have h1 := HLOW.out.2.1; have h2 := HSZ.out; show g < _; omega) _)
            have HX5 := Lib.hid (show Blk W5 B 27 #[.slice oV N cV] from by rw [hW5]; exact HX4.out.other (by have h1 := HLOW.out.2.1; show B ≠ g; omega) _)
            have HZ5 := Lib.hid (show W0.heap.size ≤ W5.heap.size from by rw [hW5, World.size_setCell]; exact HZ4.out)
            clear hW5
            have b0 : W5.cell? ⟨B, 0, none⟩ = some (.slice oV N cV) := HX5.out.cell 0
            go_wp2_with fail
            go_quiet (fail)
            go_wp2_with fail
            have HBD := Lib.hid (show Below W5.heap.size W5 (W5.drewN nq) from below_drewN (Below.refl _ _) _)
            obtain ⟨W6, hW6⟩ : ∃ W6 : World, W6 = W5.drewN nq := ⟨_, rfl⟩
            rw [← hW6] at HBD ⊢
            clear hW6 b0
            have HO6 := Lib.hid (HO5.out.later HBD.out)
            have HK6 := Lib.hid (show W6.heap[D]? = some (.deferred (some [])) from (HBD.out.block D (Array.getElem?_eq_some_iff.1 HK5.out).1).trans HK5.out)
            have HR6 := Lib.hid (ownsRow_later HR5.out HBD.out)
            have HZ6 := Lib.hid (show W0.heap.size ≤ W6.heap.size from Nat.le_trans HZ5.out HBD.out.size)
            have HPB := Lib.hid (below_put (B := B) W6 D (.deferred none) (by have h1 := HSZ.out; have h2 := HZ6.out; omega) (by have h1 := HSZ.out; omega))
            have HOF := Lib.hid (HO6.out.low (by have h1 := HSZ.out; have h2 := HZ6.out; omega) HLOW.out.2.1 HLOW.out.2.2.1 (fun a ha p hp hl => by
              rcases mem_set_of ha with rfl | ha
              · exact HF.out p hp hl
              · rcases mem_set_of ha with rfl | ha
                · exact HLO2.out p hp hl
                · exact HLOW.out.1 a ha p hp hl) HPB.out)
            have HRF := Lib.hid (ownsRow_turn HR6.out (grownBy_putObj' W6 D (.deferred none)) (fun r e => by cases e; exact ⟨_, HK6.out, rfl⟩))
            refine ⟨by simp, .inl ⟨_, _, rfl, run_takeDeferred HK6.out, ?_⟩⟩
            refine ⟨.tuple #[.slice (some ⟨g, 0, none⟩) L2.length cap2, .slice oV N cV, .int .i64 0], by simp [results, Try.results12, go_sem], ?_⟩
            refine RecvNew.ok (L := (L2.set T ⟨xb.f, xb.x + (N : Int), xb.ws⟩).set T ⟨xb.f, xb.x + (N : Int), xb.ws.drop R⟩) (below_step HBM0W.out HOF.out.row.below) HTK.out.zero ?_ HOV0.out (by simp) HNX.out (HOF.out.bxsL HBM0W.out.size) (ownsRow_msgs HRF.out) (fun p hp => ?_)
            · rw [HRL.out, HNB0.out, List.set_set]
              congr 2
              have := HNR.out
              omega
            · subst hp
              have h1 := (HRF.out.lt p.block rfl).1
              have h2 := HSZ.out
              have h3 := HLOW.out.2.2.2
              omega
theorem Receive_any (o : Option Addr) (cap : Nat) (l : List Bx) (m : Msg) (w : World) (hr : Bxs w o l) (hl : l.length ≤ 1000000000000000) : Calls Try.prog 12 #[.slice o l.length cap, msgV m] w (RecvOut l m w) :=
  (Receive_new o cap l m w hr hl).mono fun _ _ h => h.out
end Go.Proofs.Ytehpdjlidmhkmaa
