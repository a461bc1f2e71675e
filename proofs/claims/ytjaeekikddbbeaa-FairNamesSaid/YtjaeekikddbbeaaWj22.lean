/- Chapter 22: Share. -/
import Derived.Test.YtjaeekikddbbeaaWi22
import Derived.WalkMore
import Derived.Deep.LoopGhost
namespace Go.Proofs.Ytjaeekikddbbeaa
open Go.RowKit
attribute [local go_sem] Oper.semAt_some

/-- The loop over the levels. -/
def MainRel (W : World) (gx gl gr : Nat) (rows : List Rw) (most : List Int) (N : Nat) (X : List Int) (f : Nat) (v : Value) (wr : World) : Prop :=
  ∃ (rs x cur : List Int), 1 ≤ f ∧ v = .slice (some ⟨gr, 0, none⟩) rs.length N ∧ MSt W wr gx gl gr rows most x cur ∧ CurAt cur rs [] 0 ∧ lev rows most f rs x = X ∧ rs.Nodup ∧ (∀ m ∈ rs, 0 ≤ m ∧ m < (most.length : Int)) ∧ Fit rows most x ∧ ∀ m ∈ rs, atI x m + (f : Int) = 1002
/-- The loop over those that rise. -/
def InnerRel (W : World) (gx gl gr : Nat) (rows : List Rw) (most : List Int) (N : Nat) (rs x0 : List Int) (f : Nat) (kv i : Value) (wr : World) : Prop :=
  ∃ (j : Nat) (kp x cur : List Int), j ≤ rs.length ∧ i = .int .i64 j ∧ kv = .slice (some ⟨gr, 0, none⟩) kp.length N ∧ MSt W wr gx gl gr rows most x cur ∧ CurAt cur rs kp j ∧ PassAt rows most rs x0 f j kp x

set_option maxRecDepth 100000 in
set_option maxHeartbeats 16000000 in
theorem Share_any (o o2 o3 : Option Addr) (cap cap2 cap3 : Nat) (rows : List Rw) (most order : List Int) (w : World) (hr : Rws w o rows) (hm : Ints w o2 most) (ho : Ints w o3 order) (hl : rows.length ≤ 9000000000000000000) (hl2 : most.length ≤ 9000000000000000000) (hl3 : order.length ≤ 1000000) : Calls Try.prog 11 #[.slice o rows.length cap, .slice o2 most.length cap2, .slice o3 order.length cap3] w (ShareOut rows most order w) := by
  have HR := Lib.hid hr
  have HM := Lib.hid hm
  have HO := Lib.hid ho
  clear hr hm ho
  go_enter Try.func11, Try.ntmps11
  have HW0 := Lib.hid (below_alloc (Below.refl w.heap.size w) (.cells #[.slice o2 most.length cap2] 23))
  have HAM0 := Lib.hid (show (w.alloc (.cells #[.slice o2 most.length cap2] 23)).cell? ⟨w.heap.size, 0, none⟩ = some (.slice o2 most.length cap2) from (Blk.new w 23 #[.slice o2 most.length cap2]).cell 0)
  go_wp2_with fail
  go_step3
  go_wp2_with fail
  refine (validLimits_any o o2 cap cap2 rows most _ (HR.out.later HW0.out) (HM.out.later HW0.out) hl hl2).mono ?_
  rintro e w1 ⟨rfl, hb⟩
  have HW1 := Lib.hid (below_step HW0.out hb)
  have HAM1 := Lib.hid (cell_kept hb HAM0.out)
  clear hb HW0 HAM0
  obtain ⟨Q, hQ⟩ : ∃ Q, validLim rows most = Q := ⟨_, rfl⟩
  have HQ := Lib.hid hQ
  rw [hQ]
  clear hQ
  cases Q with
  | false =>
    go_wp2
    (try rw [Exit.noGoto_ret])
    go_ret2
    exact ⟨HW1.out, .inr ⟨by rw [HQ.out]; rfl, rfl⟩⟩
  | true =>
  have a0 := HAM1.out
  go_wp2_with fail
  refine (isOrder_any o3 cap3 order (most.length : Nat) w1 (HO.out.later HW1.out) hl3).mono ?_
  rintro e w2 ⟨rfl, hb⟩
  have HW2 := Lib.hid (below_step HW1.out hb)
  have HAM2 := Lib.hid (cell_kept hb HAM1.out)
  clear hb HW1 HAM1 a0
  obtain ⟨Q, hQ⟩ : ∃ Q, isOrd order (most.length : Nat) = Q := ⟨_, rfl⟩
  have HQ2 := Lib.hid hQ
  rw [hQ]
  clear hQ
  cases Q with
  | false =>
    go_wp2
    (try rw [Exit.noGoto_ret])
    go_ret2
    exact ⟨HW2.out, .inr ⟨by rw [HQ.out, HQ2.out]; rfl, rfl⟩⟩
  | true =>
  have HVL := Lib.hid (validLim_iff.1 HQ.out)
  have HORD := Lib.hid (isOrd_iff.1 HQ2.out)
  have hn64 := HVL.out.n64
  have hr64 := HVL.out.r64
  have HLN := Lib.hid (show order.length = most.length by have := HORD.out.1; omega)
  have HN := Lib.hid (show most.length ≤ 1000000000 by omega)
  have HN2 := Lib.hid (show rows.length ≤ 1000000000 by omega)
  have hamlt : w.heap.size < w2.heap.size := cell_lt HAM2.out
  obtain ⟨AM, hAM⟩ : ∃ AM, w.heap.size = AM := ⟨_, rfl⟩
  have HAMW := Lib.hid hAM
  rw [hAM] at HAM2 hamlt ⊢
  clear hAM
  -- left
  go_wp2_with (at_make; refine wp_makeN zeroInt HN2.out (by decide) rfl _ _ rfl rfl rfl ?_)
  intro w3 hblk hb
  rw [intsC_zero, ← fillL_zero] at hblk
  have HBL0 := Lib.hid hblk
  have HB3 := Lib.hid hb
  have hs3 := hb.size
  have hgl3 : w2.heap.size < w3.heap.size := hblk.lt
  clear hblk hb
  go_wp2
  have HAL0 := Lib.hid (show (w3.alloc (.cells #[.slice (some ⟨w2.heap.size, 0, none⟩) rows.length rows.length] 23)).cell? ⟨w3.heap.size, 0, none⟩ = some (.slice (some ⟨w2.heap.size, 0, none⟩) rows.length rows.length) from (Blk.new w3 23 #[.slice (some ⟨w2.heap.size, 0, none⟩) rows.length rows.length]).cell 0)
  have HW3 := Lib.hid (below_alloc HB3.out (.cells #[.slice (some ⟨w2.heap.size, 0, none⟩) rows.length rows.length] 23))
  have HBL1 := Lib.hid (HBL0.out.alloc (.cells #[.slice (some ⟨w2.heap.size, 0, none⟩) rows.length rows.length] 23))
  have hs3a : (w3.alloc (.cells #[.slice (some ⟨w2.heap.size, 0, none⟩) rows.length rows.length] 23)).heap.size = w3.heap.size + 1 := World.size_alloc ..
  obtain ⟨GL, hGL⟩ : ∃ GL, w2.heap.size = GL := ⟨_, rfl⟩
  obtain ⟨AL, hAL⟩ : ∃ AL, w3.heap.size = AL := ⟨_, rfl⟩
  have HGLW := Lib.hid hGL
  rw [hGL] at HAL0 HW3 HBL1 hs3a ⊢
  rw [hAL] at HAL0 hs3a ⊢
  obtain ⟨W3, hW3⟩ : ∃ W3 : World, W3 = w3.alloc (.cells #[.slice (some ⟨GL, 0, none⟩) rows.length rows.length] 23) := ⟨_, rfl⟩
  rw [← hW3] at HAL0 HW3 HBL1 hs3a ⊢
  clear hW3 HBL0 HB3
  have hgw : w.heap.size ≤ GL ∧ AM < GL ∧ GL < AL := by have := HAMW.out; omega
  clear hAL hGL hs3 hgl3
  have HAM3 := Lib.hid (show W3.cell? ⟨AM, 0, none⟩ = some (.slice o2 most.length cap2) from by
    have hh := HW3.out
    rw [← HGLW.out] at hh
    exact cell_kept hh HAM2.out)
  have HWB3 := Lib.hid (show Below w.heap.size w W3 from by
    have hh := HW3.out
    rw [← HGLW.out] at hh
    exact below_step HW2.out hh)
  have hw2le : w.heap.size ≤ GL := hgw.1
  clear HW3 HAM2
  go_loopw [34] (fun i wr => ∃ k : Nat, k ≤ rows.length ∧ i = .int .i64 k ∧ Blk wr GL 3 (intsC (fillL rows k)) ∧ Agr W3 wr [GL]) (fun i _ => rows.length - (intOf i).toNat)
  case atStart => exact ⟨0, Nat.zero_le _, rfl, HBL1.out, Agr.refl _ _⟩
  case round =>
    obtain ⟨k, hk, rfl, hbl, ha⟩ := hrel
    have HBL := Lib.hid hbl
    have HA := Lib.hid ha
    clear hbl ha HBL1
    have HBW := Lib.hid (HA.out.below HWB3.out (fun b hb => by simp at hb; subst hb; exact hw2le))
    have hsz : W3.heap.size ≤ wr.heap.size := HA.out.size
    by_cases hlt : k < rows.length
    · obtain ⟨g, off, hgo, oo, cp, hw1, hw2, hms, c0, c1⟩ := (HR.out.later HBW.out) k hlt
      subst hgo
      have HFS := Lib.hid (fillL_step hlt)
      have hFL : (fillL rows k).length = rows.length := fillL_len hk
      obtain ⟨r, hrr⟩ : ∃ r, getW rows k = r := ⟨_, rfl⟩
      rw [hrr] at c0 c1 hw1 hw2 HFS
      clear hrr hms
      have y1 : (0 : Int) ≤ (k : Int) := by omega
      have y2 : (k : Int) < (rows.length : Int) := by omega
      have a1 : wr.cell? ⟨AL, 0, none⟩ = some (.slice (some ⟨GL, 0, none⟩) rows.length rows.length) := HA.out.cell HAL0.out (by simp; omega)
      have d0 := (HBL.out.cell k).trans (intsC_get (show k < (fillL rows k).length by omega))
      have f0 := HBL.out.frozen k
      have HNB := Lib.hid (show Blk ((wr.setCell ⟨GL, k, none⟩ (.int .i64 r.c)).alloc (.cells #[.int .i64 r.c, .slice oo r.ms.length cp] 34)) GL 3 (intsC (fillL rows (k + 1))) from by
        have := (HBL.out.set k (.int .i64 r.c)).alloc (.cells #[.int .i64 r.c, .slice oo r.ms.length cp] 34)
        rwa [intsC_set, HFS.out] at this)
      have HNA := Lib.hid ((HA.out.set (g := GL) (i := k) (u := .int .i64 r.c) (by simp)).alloc (.cells #[.int .i64 r.c, .slice oo r.ms.length cp] 34))
      obtain ⟨dd, hdd⟩ : ∃ dd, (fillL rows k).getD k 0 = dd := ⟨_, rfl⟩
      rw [hdd] at d0
      clear hdd hFL
      have hwl : GL < wr.heap.size ∧ AL < wr.heap.size := ⟨by omega, by omega⟩
      have hwl1 := hwl.1
      have hwl2 := hwl.2
      go_wp2
      go_roundw
      case rel => exact ⟨k + 1, by omega, by go_num, HNB.out, HNA.out⟩
      case measure => simp [intOf]; omega
    · obtain rfl : k = rows.length := by omega
      clear hlt hk
      rw [fillL_last rows most.length] at HBL
      have a0 : wr.cell? ⟨AM, 0, none⟩ = some (.slice o2 most.length cap2) := HA.out.cell HAM3.out (by simp; omega)
      go_wp2_with fail
      clear a0
      refine (rowsOf_any o cap rows most wr (HR.out.later HBW.out) HVL.out).mono ?_
      rintro e w5 ⟨rfl, hb5, hinn⟩
      have HIN := Lib.hid hinn
      have HB5 := Lib.hid hb5
      clear hinn hb5
      have hGI : W3.heap.size ≤ wr.heap.size := hsz
      obtain ⟨GI, hGIe⟩ : ∃ GI, wr.heap.size = GI := ⟨_, rfl⟩
      have HGI := Lib.hid hGIe
      rw [hGIe] at HIN hGI ⊢
      clear hGIe hsz
      have a0 : w5.cell? ⟨AM, 0, none⟩ = some (.slice o2 most.length cap2) := cell_kept HB5.out (HA.out.cell HAM3.out (by simp; omega))
      have HA0 := Lib.hid a0
      have HL0 := Lib.hid (show w5.cell? ⟨AL, 0, none⟩ = some (.slice (some ⟨GL, 0, none⟩) rows.length rows.length) from cell_kept HB5.out (HA.out.cell HAL0.out (by simp; omega)))
      have HBL5 := Lib.hid (HBL.out.later HB5.out)
      have HBW5 := Lib.hid (below_step HBW.out HB5.out)
      have h56 : GI ≤ w5.heap.size := by have := HB5.out.size; have := HGI.out; omega
      have hamlt5 : AM < w5.heap.size := by omega
      clear HB5 HA HBL HBW HAL0 HAM3
      -- x
      go_wp2_with (at_make; refine wp_makeN zeroInt HN.out (by decide) rfl _ _ rfl rfl rfl ?_)
      intro w6 hblk hb0
      have hb : Below (w5.alloc (.cells #[.slice (some ⟨GI, 0, none⟩) most.length most.length] 39)).heap.size (w5.alloc (.cells #[.slice (some ⟨GI, 0, none⟩) most.length most.length] 39)) w6 := by rw [World.size_alloc]; exact hb0
      clear hb0
      rw [intsC_zero] at hblk
      have HAL5 := Lib.hid (below_alloc (Below.refl w5.heap.size w5) (.cells #[.slice (some ⟨GI, 0, none⟩) most.length most.length] 39))
      have HAI := Lib.hid (cell_kept hb (show (w5.alloc (.cells #[.slice (some ⟨GI, 0, none⟩) most.length most.length] 39)).cell? ⟨w5.heap.size, 0, none⟩ = some (.slice (some ⟨GI, 0, none⟩) most.length most.length) from (Blk.new w5 39 #[.slice (some ⟨GI, 0, none⟩) most.length most.length]).cell 0))
      have HB6 := Lib.hid (below_step HAL5.out hb)
      have HBX6 := Lib.hid hblk
      have hgx6 := hblk.lt
      obtain ⟨AI, hAI⟩ : ∃ AI, w5.heap.size = AI := ⟨_, rfl⟩
      have HAIE := Lib.hid hAI
      rw [hAI] at HAI HBX6 hgx6 h56 hamlt5 ⊢
      clear hblk hb HAL5 hAI a0
      have HA6 := Lib.hid (cell_kept HB6.out HA0.out)
      have HL6 := Lib.hid (cell_kept HB6.out HL0.out)
      have HBL6 := Lib.hid (HBL5.out.later HB6.out)
      have HBW6 := Lib.hid (below_step HBW5.out HB6.out)
      have hs6 : AI + 1 < w6.heap.size := hgx6
      -- the list of those that rise
      have HNO := Lib.hid (show order.length ≤ 1000000000 by omega)
      go_wp2_with (at_make; refine wp_makeN zeroInt HNO.out (by decide) rfl _ _ rfl rfl rfl ?_)
      intro w7 hblk hb0
      have hb : Below (w6.alloc (.cells #[.slice (some ⟨AI + 1, 0, none⟩) most.length most.length] 23)).heap.size (w6.alloc (.cells #[.slice (some ⟨AI + 1, 0, none⟩) most.length most.length] 23)) w7 := by rw [World.size_alloc]; exact hb0
      clear hb0
      have HAX := Lib.hid (cell_kept hb (show (w6.alloc (.cells #[.slice (some ⟨AI + 1, 0, none⟩) most.length most.length] 23)).cell? ⟨w6.heap.size, 0, none⟩ = some (.slice (some ⟨AI + 1, 0, none⟩) most.length most.length) from (Blk.new w6 23 #[.slice (some ⟨AI + 1, 0, none⟩) most.length most.length]).cell 0))
      have HB7 := Lib.hid (below_step (below_alloc (Below.refl w6.heap.size w6) (.cells #[.slice (some ⟨AI + 1, 0, none⟩) most.length most.length] 23)) hb)
      have HBR7 := Lib.hid hblk
      have hgr7 := hblk.lt
      have hb7 := hb
      obtain ⟨AX, hAX⟩ : ∃ AX, w6.heap.size = AX := ⟨_, rfl⟩
      have HAXE := Lib.hid hAX
      rw [hAX] at HAX HBR7 hgr7 hs6 ⊢
      clear hAX
      have HBRL := Lib.hid (show Blk w7 (AX + 1) 3 (List.replicate order.length (Value.int .i64 0)).toArray from by
        have := HBR7.out
        rwa [show (List.replicate order.length (Value.int .i64 0)).toArray = Array.replicate order.length (Value.int .i64 0) by apply Array.ext'; simp])
      have HRC := Lib.hid (List.length_replicate (n := order.length) (a := Value.int .i64 0))
      have HOW7 := Lib.hid (HO.out.later (below_step HBW6.out HB7.out))
      have HBB := Lib.hid (show Below (AX + 1) (w6.alloc (.cells #[.slice (some ⟨AI + 1, 0, none⟩) most.length most.length] 23)) w7 from by
        have := hb7
        rwa [World.size_alloc, HAXE.out] at this)
      clear hblk hb hb7 HBR7
      go_wp2_with (with_reducible refine wp_copy_full (g := AX + 1) (o := ⟨some 58, _, _, _, _, _⟩) HBRL.out HRC.out rfl HOW7.out HBB.out (Nat.le_refl _) rfl _ _ rfl rfl rfl ?_)
      intro w8 hblk hb
      have HBR := Lib.hid hblk.out
      have HB8 := Lib.hid (show Below w6.heap.size w6 w8 from by
        have h1 : Below (w6.alloc (.cells #[.slice (some ⟨AI + 1, 0, none⟩) most.length most.length] 23)).heap.size (w6.alloc (.cells #[.slice (some ⟨AI + 1, 0, none⟩) most.length most.length] 23)) w8 := by
          rw [World.size_alloc, HAXE.out]
          exact hb
        exact below_step (below_alloc (Below.refl _ _) _) h1)
      have HAX8 := Lib.hid (show w8.cell? ⟨AX, 0, none⟩ = some (.slice (some ⟨AI + 1, 0, none⟩) most.length most.length) from by
        have h1 : Below (w6.alloc (.cells #[.slice (some ⟨AI + 1, 0, none⟩) most.length most.length] 23)).heap.size (w6.alloc (.cells #[.slice (some ⟨AI + 1, 0, none⟩) most.length most.length] 23)) w8 := by
          rw [World.size_alloc, HAXE.out]
          exact hb
        have h2 := cell_kept h1 (show (w6.alloc (.cells #[.slice (some ⟨AI + 1, 0, none⟩) most.length most.length] 23)).cell? ⟨w6.heap.size, 0, none⟩ = some (.slice (some ⟨AI + 1, 0, none⟩) most.length most.length) from (Blk.new w6 23 #[.slice (some ⟨AI + 1, 0, none⟩) most.length most.length]).cell 0)
        rwa [HAXE.out] at h2)
      have HBW8 := Lib.hid (below_step HBW6.out HB8.out)
      clear hblk hb HAX HBRL HRC HOW7 HBB HB7
      have HMST := Lib.hid (show MSt w8 w8 (AI + 1) GL (AX + 1) rows most (List.replicate most.length 0) order from ⟨Agr.refl _ _, HBX6.out.later HB8.out, HBL6.out.later HB8.out, HBR.out, HLN.out⟩)
      have hord : AM < GL ∧ GL < AL ∧ AL < GI ∧ GI ≤ AI ∧ AI + 1 < AX := by omega
      have HSTA := Lib.hid (show Sta w8 [AI + 1, GL, AX + 1] AX AM AI AL (AI + 1) GI GL o2 cap2 rows most from by
        have hsub : ∀ b ∈ ([] : List Nat), b ∈ [AI + 1, GL, AX + 1] := fun b hb => by cases hb
        refine ⟨HAX8.out, cell_kept HB8.out HA6.out, cell_kept HB8.out HAI.out, cell_kept HB8.out HL6.out, by simp; omega, by simp; omega, by simp; omega, by simp; omega, by simp; omega, ?_, fun i hi => ?_⟩
        · exact (IntsS.of HM.out (fun b hb => by simp at hb; omega)).agr (Agr.of_below (S := []) HBW8.out) hsub
        · obtain ⟨oo, cp, h1, h2, h3⟩ := HIN.out i hi
          refine ⟨oo, cp, cell_kept HB8.out (cell_kept HB6.out h1), fun j hj => ?_⟩
          obtain ⟨b, off, h4, h5⟩ := h2 j hj
          have h6 := h3 _ h4
          have h7 := cell_lt h5
          simp only at h6 h7
          have h8 := HGI.out
          have h9 := HAIE.out
          exact ⟨b, off, h4, by simp; omega, cell_kept HB8.out (cell_kept HB6.out h5)⟩)
      clear HBR HBX6 HBL6 HAX8 HA6 HL6 HAI HIN HB6 HB8 HBW6 HBW5 HBL5 HA0 HL0
      go_wp2
      go_step3
      go_wp2
      have HXF := Lib.hid (share_eq (rows := rows) HQ2.out)
      have HPS := Lib.hid (show MainRel w8 (AI + 1) GL (AX + 1) rows most order.length (shareF rows most order) 1002 (.slice (some ⟨AX + 1, 0, none⟩) order.length order.length) w8 from ⟨order, List.replicate most.length 0, order, by omega, rfl, HMST.out, ⟨rfl, fun i _ _ => rfl, Nat.le_refl _⟩, rfl, HORD.out.2.2, HORD.out.2.1, zeros_fit HVL.out, fun m _ => by rw [zeros_at]; rfl⟩)
      clear HMST HXF
      obtain ⟨X, hX⟩ : ∃ X, shareF rows most order = X := ⟨_, rfl⟩
      have HX := Lib.hid hX
      rw [hX] at HPS
      clear hX
      obtain ⟨N, hN⟩ : ∃ N, order.length = N := ⟨_, rfl⟩
      have HNE := Lib.hid hN
      have HLN2 := Lib.hid (show N = most.length by rw [← hN]; exact HLN.out)
      rw [hN] at HPS ⊢
      have hN64 : N ≤ 64 := by have := HLN2.out; omega
      clear hN
      obtain ⟨GX, hGX⟩ : ∃ GX, AI + 1 = GX := ⟨_, rfl⟩
      obtain ⟨GR, hGR⟩ : ∃ GR, AX + 1 = GR := ⟨_, rfl⟩
      have hgne : GR ≠ GX ∧ GR ≠ GL ∧ GX ≠ GL := by omega
      have hwge : w.heap.size ≤ GX ∧ w.heap.size ≤ GL ∧ w.heap.size ≤ GR := by have := HAMW.out; omega
      rw [hGX] at HPS HSTA ⊢
      rw [hGR] at HPS HSTA ⊢
      clear hGX hGR hord
      go_loopg [14] 1002 (MainRel w8 GX GL GR rows most N X)
      case atStart => exact HPS.out
      case round =>
        obtain ⟨rs, x0, cur0, hf1, rfl, hmst, hcur, hlev, hnd, hrng, hfit, hlvl⟩ := hrel
        clear HPS
        have HM0 := Lib.hid hmst
        have HC0 := Lib.hid hcur
        have HLEV := Lib.hid hlev
        have HRNG := Lib.hid hrng
        have HP0 := Lib.hid (show PassAt rows most rs x0 gk 0 [] x0 from PassAt.start hnd hrng hfit hlvl)
        have hrsN : rs.length ≤ N := by have h1 := hcur.le; have h2 := hmst.len; have h3 := HLN2.out; omega
        clear hmst hcur hlev hnd hrng hfit hlvl
        have hNc : (0 : Int) ≤ (N : Int) := by omega
        go_wp2
        go_loopw [15, 63] (InnerRel w8 GX GL GR rows most N rs x0 gk) (fun _ i _ => rs.length - (intOf i).toNat)
        case atStart => exact ⟨0, [], x0, cur0, Nat.zero_le _, rfl, rfl, HM0.out, HC0.out, HP0.out⟩
        case round =>
          obtain ⟨j, kp, x, cur, hj, rfl, rfl, hmst, hcur, hpass⟩ := hrel
          clear HM0 HC0 HP0
          have HMS := Lib.hid hmst
          have HCU := Lib.hid hcur
          have HPA := Lib.hid hpass
          have hkl := hpass.len
          have hcl : cur.length = N := by have := hmst.len; have := HLN2.out; omega
          clear hmst hcur hpass
          have HSW := Lib.hid (HSTA.out.agr HMS.out.agr (fun b hb => hb))
          by_cases hlt : j < rs.length
          · have c0 : wr.cell? ⟨GR, j, none⟩ = some (.int .i64 (rs.getD j 0)) := by
              rw [← HCU.out.rsE j (Nat.le_refl _) hlt]
              exact (HMS.out.br.cell j).trans (intsC_get (by omega))
            have hmr := HRNG.out _ (getD_mem hlt)
            have HYES := Lib.hid (fun h => HPA.out.yes hlt h)
            have HNO2 := Lib.hid (fun h => HPA.out.no hlt h)
            obtain ⟨m, hm⟩ : ∃ m, rs.getD j 0 = m := ⟨_, rfl⟩
            rw [hm] at c0 hmr HYES HNO2
            clear hm
            obtain ⟨M, rfl⟩ : ∃ M : Nat, m = (M : Int) := ⟨m.toNat, by omega⟩
            have HRI := Lib.hid (rises_any [GX, GL, GR] AX AM AI AL GX GI GL o2 cap2 rows most x M wr HSW.out (by simp) (by simp) hgne.2.2 HMS.out.bx HMS.out.bl HPA.out.fit (by omega))
            have y1 : (0 : Int) ≤ (j : Int) := by omega
            have y2 : (j : Int) < (rs.length : Int) := by omega
            go_wp2_with fail
            refine HRI.out.mono ?_
            rintro e w9 ⟨rfl, ha9, hx9, hl9⟩
            have HM9 := Lib.hid (fun b hb => HMS.out.rise (b := b) ⟨hgne.1, hgne.2.1⟩ hb ha9 hx9 hl9)
            clear ha9 hx9 hl9 HRI c0
            obtain ⟨b, hb⟩ : ∃ b, can rows most x (M : Int) = b := ⟨_, rfl⟩
            have HBE := Lib.hid hb
            rw [hb]
            replace HM9 := Lib.hid (HM9.out b hb)
            clear hb
            cases b with
            | false =>
              have HNX := Lib.hid (HNO2.out HBE.out)
              have HM9b := Lib.hid (show MSt w8 w9 GX GL GR rows most x cur from HM9.out)
              clear HM9
              go_wp2
              go_roundw
              case rel => exact ⟨j + 1, kp, x, cur, by omega, by go_num, rfl, HM9b.out, HCU.out.skip, HNX.out⟩
              case measure => simp [intOf]; omega
            | true =>
              have HNX := Lib.hid (HYES.out HBE.out)
              have HM9b := Lib.hid (show MSt w8 w9 GX GL GR rows most (inc x (M : Int)) cur from HM9.out)
              have HKC := Lib.hid (show kp.length < (intsC cur).size by rw [intsC_size]; omega)
              have HKN := Lib.hid (show kp.length < N by omega)
              clear HM9
              go_wp2_with (at_builtin; refine wp_append_in (u := .int .i64 (M : Int)) elemI HM9b.out.br HKC.out HKN.out rfl rfl _ _ rfl rfl rfl ?_)
              have HMX := Lib.hid (HM9b.out.put (k := kp.length) (m := (M : Int)) ⟨hgne.1, hgne.2.1⟩ (.cells #[.int .i64 (M : Int)] 3))
              have HCX := Lib.hid (HCU.out.put (m := (M : Int)) hkl hlt)
              go_wp2
              go_roundw
              case rel => exact ⟨j + 1, kp ++ [(M : Int)], inc x (M : Int), cur.set kp.length (M : Int), by omega, by go_num, by rw [List.length_append]; rfl, HMX.out, HCX.out, HNX.out⟩
              case measure => simp [intOf]; omega
          · obtain rfl : j = rs.length := by omega
            have HDN := Lib.hid HPA.out.done
            obtain ⟨f', rfl⟩ : ∃ f', gk = f' + 1 := ⟨gk - 1, by omega⟩
            have HLV := Lib.hid (show (if kp = [] then x else lev rows most f' kp x) = X by have := HLEV.out; rw [lev, HDN.out] at this; exact this)
            by_cases hk0 : kp = []
            · obtain rfl : x = X := by rw [← HLV.out, if_pos hk0]
              subst hk0
              have b0 := HSW.out.cx
              have HBE := Lib.hid (HMS.out.agr.below HBW8.out (fun b hb => by simp at hb; rcases hb with rfl | rfl | rfl; exact hwge.1; exact hwge.2.1; exact hwge.2.2))
              go_wp2
              (try rw [Exit.noGoto_ret])
              go_ret2
              exact ⟨HBE.out, .inl ⟨by rw [HQ.out, HQ2.out]; rfl, GX, hwge.1, rfl, by rw [HX.out]; exact HMS.out.bx.ints⟩⟩
            · have HNK := Lib.hid hk0
              have hkp0 : 0 < kp.length := List.length_pos_iff.2 hk0
              have hkb : ((kp.length : Int) == 0) = false := by rw [beq_eq_false_iff_ne]; omega
              have HLV2 := Lib.hid (show lev rows most f' kp x = X by rw [← HLV.out, if_neg hk0])
              have HF2 := Lib.hid (show ∀ m ∈ kp, atI x m + (f' : Int) = 1002 from fun m hm => by have := HPA.out.kept m hm; omega)
              have HR2 := Lib.hid (show ∀ m ∈ kp, 0 ≤ m ∧ m < (most.length : Int) from fun m hm => HRNG.out m (List.mem_of_mem_take (HPA.out.sub.mem hm)))
              have HN3 := Lib.hid (show kp.Nodup from (HPA.out.nd.sublist (List.take_sublist _ _)).sublist HPA.out.sub)
              have hf2 : 1 ≤ f' := by
                have h1 := getD_mem hkp0
                have h2 := HF2.out _ h1
                have h3 := HR2.out _ h1
                have h4 := HPA.out.fit.lim _ h3.1 h3.2
                have h5 := HVL.out.lim _ (atI_mem (x := most) h3)
                omega
              clear hk0
              go_wp2
              go_roundg f'
              case measure => omega
              case rel => exact ⟨kp, x, cur, hf2, rfl, HMS.out, HCU.out.next (by omega), HLV2.out, HN3.out, HR2.out, HPA.out.fit, HF2.out⟩
end Go.Proofs.Ytjaeekikddbbeaa
