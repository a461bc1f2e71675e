/- Chapter 22: FairFits, FairFairest. -/
import Derived.Test.YtjaeekikddbbeaaWk22
namespace Go.Proofs.Ytjaeekikddbbeaa
open Go.RowKit
attribute [local go_sem] Oper.semAt_some

theorem lit_lens (w : World) (t : TypeId) (vs : List (Option Addr × Nat × Nat)) : Lens (w.alloc (.cells (vs.map (fun v => Value.slice v.1 v.2.1 v.2.2)).toArray t)) (some ⟨w.heap.size, 0, none⟩) (vs.map (·.2.1)) := fun i hi => by
  have hi' : i < vs.length := by simpa using hi
  have := (Blk.new w t (vs.map (fun v => Value.slice v.1 v.2.1 v.2.2)).toArray).cell i
  refine ⟨w.heap.size, 0, (vs[i]).1, (vs[i]).2.2, rfl, ?_⟩
  rw [Nat.zero_add]
  exact this.trans (by simp [hi'])
theorem lensOk_iff {ls : List Nat} : lensOk ls = true ↔ ∀ n ∈ ls, n ≤ 100 := by simp [lensOk]

set_option maxRecDepth 100000 in
set_option maxHeartbeats 16000000 in
theorem fits_walk (oa : Option Addr) (ca : Nat) (rows : List Rw) (om : Option Addr) (cm : Nat) (most : List Int) (oo : Option Addr) (co : Nat) (order : List Int) (w : World) (hr : Rws w oa rows) (hl : rows.length ≤ 9000000000000000000) (h_most : Ints w om most) (h_order : Ints w oo order) : Calls Try.prog 3 #[.slice oa rows.length ca, .slice om most.length cm, .slice oo order.length co] w (Ret (.bool true) w) := by
  have HRW := Lib.hid hr
  clear hr
  have H_most := Lib.hid h_most
  clear h_most
  have H_order := Lib.hid h_order
  clear h_order
  go_enter Try.func3, Try.ntmps3
  go_wp2_with fail
  refine (head_any _).mono ?_
  rintro e x1 ⟨rfl, hb⟩
  have HW := Lib.hid hb
  clear hb
  have HALL := Lib.hid (below_alloc (Below.refl x1.heap.size x1) (.cells #[.slice om most.length cm, .slice oo order.length co] 23))
  have HLS := Lib.hid (show Lens (x1.alloc (.cells #[.slice om most.length cm, .slice oo order.length co] 23)) (some ⟨x1.heap.size, 0, none⟩) [most.length, order.length] from lit_lens x1 23 [(om, most.length, cm), (oo, order.length, co)])
  replace HW := Lib.hid (below_step HW.out HALL.out)
  clear HALL
  go_wp2_with fail
  refine (small_any oa (some ⟨x1.heap.size, 0, none⟩) ca 2 rows [most.length, order.length] _ (HRW.out.later HW.out) hl HLS.out (by simp)).mono ?_
  rintro e x2 ⟨rfl, hb⟩
  replace HW := Lib.hid (below_step HW.out hb)
  clear hb HLS
  obtain ⟨F, hF⟩ : ∃ F, smallB rows [most.length, order.length] = F := ⟨_, rfl⟩
  have HF := Lib.hid hF
  rw [hF]
  clear hF
  cases F with
  | false =>
    go_wp2
    go_ret
    exact ⟨rfl, HW.out⟩
  | true =>
  have HSM := Lib.hid (show (∀ n ∈ [most.length, order.length], n ≤ 100) ∧ fewR rows = true by have := HF.out; unfold smallB at this; rw [Bool.and_eq_true, lensOk_iff] at this; exact this)
  have hl_most : most.length ≤ 100 := HSM.out.1 _ (by simp)
  have hl_order : order.length ≤ 100 := HSM.out.1 _ (by simp)
  clear HF
  go_wp2_with fail
  refine (Share_any oa om oo ca cm co rows most order _ (HRW.out.later HW.out) (H_most.out.later HW.out) (H_order.out.later HW.out) hl (by omega) (by omega)).mono ?_
  rintro e x3 ⟨hb, ⟨hv, gx, hgx, rfl, hx⟩ | ⟨hv, rfl⟩⟩
  rotate_left
  · replace HW := Lib.hid (below_step HW.out hb)
    clear hb hv
    go_wp2
    go_ret
    exact ⟨rfl, HW.out⟩
  replace HW := Lib.hid (below_step HW.out hb)
  have HX := Lib.hid hx
  have HV := Lib.hid (show VL rows most ∧ isOrd order (most.length : Nat) = true by rw [Bool.and_eq_true] at hv; exact ⟨validLim_iff.1 hv.1, hv.2⟩)
  clear hb hx hv hgx
  have HFT := Lib.hid (fitsB_iff.2 (share_fit HV.out.1 HV.out.2))
  have HLX := Lib.hid (share_fit HV.out.1 HV.out.2).len
  obtain ⟨X, hX⟩ : ∃ X, shareF rows most order = X := ⟨_, rfl⟩
  rw [hX] at HX HFT HLX
  clear hX
  have HR1 := Lib.hid (refFits_any oa om (some ⟨gx, 0, none⟩) ca cm most.length rows most X x3 (HRW.out.later HW.out) (H_most.out.later HW.out) HX.out hl (by omega))
  rw [HFT.out, HLX.out] at HR1
  go_wp2_with fail
  refine HR1.out.mono ?_
  rintro e x4 ⟨rfl, hb⟩
  replace HW := Lib.hid (below_step HW.out hb)
  replace HX := Lib.hid (HX.out.later hb)
  clear hb HR1
  have HR2 := Lib.hid (Fits_any oa om (some ⟨gx, 0, none⟩) ca cm most.length rows most X x4 (HRW.out.later HW.out) (H_most.out.later HW.out) HX.out hl (by omega))
  rw [HFT.out, HLX.out] at HR2
  go_wp2_with fail
  refine HR2.out.mono ?_
  rintro e x5 ⟨rfl, hb⟩
  replace HW := Lib.hid (below_step HW.out hb)
  clear hb HR2
  go_wp2
  go_ret
  exact ⟨rfl, HW.out⟩

set_option maxRecDepth 100000 in
set_option maxHeartbeats 16000000 in
theorem fairest_walk (oa : Option Addr) (ca : Nat) (rows : List Rw) (om : Option Addr) (cm : Nat) (most : List Int) (oo : Option Addr) (co : Nat) (order : List Int) (oz : Option Addr) (cz : Nat) (other : List Int) (w : World) (hr : Rws w oa rows) (hl : rows.length ≤ 9000000000000000000) (h_most : Ints w om most) (h_order : Ints w oo order) (h_other : Ints w oz other) : Calls Try.prog 4 #[.slice oa rows.length ca, .slice om most.length cm, .slice oo order.length co, .slice oz other.length cz] w (Ret (.bool true) w) := by
  have HRW := Lib.hid hr
  clear hr
  have H_most := Lib.hid h_most
  clear h_most
  have H_order := Lib.hid h_order
  clear h_order
  have H_other := Lib.hid h_other
  clear h_other
  go_enter Try.func4, Try.ntmps4
  go_wp2_with fail
  refine (head_any _).mono ?_
  rintro e x1 ⟨rfl, hb⟩
  have HW := Lib.hid hb
  clear hb
  have HALL := Lib.hid (below_alloc (Below.refl x1.heap.size x1) (.cells #[.slice om most.length cm, .slice oo order.length co, .slice oz other.length cz] 23))
  have HLS := Lib.hid (show Lens (x1.alloc (.cells #[.slice om most.length cm, .slice oo order.length co, .slice oz other.length cz] 23)) (some ⟨x1.heap.size, 0, none⟩) [most.length, order.length, other.length] from lit_lens x1 23 [(om, most.length, cm), (oo, order.length, co), (oz, other.length, cz)])
  replace HW := Lib.hid (below_step HW.out HALL.out)
  clear HALL
  go_wp2_with fail
  refine (small_any oa (some ⟨x1.heap.size, 0, none⟩) ca 3 rows [most.length, order.length, other.length] _ (HRW.out.later HW.out) hl HLS.out (by simp)).mono ?_
  rintro e x2 ⟨rfl, hb⟩
  replace HW := Lib.hid (below_step HW.out hb)
  clear hb HLS
  obtain ⟨F, hF⟩ : ∃ F, smallB rows [most.length, order.length, other.length] = F := ⟨_, rfl⟩
  have HF := Lib.hid hF
  rw [hF]
  clear hF
  cases F with
  | false =>
    go_wp2
    go_ret
    exact ⟨rfl, HW.out⟩
  | true =>
  have HSM := Lib.hid (show (∀ n ∈ [most.length, order.length, other.length], n ≤ 100) ∧ fewR rows = true by have := HF.out; unfold smallB at this; rw [Bool.and_eq_true, lensOk_iff] at this; exact this)
  have hl_most : most.length ≤ 100 := HSM.out.1 _ (by simp)
  have hl_order : order.length ≤ 100 := HSM.out.1 _ (by simp)
  have hl_other : other.length ≤ 100 := HSM.out.1 _ (by simp)
  clear HF
  go_wp2_with fail
  refine (refFits_any oa om oz ca cm cz rows most other x2 (HRW.out.later HW.out) (H_most.out.later HW.out) (H_other.out.later HW.out) hl (by omega)).mono ?_
  rintro e x2b ⟨rfl, hb⟩
  replace HW := Lib.hid (below_step HW.out hb)
  clear hb
  obtain ⟨F, hF⟩ : ∃ F, fitsB rows most other = F := ⟨_, rfl⟩
  have HF := Lib.hid hF
  rw [hF]
  clear hF
  cases F with
  | false =>
    go_wp2
    go_ret
    exact ⟨rfl, HW.out⟩
  | true =>
  go_wp2_with fail
  refine (Share_any oa om oo ca cm co rows most order _ (HRW.out.later HW.out) (H_most.out.later HW.out) (H_order.out.later HW.out) hl (by omega) (by omega)).mono ?_
  rintro e x3 ⟨hb, ⟨hv, gx, hgx, rfl, hx⟩ | ⟨hv, rfl⟩⟩
  rotate_left
  · replace HW := Lib.hid (below_step HW.out hb)
    clear hb hv
    go_wp2
    go_ret
    exact ⟨rfl, HW.out⟩
  replace HW := Lib.hid (below_step HW.out hb)
  have HX := Lib.hid hx
  have HV := Lib.hid (show VL rows most ∧ isOrd order (most.length : Nat) = true by rw [Bool.and_eq_true] at hv; exact ⟨validLim_iff.1 hv.1, hv.2⟩)
  clear hb hx hv hgx
  have HBT := Lib.hid (share_better HV.out.2 (fitsB_iff.1 HF.out))
  have HLX := Lib.hid (share_fit HV.out.1 HV.out.2).len
  obtain ⟨X, hX⟩ : ∃ X, shareF rows most order = X := ⟨_, rfl⟩
  rw [hX] at HX HBT HLX
  clear hX
  have HR1 := Lib.hid (Better_any (some ⟨gx, 0, none⟩) oz oo most.length cz co X other order x3 HX.out (H_other.out.later HW.out) (H_order.out.later HW.out) (by omega))
  rw [HLX.out] at HR1
  go_wp2_with fail
  refine HR1.out.mono ?_
  rintro e x4 ⟨rfl, hb⟩
  replace HW := Lib.hid (below_step HW.out hb)
  replace HX := Lib.hid (HX.out.later hb)
  clear hb HR1
  obtain ⟨B, hB⟩ : ∃ B, bet X other order = B := ⟨_, rfl⟩
  rw [hB] at HBT ⊢
  clear hB
  rcases HBT.out with rfl | ⟨rfl, rfl⟩
  · go_wp2
    go_ret
    exact ⟨rfl, HW.out⟩
  · have HR2 := Lib.hid (refInts_any (some ⟨gx, 0, none⟩) oz most.length cz X X x4 HX.out (H_other.out.later HW.out) (by omega))
    rw [decide_eq_true rfl] at HR2
    have HR3 := Lib.hid (show Calls Try.prog 15 #[.slice (some ⟨gx, 0, none⟩) most.length most.length, .slice oz X.length cz] x4 (Ret (.bool true) x4) from by have := HR2.out; rwa [show (Value.slice (some ⟨gx, 0, none⟩) X.length most.length) = Value.slice (some ⟨gx, 0, none⟩) most.length most.length by rw [HLX.out]] at this)
    go_wp2_with fail
    refine HR3.out.mono ?_
    rintro e x5 ⟨rfl, hb⟩
    replace HW := Lib.hid (below_step HW.out hb)
    clear hb
    go_wp2
    go_ret
    exact ⟨rfl, HW.out⟩

end Go.Proofs.Ytjaeekikddbbeaa
