/- Chapter 37: Match. -/
import Derived.Test.YtmcodendnpjlaaaDoorWi37
import Derived.Laws.EntriesVeiled
namespace Go.Proofs.YtmcodendnpjlaaaDoor
open Go.RowKit
attribute [local go_sem] Oper.semAt_some

/-- The best pairs of all. -/
def best (E X : List Ps) : Fd := LS E X E.length 0
def MOut (E X : List Ps) (w : World) (e : Ending) (w' : World) : Prop :=
  Below w.heap.size w w' ∧ (((validP E && validP X) = true ∧ ∃ o cap, e = .returned (.tuple #[.slice o (best E X).pairs.length cap, .int .i64 (best E X).cost, .int .i64 0]) ∧ Twos w' o (toI (best E X).pairs)) ∨
    ((validP E && validP X) = false ∧ e = .returned (.tuple #[.slice none 0 0, .int .i64 0, .int .i64 1])))

set_option maxRecDepth 100000 in
set_option maxHeartbeats 16000000 in
theorem Match_any (oe ox : Option Addr) (ce cx : Nat) (E X : List Ps) (w : World) (he : Pss w oe E) (hx : Pss w ox X) (hT : Tab w) (hle : E.length ≤ 9000000000000000000) (hlx : X.length ≤ 9000000000000000000) :
    Calls Tryd.prog 13 #[.slice oe E.length ce, .slice ox X.length cx] w (MOut E X w) := by
  have HE := Lib.hid he
  have HX := Lib.hid hx
  have HT := Lib.hid hT
  clear he hx hT
  have hmm := @run_makeMap Tryd.prog
  go_enter Tryd.func13, Tryd.ntmps13
  obtain ⟨W1, hW1⟩ : ∃ W1, W1 = (w.alloc (.cells #[.slice oe E.length ce] 22)).alloc (.cells #[.slice ox X.length cx] 22) := ⟨_, rfl⟩
  have HB1 := Lib.hid (show Below w.heap.size w W1 by rw [hW1]; exact below_alloc (below_alloc (Below.refl _ _) _) _)
  have HA1 := Lib.hid (show Blk W1 w.heap.size 22 #[.slice oe E.length ce] by rw [hW1]; exact (Blk.new w _ _).alloc _)
  have HX1 := Lib.hid (show Blk W1 (w.heap.size + 1) 22 #[.slice ox X.length cx] by rw [hW1, ← World.size_alloc w (.cells #[.slice oe E.length ce] 22)]; exact Blk.new _ _ _)
  go_upto_region 1 with (fail)
  rw [← hW1]
  clear hW1
  obtain ⟨AB, hAB⟩ : ∃ B, w.heap.size = B := ⟨_, rfl⟩
  rw [hAB] at HA1 HX1 ⊢
  have HAB := Lib.hid hAB
  clear hAB
  have a0 := HA1.out.cell 0
  go_wp2_with fail
  refine (valid_any oe ce E W1 (HE.out.later HB1.out) hle).mono ?_
  rintro _ W2 ⟨rfl, hb⟩
  have HB2 := Lib.hid (below_step HB1.out hb)
  have HA2 := Lib.hid (HA1.out.later hb)
  have HX2 := Lib.hid (HX1.out.later hb)
  clear hb HB1 HA1 HX1 a0
  cases hve : validP E with
  | false =>
    have HV := Lib.hid (show (validP E && validP X) = false by rw [hve]; rfl)
    clear hve
    go_wp2
    refine bodyPost_ret (results_tmp3 rfl _ _ _) rfl ?_
    exact ⟨HB2.out, .inr ⟨HV.out, rfl⟩⟩
  | true =>
  have a0 := HX2.out.cell 0
  go_wp2_with fail
  refine (valid_any ox cx X W2 (HX.out.later HB2.out) hlx).mono ?_
  rintro _ W3 ⟨rfl, hb⟩
  have HB3 := Lib.hid (below_step HB2.out hb)
  have HA3 := Lib.hid (HA2.out.later hb)
  have HX3 := Lib.hid (HX2.out.later hb)
  clear hb HB2 HA2 HX2 a0
  cases hvx : validP X with
  | false =>
    have HV := Lib.hid (show (validP E && validP X) = false by rw [hve, hvx]; rfl)
    clear hve hvx
    go_wp2
    refine bodyPost_ret (results_tmp3 rfl _ _ _) rfl ?_
    exact ⟨HB3.out, .inr ⟨HV.out, rfl⟩⟩
  | true =>
  have HV := Lib.hid (show (validP E && validP X) = true by rw [hve, hvx]; rfl)
  have hE8 : E.length ≤ 8 := by unfold validP at hve; simp at hve; exact hve.1
  have hX8 : X.length ≤ 8 := by unfold validP at hvx; simp at hvx; exact hvx.1
  clear hve hvx
  obtain ⟨MB, hMB⟩ : ∃ B, W3.heap.size = B := ⟨_, rfl⟩
  have HMB := Lib.hid hMB
  have HMade := Lib.hid (PMap.made Tryd.prog 52 W3)
  go_upto_region 4 with (fail)
  obtain ⟨W4, hW4⟩ : ∃ W4, W4 = (W3.alloc (.map #[] 0)).alloc (.cells #[.map (some MB)] 49) := ⟨_, rfl⟩
  have HK4 := Lib.hid (show Blk W4 (MB + 1) 49 #[.map (some MB)] by rw [hW4, ← hMB, ← World.size_alloc W3 (.map #[] 0)]; exact Blk.new _ _ _)
  have HM4 := Lib.hid (show PMap Tryd.prog 52 W4 MB 0 (fun _ _ => none) by rw [hW4, ← hMB]; exact HMade.out.later (below_alloc (Below.refl _ _) _))
  have HB34 := Lib.hid (show Below W3.heap.size W3 W4 by rw [hW4]; exact below_alloc (below_alloc (Below.refl _ _) _) _)
  have hs4 : W4.heap.size = MB + 1 + 1 := by rw [hW4, World.size_alloc, World.size_alloc, hMB]
  rw [← hW4]
  have HMW := Lib.hid (show w.heap.size ≤ MB from hMB ▸ HB3.out.size)
  have HS4 := Lib.hid hs4
  clear hW4 HMade hMB hmm hs4
  have HA4 := Lib.hid (HA3.out.later HB34.out)
  have HX4 := Lib.hid (HX3.out.later HB34.out)
  have HB4 := Lib.hid (below_step HB3.out HB34.out)
  clear HA3 HX3 HB3 HB34
  go_upto_region 5 with (fail)
  obtain ⟨W4b, hW4b⟩ : ∃ W4b, W4b = W4.alloc (.cells #[.nilFunc] 50) := ⟨_, rfl⟩
  have hs4 := HS4.out
  have HF4 := Lib.hid (show Blk W4b (MB + 1 + 1) 50 #[.nilFunc] by rw [hW4b, ← hs4]; exact Blk.new _ _ _)
  have HB4b := Lib.hid (show Below W4.heap.size W4 W4b by rw [hW4b]; exact below_alloc (Below.refl _ _) _)
  rw [hs4, ← hW4b]
  clear hW4b
  have n0 := HF4.out.cell 0
  have nf := HF4.out.frozen 0
  go_upto_region 6 with (fail)
  obtain ⟨W5, hW5⟩ : ∃ W5, W5 = W4b.setCell ⟨MB + 1 + 1, 0, none⟩ (.func (.func 26) #[] #[.pointer (some ⟨MB + 1, 0, none⟩), .pointer (some ⟨AB, 0, none⟩), .pointer (some ⟨AB + 1, 0, none⟩), .pointer (some ⟨MB + 1 + 1, 0, none⟩)]) := ⟨_, rfl⟩
  have HF5 := Lib.hid (show Blk W5 (MB + 1 + 1) 50 #[.func (.func 26) #[] #[.pointer (some ⟨MB + 1, 0, none⟩), .pointer (some ⟨AB, 0, none⟩), .pointer (some ⟨AB + 1, 0, none⟩), .pointer (some ⟨MB + 1 + 1, 0, none⟩)]] by rw [hW5]; simpa using HF4.out.set 0 (.func (.func 26) #[] #[.pointer (some ⟨MB + 1, 0, none⟩), .pointer (some ⟨AB, 0, none⟩), .pointer (some ⟨AB + 1, 0, none⟩), .pointer (some ⟨MB + 1 + 1, 0, none⟩)]))
  have HB45 := Lib.hid (show Below W4.heap.size W4 W5 by rw [hW5]; exact HB4b.out.setCell (p := ⟨MB + 1 + 1, 0, none⟩) (by rw [hs4]; exact Nat.le_refl _) _)
  rw [← hW5]
  clear hW5 hs4 n0 nf HF4 HB4b
  have HB5 := Lib.hid (below_step HB4.out HB45.out)
  have hm0 : 0 ≠ MB := by have h1 := HT.out.1; have h2 := HMW.out; omega
  have HENV := Lib.hid (show Env W5 (MB + 1) AB (AB + 1) (MB + 1 + 1) MB oe ox ce cx E X from
    ⟨(HK4.out.later HB45.out).cell 0, (HA4.out.later HB45.out).cell 0, (HX4.out.later HB45.out).cell 0, HF5.out.cell 0, HE.out.later HB5.out, HX.out.later HB5.out, HT.out.below HB5.out, hm0⟩)
  have HKN := Lib.hid (show Known E X W5 MB 0 from ⟨_, HM4.out.later HB45.out, fun k used hk hu v hv => by cases hv⟩)
  clear HK4 HA4 HX4 HM4 HF5 HB45 HE HX HT HB4
  have ff := HENV.out.f
  have HCON := Lib.hid (show Calls Tryd.prog 26 #[.agg #[.int .i64 0, .int .i64 0], .pointer (some ⟨MB + 1, 0, none⟩), .pointer (some ⟨AB, 0, none⟩), .pointer (some ⟨AB + 1, 0, none⟩), .pointer (some ⟨MB + 1 + 1, 0, none⟩)] W5 (LOut E X MB 0 E.length 0 W5) from by
    have h := least_any (KB := MB + 1) (AB := AB) (XB := AB + 1) (FB := MB + 1 + 1) (MB := MB) (oe := oe) (ox := ox) (ce := ce) (cx := cx) hE8 hX8 E.length (Nat.le_refl _) 0 0 W5 (by omega) (by have := Tn_le E.length hE8; omega) HENV.out HKN.out
    rw [Nat.sub_self] at h
    exact h)
  go_wp2_with fail
  refine HCON.out.mono ?_
  rintro _ W6 ⟨v, rfl, ⟨oR, cR, rfl, htR⟩, hk6, ha6⟩
  have HFO := Lib.hid (show FdOk (LS E X E.length 0) from LS_ok hE8 hX8 (Nat.le_refl _) 0)
  obtain ⟨F, hF⟩ : ∃ F, LS E X E.length 0 = F := ⟨_, rfl⟩
  rw [hF] at htR HFO ⊢
  have HF := Lib.hid (show best E X = F from hF)
  have HTR := Lib.hid htR
  have HB6 := Lib.hid (ha6.below HB5.out (fun b hb => by
    obtain rfl : b = MB := by simpa using hb
    exact HMW.out))
  clear hF htR hk6 ha6 HCON ff HENV HKN HB5
  go_upto_region 7 with (fail)
  obtain ⟨W7, hW7⟩ : ∃ W7, W7 = W6.alloc (.cells #[.slice oR F.pairs.length cR, .int .i64 F.cost] 54) := ⟨_, rfl⟩
  have HD7 := Lib.hid (show Blk W7 W6.heap.size 54 #[.slice oR F.pairs.length cR, .int .i64 F.cost] by rw [hW7]; exact Blk.new _ _ _)
  have HB67 := Lib.hid (show Below W6.heap.size W6 W7 by rw [hW7]; exact below_alloc (Below.refl _ _) _)
  rw [← hW7]
  clear hW7
  obtain ⟨D, hD⟩ : ∃ D, W6.heap.size = D := ⟨_, rfl⟩
  rw [hD] at HD7 ⊢
  clear hD
  have HB7 := Lib.hid (below_step HB6.out HB67.out)
  have HTR7 := Lib.hid (HTR.out.later HB67.out)
  clear HB6 HB67 HTR
  have HCL := Lib.hid (fun (w' : World) (h : Twos w' oR (toI F.pairs)) => Clone_any oR cR (toI F.pairs) w' h (by rw [toI_length]; have := HFO.out.len; omega))
  rw [toI_length] at HCL
  refine wp_region_maskF [2, 5, 6, 7] [true, true, false, true, true, false, false, false] (fun w'' => w''.cell? ⟨D, 0, none⟩ = some (.slice oR F.pairs.length cR) ∧ w''.cell? ⟨D, 1, none⟩ = some (.int .i64 F.cost)) mixed (by kernel_rfl) ?_
  intro KR hR
  have HR := Lib.hid hR
  clear hR
  simp only [marked]
  apply wpM_val rfl
  · (intro w' hw'; go_simp; with_reducible rfl)
  simp only [Act.put, List.setIfInBounds_toArray, List.set_cons_zero, List.set_cons_succ]
  apply wpM_val rfl
  · (intro w' hw'; obtain ⟨c0, c1⟩ := hw'; go_simp; with_reducible rfl)
  simp only [Act.put, List.setIfInBounds_toArray, List.set_cons_zero, List.set_cons_succ]
  apply wpM_val rfl
  · (intro w' hw'; go_simp; with_reducible rfl)
  simp only [Act.put, List.setIfInBounds_toArray, List.set_cons_zero, List.set_cons_succ]
  apply wpM_val rfl
  · (intro w' hw'; obtain ⟨c0, c1⟩ := hw'; go_simp; with_reducible rfl)
  simp only [Act.put, List.setIfInBounds_toArray, List.set_cons_zero, List.set_cons_succ]
  refine wpM_nil (HR.out _ ?_)
  clear HR
  have HB8 := Lib.hid (below_step HB7.out (Below.refl W7.heap.size W7).drew)
  have HT8 := Lib.hid (HTR7.out.later (Below.refl W7.heap.size W7).drew)
  have HD8 := Lib.hid (HD7.out.later (Below.refl W7.heap.size W7).drew)
  generalize W7.drew = W8 at HB8 HT8 HD8 ⊢
  clear HB7 HTR7 HD7
  refine ⟨⟨HD8.out.cell 0, HD8.out.cell 1⟩, fun c hc hfree => ?_⟩
  simp only [List.mem_cons, List.not_mem_nil, or_false] at hc
  rcases hc with rfl | rfl | rfl | rfl
  rotate_left
  · exact Bool.noConfusion (hfree.symm.trans (by kernel_rfl) : true = false)
  · exact Bool.noConfusion (hfree.symm.trans (by kernel_rfl) : true = false)
  · exact Bool.noConfusion (hfree.symm.trans (by kernel_rfl) : true = false)
  refine ⟨_, rfl, rfl, stepF_call (f := 29) (args := #[.slice oR F.pairs.length cR]) (w' := W8) (by go_simp) ?_⟩
  refine (HCL.out W8 HT8.out).mono ?_
  rintro _ W9 ⟨oP, cP, rfl, htp, hbp⟩
  refine ⟨_, rfl, ?_⟩
  rw [toI_length]
  simp only [List.getElem_toArray, List.getElem_cons_zero, List.getElem_cons_succ, Act.put, List.setIfInBounds_toArray, List.set_cons_zero, List.set_cons_succ]
  have HTP := Lib.hid htp
  have HBP := Lib.hid (below_step HB8.out hbp)
  have HD9 := Lib.hid (HD8.out.later hbp)
  clear htp hbp HB8 HT8 HD8
  refine ⟨⟨HD9.out.cell 0, HD9.out.cell 1⟩, fun c hc hfree => ?_⟩
  simp only [List.erase_cons_head, List.mem_cons, List.not_mem_nil, or_false] at hc
  rcases hc with rfl | rfl | rfl
  rotate_left
  · exact Bool.noConfusion (hfree.symm.trans (by kernel_rfl) : true = false)
  · exact Bool.noConfusion (hfree.symm.trans (by kernel_rfl) : true = false)
  refine ⟨_, rfl, rfl, stepF_val (v := .slice oP F.pairs.length cP) (w' := W9) (by go_simp) ?_⟩
  simp only [List.getElem_toArray, List.getElem_cons_zero, List.getElem_cons_succ, Act.put, List.setIfInBounds_toArray, List.set_cons_zero, List.set_cons_succ]
  refine ⟨⟨HD9.out.cell 0, HD9.out.cell 1⟩, fun c hc hfree => ?_⟩
  simp only [List.erase_cons_head, List.mem_cons, List.not_mem_nil, or_false] at hc
  rcases hc with rfl | rfl
  rotate_left
  · exact Bool.noConfusion (hfree.symm.trans (by kernel_rfl) : true = false)
  refine ⟨_, rfl, rfl, stepF_val (v := .int .i64 F.cost) (w' := W9) (by go_simp) ?_⟩
  simp only [List.getElem_toArray, List.getElem_cons_zero, List.getElem_cons_succ, Act.put, List.setIfInBounds_toArray, List.set_cons_zero, List.set_cons_succ]
  refine ⟨⟨HD9.out.cell 0, HD9.out.cell 1⟩, fun c hc hfree => ?_⟩
  obtain rfl : c = 7 := by simpa using hc
  refine ⟨_, rfl, rfl, stepF_val (v := .int .i64 0) (w' := W9) (by go_simp) ?_⟩
  simp only [List.getElem_toArray, List.getElem_cons_zero, List.getElem_cons_succ, Act.put, List.setIfInBounds_toArray, List.set_cons_zero, List.set_cons_succ]
  refine wpF_end ?_
  go_wp2_with fail
  refine bodyPost_ret (results_tmp3 rfl _ _ _) rfl ?_
  exact ⟨HBP.out, .inl ⟨HV.out, oP, cP, by rw [HF.out]; rfl, by rw [HF.out]; exact HTP.out⟩⟩
end Go.Proofs.YtmcodendnpjlaaaDoor
