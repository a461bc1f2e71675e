/- Package flow: augment. -/
import Derived.Test.YthgkfdhkmkbioaaFe21
namespace Go.Proofs.Ythgkfdhkmkbioaa
open Go.RowKit
attribute [local go_sem] Oper.semAt_some

theorem nd_stay {E : List Ed} {by' : List Stp} {s t k : Nat} (h : nd E by' s t k = s) : ∀ d, nd E by' s t (k + d) = s
  | 0 => h
  | d + 1 => by
    show (if nd E by' s t (k + d) = s then s else _) = s
    rw [if_pos (nd_stay h d)]
theorem nd_before {E : List Ed} {by' : List Stp} {s t k j : Nat} (h : nd E by' s t k = s) (hj : nd E by' s t j ≠ s) : j < k := by
  refine Nat.lt_of_not_le fun hc => hj ?_
  rw [show j = k + (j - k) by omega]
  exact nd_stay h _
theorem stp_room {E : List Ed} {fl : List Int} {v : Nat} {x : Stp} (h : StpOk E fl v x) (hc : ∀ i, i < E.length → 0 ≤ fl.getD i 0 ∧ fl.getD i 0 ≤ (getE E i).c) (hm : ∀ e ∈ E, 0 ≤ e.c ∧ e.c ≤ 1000000) : x.room ≤ 1000000 := by
  have h1 := hc _ h.e
  have h2 := hm _ (getE_mem h.e)
  cases hf : x.fw with
  | true => have := (h.fw hf).2; omega
  | false => have := (h.bw hf).2; omega
/-- What the loops of augment keep. -/
structure AugM (w wr : World) (FB NB : Nat) (fl' : List Int) : Prop where
  agr : Agr w wr [FB]
  box : Blk wr w.heap.size 80 #[.pointer (some ⟨NB, 0, none⟩)]
  fb : Blk wr FB 3 (intsC fl')
theorem AugM.later {w wr w' : World} {FB NB : Nat} {fl' : List Int} (h : AugM w wr FB NB fl') (hb : Below wr.heap.size wr w') : AugM w w' FB NB fl' :=
  ⟨h.agr.later hb, h.box.later hb, h.fb.later hb⟩
theorem AugM.set {w wr : World} {FB NB : Nat} {fl' : List Int} (h : AugM w wr FB NB fl') (i : Nat) (x : Int) : AugM w (wr.setCell ⟨FB, i, none⟩ (.int .i64 x)) FB NB (fl'.set i x) :=
  ⟨h.agr.set (by simp), h.box.other (p := ⟨FB, i, none⟩) (Blk.ne h.box h.fb (by decide)) _, by rw [← intsC_set]; exact h.fb.set i _⟩
set_option maxRecDepth 100000 in
set_option maxHeartbeats 16000000 in
theorem augment_any (w : World) (N : Nat) (E : List Ed) (NB FB AB BB : Nat) (eo : Option Addr) (ec : Nat) (fl : List Int) (s t : Nat) (a : Int) (seen : List Bool) (by' : List Stp) (rk : Nat → Nat) (ht : t < N) (hst : s ≠ t) (hnet : NetW w N E NB FB AB eo ec) (hfb : Blk w FB 3 (intsC fl)) (hbb : Blk w BB 107 (stpsC by')) (hF : FlowOk E fl s t a) (hR : Reach E fl N s seen by' rk) (h1 : seen.getD t false = true) :
    Calls Try.prog 39 #[.pointer (some ⟨NB, 0, none⟩), .int .i64 (s : Nat), .int .i64 (t : Nat), .slice (some ⟨BB, 0, none⟩) N N] w (fun e w' => ∃ (r : Int) (fl' : List Int), e = .returned (.int .i64 r) ∧ 0 < r ∧ r ≤ 1000000 ∧ FlowOk E fl' s t (a + r) ∧ Agr w w' [FB] ∧ Blk w' FB 3 (intsC fl')) := by
  have HNET := Lib.hid hnet
  have HFB := Lib.hid hfb
  have HBB := Lib.hid hbb
  have HFL := Lib.hid hF
  have HR := Lib.hid hR
  have HND := Lib.hid (nd_seen hR ht h1)
  have HT := Lib.hid (hR.ok t ht h1 (Ne.symm hst)).1
  have HFBB : Hid (BB ≠ FB) := Lib.hid (Blk.ne hbb hfb (by decide))
  have HRM : Hid (∀ v, v < N → seen.getD v false = true → v ≠ s → 0 < (getS by' v).room ∧ (getS by' v).room ≤ 1000000) := Lib.hid (fun v hv sv vs => ⟨(hR.ok v hv sv vs).1.room, stp_room (hR.ok v hv sv vs).1 hF.cap hnet.cap⟩)
  have hN := hnet.n64
  have hs := hR.sN
  have hby : by'.length = N := hR.lb
  have HCB : Hid (∀ wr, Agr w wr [FB] → ∀ v, v < N → wr.cell? ⟨BB, v * 4, none⟩ = some (.int .i64 ((getS by' v).e : Nat)) ∧ wr.cell? ⟨BB, v * 4 + 1, none⟩ = some (.int .i64 ((getS by' v).to : Nat)) ∧ wr.cell? ⟨BB, v * 4 + 2, none⟩ = some (.int .i64 (getS by' v).room) ∧ wr.cell? ⟨BB, v * 4 + 3, none⟩ = some (.bool (getS by' v).fw)) := Lib.hid (fun wr ha v hv => by
    have hb := ha.blk hbb (by simpa using Blk.ne hbb hfb (by decide))
    have hg := flatS_get (l := by') (i := v) (by rw [hby]; exact hv)
    exact ⟨(hb.cell _).trans (by rw [stpsC_at]; exact hg.1), (hb.cell _).trans (by rw [stpsC_at]; exact hg.2.1), (hb.cell _).trans (by rw [stpsC_at]; exact hg.2.2.1), (hb.cell _).trans (by rw [stpsC_at]; exact hg.2.2.2)⟩)
  have HRT := Lib.hid (HRM.out t ht h1 (Ne.symm hst))
  clear hnet hfb hbb hF hR hby
  go_enter Try.func39, Try.ntmps39
  obtain ⟨-, -, b2, -⟩ := HCB.out w (Agr.refl _ _) t ht
  have y1 : (0 : Int) ≤ (t : Int) := by omega
  have y2 : (t : Int) < (N : Int) := by omega
  go_upto_region 1 with (fail)
  obtain ⟨W1, hW1⟩ : ∃ W, W = w.alloc (.cells #[.pointer (some ⟨NB, 0, none⟩)] 80) := ⟨_, rfl⟩
  have HM1 : Hid (AugM w W1 FB NB fl) := Lib.hid (by
    have hb : Below w.heap.size w W1 := by rw [hW1]; exact below_alloc (Below.refl _ _) _
    exact ⟨Agr.of_below hb, by rw [hW1]; exact Blk.new .., HFB.out.later hb⟩)
  rw [← hW1]
  replace b2 := cell_kept (show Below w.heap.size w W1 by rw [hW1]; exact below_alloc (Below.refl _ _) _) b2
  clear hW1
  go_wp2_with fail
  obtain ⟨R0, hR0⟩ : ∃ x, (getS by' t).room = x := ⟨_, rfl⟩
  rw [hR0] at HRT ⊢
  have HR0 := Lib.hid hR0
  clear b2 hR0
  go_loopw [10, 11] (fun r i wr => ∃ (k : Nat) (ρ : Int), i = .int .i64 (nd E by' s t k : Nat) ∧ r = .int .i64 ρ ∧ 0 < ρ ∧ ρ ≤ R0 ∧ (∀ j, j < k → ρ ≤ (getS by' (nd E by' s t j)).room) ∧ AugM w wr FB NB fl) (fun _ i _ => rk (intOf i).toNat)
  case atStart => exact ⟨0, R0, rfl, rfl, HRT.out.1, Int.le_refl _, fun j hj => absurd hj (Nat.not_lt_zero _), HM1.out⟩
  case round =>
    obtain ⟨k, ρ, rfl, rfl, hρ0, hρ1, hρ, hm⟩ := hrel
    obtain ⟨wA, rfl⟩ : ∃ wA : World, wA = wr := ⟨_, rfl⟩
    have HM := Lib.hid hm
    have HRO := Lib.hid hρ
    clear hm hρ HM1
    have hv := HND.out k
    obtain ⟨v, hvk⟩ : ∃ v, nd E by' s t k = v := ⟨_, rfl⟩
    have HVK := Lib.hid hvk
    rw [hvk] at hv ⊢
    clear hvk
    have hvN := hv.1
    have HSV := Lib.hid hv.2
    clear hv
    by_cases hvs : v = s
    · have d1 : ((v : Int) != (s : Int)) = false := by rw [hvs]; simp
      have HVS := Lib.hid hvs
      clear hvs
      go_wp2_with fail
      have HST0 : Hid (AugSt E fl fl N s t a ρ seen by' rk t) := Lib.hid (aug_start HFL.out)
      go_loopw [12] (fun i wr => ∃ (k2 : Nat) (fl' : List Int), i = .int .i64 (nd E by' s t k2 : Nat) ∧ AugM w wr FB NB fl' ∧ AugSt E fl fl' N s t a ρ seen by' rk (nd E by' s t k2)) (fun i _ => rk (intOf i).toNat)
      case atStart => exact ⟨0, fl, rfl, HM.out, HST0.out⟩
      case round =>
        obtain ⟨k2, fl', rfl, hm2, hst2⟩ := hrel
        obtain ⟨wB, rfl⟩ : ∃ wB : World, wB = wr := ⟨_, rfl⟩
        have HM2 := Lib.hid hm2
        have HST2 := Lib.hid hst2
        clear hm2 hst2 HM HST0
        have hv2 := HND.out k2
        have HK2 := Lib.hid (fun (hne : nd E by' s t k2 ≠ s) => HRO.out k2 (nd_before (HVK.out.trans HVS.out) hne))
        obtain ⟨u, huk⟩ : ∃ u, nd E by' s t k2 = u := ⟨_, rfl⟩
        have HUK := Lib.hid huk
        rw [huk] at hv2 HK2 HST2 ⊢
        clear huk
        have huN := hv2.1
        have HSU := Lib.hid hv2.2
        clear hv2
        by_cases hus : u = s
        · have d2 : ((u : Int) != (s : Int)) = false := by rw [hus]; simp
          have HUS := Lib.hid hus
          clear hus
          go_wp2
          go_ret
          rw [HUS.out] at HST2
          exact ⟨ρ, fl', rfl, hρ0, Int.le_trans hρ1 HRT.out.2, aug_end HFL.out HST2.out hst, HM2.out.agr, HM2.out.fb⟩
        · have d2 : ((u : Int) != (s : Int)) = true := by simp; omega
          have HUS := Lib.hid hus
          clear hus
          obtain ⟨b0, b1, b2, b3⟩ := HCB.out wB HM2.out.agr u huN
          have HCu := Lib.hid (show ∀ w2, Agr w w2 [FB] → w2.cell? ⟨BB, u * 4, none⟩ = some (.int .i64 ((getS by' u).e : Nat)) ∧ w2.cell? ⟨BB, u * 4 + 1, none⟩ = some (.int .i64 ((getS by' u).to : Nat)) ∧ w2.cell? ⟨BB, u * 4 + 2, none⟩ = some (.int .i64 (getS by' u).room) ∧ w2.cell? ⟨BB, u * 4 + 3, none⟩ = some (.bool (getS by' u).fw) from fun w2 ha => HCB.out w2 ha u huN)
          have HOK := Lib.hid (HR.out.ok u huN HSU.out HUS.out)
          have HKu := Lib.hid (HK2.out HUS.out)
          have HSS := Lib.hid (aug_step HR.out HST2.out huN HSU.out HUS.out (Int.le_of_lt hρ0) HKu.out)
          have HSUC := Lib.hid (nd_succ (E := E) (by' := by') (s := s) (t := t) (k := k2) (by rw [HUK.out]; exact HUS.out))
          rw [HUK.out] at HSUC
          obtain ⟨x, hx⟩ : ∃ x, getS by' u = x := ⟨_, rfl⟩
          rw [hx] at b0 b1 b2 b3 HOK HKu HSS HSUC HCu
          have HX := Lib.hid hx
          clear hx b1 b2 HK2
          have hxe := HOK.out.1.e
          have HE5 := Lib.hid HNET.out.e512
          have HLN := Lib.hid HST2.out.len
          have hc1 := HST2.out.cap x.e hxe
          have hc3 := (HNET.out.cap _ (getE_mem hxe)).2
          have HS3 := Lib.hid (HSS.out.cap x.e hxe)
          have f0 : wB.cell? ⟨FB, x.e, none⟩ = some (.int .i64 (fl'.getD x.e 0)) := (HM2.out.fb.cell _).trans (intsC_get (by rw [← HLN.out]; exact hxe))
          have n2 : wB.cell? ⟨NB, 2, none⟩ = some (.slice (some ⟨FB, 0, none⟩) E.length E.length) := HM2.out.agr.cell (HNET.out.nb.cell 2) (by simpa using HNET.out.n1)
          have up : wB.cell? ⟨w.heap.size, 0, none⟩ = some (.pointer (some ⟨NB, 0, none⟩)) := HM2.out.box.cell 0
          rw [getD_set_self (by rw [← HLN.out]; exact hxe)] at HS3
          have ff := HM2.out.fb.frozen x.e
          obtain ⟨F, hF⟩ : ∃ F, fl'.getD x.e 0 = F := ⟨_, rfl⟩
          have HFX := Lib.hid hF
          rw [hF] at hc1 f0 HS3 HSS
          clear hF
          have y5 : (0 : Int) ≤ (u : Int) := by omega
          have y6 : (u : Int) < (N : Int) := by omega
          have y7 : (0 : Int) ≤ (x.e : Int) := by omega
          have y8 : (x.e : Int) < (E.length : Int) := by omega
          cases hfw : x.fw with
          | true =>
            have HS4 := Lib.hid (show 0 ≤ F + ρ ∧ F + ρ ≤ 1000000 by
              have h3 := HS3.out
              unfold sgn at h3
              rw [hfw, if_pos rfl] at h3
              omega)
            have HSG := Lib.hid (show F + sgn x ρ = F + ρ by unfold sgn; rw [hfw]; rfl)
            rw [hfw] at b3 HCu
            have HFW := Lib.hid hfw
            clear hfw HS3
            rw [HSG.out] at HSS
            have e1 : IntKind.i64.wrap (F + ρ) = F + ρ := IntWalk.i64_in _ (by have := HS4.out; omega)
            go_wp2_with fail
            refine wp_region_mask [14] [true, true, true, true, true, true, true, true, true, true, true, true, true, true, false] (fun w'' => w''.cell? ⟨w.heap.size, 0, none⟩ = some (.pointer (some ⟨NB, 0, none⟩)) ∧ w''.cell? ⟨NB, 2, none⟩ = some (.slice (some ⟨FB, 0, none⟩) E.length E.length) ∧ w''.cell? ⟨BB, u * 4, none⟩ = some (.int .i64 (x.e : Nat)) ∧ w''.cell? ⟨FB, x.e, none⟩ = some (.int .i64 F)) mixed (by kernel_rfl) ?_
            intro KR hR
            have HR := Lib.hid hR
            clear hR
            simp only [marked]
            apply wpM_val rfl
            · (intro w' hw'; obtain ⟨c0, c1, c2, c3⟩ := hw'; go_simp; with_reducible rfl)
            simp only [Act.put, List.setIfInBounds_toArray, List.set_cons_zero, List.set_cons_succ]
            apply wpM_val rfl
            · (intro w' hw'; go_simp; with_reducible rfl)
            simp only [Act.put, List.setIfInBounds_toArray, List.set_cons_zero, List.set_cons_succ]
            apply wpM_val rfl
            · (intro w' hw'; go_simp; with_reducible rfl)
            simp only [Act.put, List.setIfInBounds_toArray, List.set_cons_zero, List.set_cons_succ]
            apply wpM_val rfl
            · (intro w' hw'; obtain ⟨c0, c1, c2, c3⟩ := hw'; go_simp; with_reducible rfl)
            simp only [Act.put, List.setIfInBounds_toArray, List.set_cons_zero, List.set_cons_succ]
            apply wpM_val rfl
            · (intro w' hw'; go_simp; with_reducible rfl)
            simp only [Act.put, List.setIfInBounds_toArray, List.set_cons_zero, List.set_cons_succ]
            apply wpM_val rfl
            · (intro w' hw'; go_simp; with_reducible rfl)
            simp only [Act.put, List.setIfInBounds_toArray, List.set_cons_zero, List.set_cons_succ]
            apply wpM_val rfl
            · (intro w' hw'; go_simp; with_reducible rfl)
            simp only [Act.put, List.setIfInBounds_toArray, List.set_cons_zero, List.set_cons_succ]
            apply wpM_val rfl
            · (intro w' hw'; go_simp; with_reducible rfl)
            simp only [Act.put, List.setIfInBounds_toArray, List.set_cons_zero, List.set_cons_succ]
            apply wpM_val rfl
            · (intro w' hw'; obtain ⟨c0, c1, c2, c3⟩ := hw'; go_simp; with_reducible rfl)
            simp only [Act.put, List.setIfInBounds_toArray, List.set_cons_zero, List.set_cons_succ]
            apply wpM_val rfl
            · (intro w' hw'; go_simp; with_reducible rfl)
            simp only [Act.put, List.setIfInBounds_toArray, List.set_cons_zero, List.set_cons_succ]
            apply wpM_val rfl
            · (intro w' hw'; obtain ⟨c0, c1, c2, c3⟩ := hw'; go_simp; with_reducible rfl)
            simp only [Act.put, List.setIfInBounds_toArray, List.set_cons_zero, List.set_cons_succ]
            apply wpM_val rfl
            · (intro w' hw'; go_simp; with_reducible rfl)
            simp only [Act.put, List.setIfInBounds_toArray, List.set_cons_zero, List.set_cons_succ]
            apply wpM_val rfl
            · (intro w' hw'; go_simp; with_reducible rfl)
            simp only [Act.put, List.setIfInBounds_toArray, List.set_cons_zero, List.set_cons_succ]
            apply wpM_val rfl
            · (intro w' hw'; go_simp; with_reducible rfl)
            simp only [Act.put, List.setIfInBounds_toArray, List.set_cons_zero, List.set_cons_succ]
            refine wpM_nil (HR.out _ ?_)
            clear HR
            clear up n2 f0 b0 b3
            obtain ⟨W6, hW6⟩ : ∃ W', W' = wB.drew := ⟨_, rfl⟩
            have HB6 := Lib.hid (show Below wB.heap.size wB W6 by rw [hW6]; exact (Below.refl _ _).drew)
            have HM6 := Lib.hid (HM2.out.later HB6.out)
            rw [← hW6]
            clear hW6 ff
            have HJ6 := Lib.hid (show W6.cell? ⟨w.heap.size, 0, none⟩ = some (.pointer (some ⟨NB, 0, none⟩)) ∧ W6.cell? ⟨NB, 2, none⟩ = some (.slice (some ⟨FB, 0, none⟩) E.length E.length) ∧ W6.cell? ⟨BB, u * 4, none⟩ = some (.int .i64 (x.e : Nat)) ∧ W6.cell? ⟨FB, x.e, none⟩ = some (.int .i64 F) from ⟨HM6.out.box.cell 0, HM6.out.agr.cell (HNET.out.nb.cell 2) (by simpa using HNET.out.n1), (HCu.out W6 HM6.out.agr).1, (HM6.out.fb.cell _).trans (by rw [← HFX.out]; exact intsC_get (by rw [← HLN.out]; exact hxe))⟩)
            have f6 := HM6.out.fb.frozen x.e
            have c6 := HJ6.out.2.2.2
            refine wpC_skipN rfl rfl rfl HJ6.out (w' := W6.setCell ⟨FB, x.e, none⟩ (.int .i64 (F + ρ))) (by go_simp) ?_
            refine wpC_nil ?_
            have HM7 := Lib.hid (HM6.out.set x.e (F + ρ))
            obtain ⟨W7, hW7⟩ : ∃ W', W' = W6.setCell ⟨FB, x.e, none⟩ (.int .i64 (F + ρ)) := ⟨_, rfl⟩
            rw [← hW7] at HM7 ⊢
            clear hW7 c6 f6 HJ6
            obtain ⟨b0, b1, b2, b3⟩ := HCu.out W7 HM7.out.agr
            have HFR := Lib.hid (from_any W7 N E NB FB AB eo ec w.heap.size x (HNET.out.agr HM7.out.agr (fun b hb => List.mem_singleton.1 hb)) HM7.out.box HOK.out.1.e)
            rw [show stpV x = .agg #[.int .i64 (x.e : Nat), .int .i64 (x.to : Nat), .int .i64 x.room, .bool true] by rw [← HFW.out]] at HFR
            go_wp2_with fail
            refine HFR.out.mono ?_
            rintro _ wC ⟨rfl, hb⟩
            have HM8 := Lib.hid (HM7.out.later hb)
            clear hb HFR b0 b1 b2 b3
            go_wp2
            go_round
            case rel => exact ⟨k2 + 1, _, by rw [HSUC.out], HM8.out, by rw [HSUC.out]; exact HSS.out⟩
            case measure => exact HOK.out.2.2.2
          | false =>
            have HS4 := Lib.hid (show 0 ≤ F - ρ ∧ F - ρ ≤ 1000000 by
              have h3 := HS3.out
              unfold sgn at h3
              rw [hfw, if_neg (by decide)] at h3
              omega)
            have HSG := Lib.hid (show F + sgn x ρ = F - ρ by unfold sgn; rw [hfw]; rfl)
            rw [hfw] at b3 HCu
            have HFW := Lib.hid hfw
            clear hfw HS3
            rw [HSG.out] at HSS
            have e1 : IntKind.i64.wrap (F - ρ) = F - ρ := IntWalk.i64_in _ (by have := HS4.out; omega)
            go_wp2_with fail
            refine wp_region_mask [14] [true, true, true, true, true, true, true, true, true, true, true, true, true, true, false] (fun w'' => w''.cell? ⟨w.heap.size, 0, none⟩ = some (.pointer (some ⟨NB, 0, none⟩)) ∧ w''.cell? ⟨NB, 2, none⟩ = some (.slice (some ⟨FB, 0, none⟩) E.length E.length) ∧ w''.cell? ⟨BB, u * 4, none⟩ = some (.int .i64 (x.e : Nat)) ∧ w''.cell? ⟨FB, x.e, none⟩ = some (.int .i64 F)) mixed (by kernel_rfl) ?_
            intro KR hR
            have HR := Lib.hid hR
            clear hR
            simp only [marked]
            apply wpM_val rfl
            · (intro w' hw'; obtain ⟨c0, c1, c2, c3⟩ := hw'; go_simp; with_reducible rfl)
            simp only [Act.put, List.setIfInBounds_toArray, List.set_cons_zero, List.set_cons_succ]
            apply wpM_val rfl
            · (intro w' hw'; go_simp; with_reducible rfl)
            simp only [Act.put, List.setIfInBounds_toArray, List.set_cons_zero, List.set_cons_succ]
            apply wpM_val rfl
            · (intro w' hw'; go_simp; with_reducible rfl)
            simp only [Act.put, List.setIfInBounds_toArray, List.set_cons_zero, List.set_cons_succ]
            apply wpM_val rfl
            · (intro w' hw'; obtain ⟨c0, c1, c2, c3⟩ := hw'; go_simp; with_reducible rfl)
            simp only [Act.put, List.setIfInBounds_toArray, List.set_cons_zero, List.set_cons_succ]
            apply wpM_val rfl
            · (intro w' hw'; go_simp; with_reducible rfl)
            simp only [Act.put, List.setIfInBounds_toArray, List.set_cons_zero, List.set_cons_succ]
            apply wpM_val rfl
            · (intro w' hw'; go_simp; with_reducible rfl)
            simp only [Act.put, List.setIfInBounds_toArray, List.set_cons_zero, List.set_cons_succ]
            apply wpM_val rfl
            · (intro w' hw'; go_simp; with_reducible rfl)
            simp only [Act.put, List.setIfInBounds_toArray, List.set_cons_zero, List.set_cons_succ]
            apply wpM_val rfl
            · (intro w' hw'; go_simp; with_reducible rfl)
            simp only [Act.put, List.setIfInBounds_toArray, List.set_cons_zero, List.set_cons_succ]
            apply wpM_val rfl
            · (intro w' hw'; obtain ⟨c0, c1, c2, c3⟩ := hw'; go_simp; with_reducible rfl)
            simp only [Act.put, List.setIfInBounds_toArray, List.set_cons_zero, List.set_cons_succ]
            apply wpM_val rfl
            · (intro w' hw'; go_simp; with_reducible rfl)
            simp only [Act.put, List.setIfInBounds_toArray, List.set_cons_zero, List.set_cons_succ]
            apply wpM_val rfl
            · (intro w' hw'; obtain ⟨c0, c1, c2, c3⟩ := hw'; go_simp; with_reducible rfl)
            simp only [Act.put, List.setIfInBounds_toArray, List.set_cons_zero, List.set_cons_succ]
            apply wpM_val rfl
            · (intro w' hw'; go_simp; with_reducible rfl)
            simp only [Act.put, List.setIfInBounds_toArray, List.set_cons_zero, List.set_cons_succ]
            apply wpM_val rfl
            · (intro w' hw'; go_simp; with_reducible rfl)
            simp only [Act.put, List.setIfInBounds_toArray, List.set_cons_zero, List.set_cons_succ]
            apply wpM_val rfl
            · (intro w' hw'; go_simp; with_reducible rfl)
            simp only [Act.put, List.setIfInBounds_toArray, List.set_cons_zero, List.set_cons_succ]
            refine wpM_nil (HR.out _ ?_)
            clear HR
            clear up n2 f0 b0 b3
            obtain ⟨W6, hW6⟩ : ∃ W', W' = wB.drew := ⟨_, rfl⟩
            have HB6 := Lib.hid (show Below wB.heap.size wB W6 by rw [hW6]; exact (Below.refl _ _).drew)
            have HM6 := Lib.hid (HM2.out.later HB6.out)
            rw [← hW6]
            clear hW6 ff
            have HJ6 := Lib.hid (show W6.cell? ⟨w.heap.size, 0, none⟩ = some (.pointer (some ⟨NB, 0, none⟩)) ∧ W6.cell? ⟨NB, 2, none⟩ = some (.slice (some ⟨FB, 0, none⟩) E.length E.length) ∧ W6.cell? ⟨BB, u * 4, none⟩ = some (.int .i64 (x.e : Nat)) ∧ W6.cell? ⟨FB, x.e, none⟩ = some (.int .i64 F) from ⟨HM6.out.box.cell 0, HM6.out.agr.cell (HNET.out.nb.cell 2) (by simpa using HNET.out.n1), (HCu.out W6 HM6.out.agr).1, (HM6.out.fb.cell _).trans (by rw [← HFX.out]; exact intsC_get (by rw [← HLN.out]; exact hxe))⟩)
            have f6 := HM6.out.fb.frozen x.e
            have c6 := HJ6.out.2.2.2
            refine wpC_skipN rfl rfl rfl HJ6.out (w' := W6.setCell ⟨FB, x.e, none⟩ (.int .i64 (F - ρ))) (by go_simp) ?_
            refine wpC_nil ?_
            have HM7 := Lib.hid (HM6.out.set x.e (F - ρ))
            obtain ⟨W7, hW7⟩ : ∃ W', W' = W6.setCell ⟨FB, x.e, none⟩ (.int .i64 (F - ρ)) := ⟨_, rfl⟩
            rw [← hW7] at HM7 ⊢
            clear hW7 c6 f6 HJ6
            obtain ⟨b0, b1, b2, b3⟩ := HCu.out W7 HM7.out.agr
            have HFR := Lib.hid (from_any W7 N E NB FB AB eo ec w.heap.size x (HNET.out.agr HM7.out.agr (fun b hb => List.mem_singleton.1 hb)) HM7.out.box HOK.out.1.e)
            rw [show stpV x = .agg #[.int .i64 (x.e : Nat), .int .i64 (x.to : Nat), .int .i64 x.room, .bool false] by rw [← HFW.out]] at HFR
            go_wp2_with fail
            refine HFR.out.mono ?_
            rintro _ wC ⟨rfl, hb⟩
            have HM8 := Lib.hid (HM7.out.later hb)
            clear hb HFR b0 b1 b2 b3
            go_wp2
            go_round
            case rel => exact ⟨k2 + 1, _, by rw [HSUC.out], HM8.out, by rw [HSUC.out]; exact HSS.out⟩
            case measure => exact HOK.out.2.2.2
    · have d1 : ((v : Int) != (s : Int)) = true := by simp; omega
      have HVS := Lib.hid hvs
      clear hvs
      obtain ⟨b0, b1, b2, b3⟩ := HCB.out wA HM.out.agr v hvN
      have hrm := HRM.out v hvN HSV.out HVS.out
      have HOK := Lib.hid (HR.out.ok v hvN HSV.out HVS.out)
      have HSUC := Lib.hid (nd_succ (E := E) (by' := by') (s := s) (t := t) (k := k) (by rw [HVK.out]; exact HVS.out))
      rw [HVK.out] at HSUC
      obtain ⟨x, hx⟩ : ∃ x, getS by' v = x := ⟨_, rfl⟩
      rw [hx] at b0 b1 b2 b3 hrm HOK HSUC
      have HX := Lib.hid hx
      clear hx
      have y3 : (0 : Int) ≤ (v : Int) := by omega
      have y4 : (v : Int) < (N : Int) := by omega
      have HFR := Lib.hid (from_any wA N E NB FB AB eo ec w.heap.size x (HNET.out.agr HM.out.agr (fun b hb => List.mem_singleton.1 hb)) HM.out.box HOK.out.1.e)
      go_wp2_with fail
      case inl h =>
        refine HFR.out.mono ?_
        rintro _ wC ⟨rfl, hb⟩
        have HM3 := Lib.hid (HM.out.later hb)
        clear hb HFR b0 b1 b2 b3
        go_wp2
        go_round
        case rel =>
          refine ⟨k + 1, x.room, by rw [HSUC.out], rfl, hrm.1, Int.le_trans (Int.le_of_lt h) hρ1, fun j hj => ?_, HM3.out⟩
          by_cases e : j = k
          · rw [e, HVK.out, HX.out]; exact Int.le_refl _
          · exact Int.le_trans (Int.le_of_lt h) (HRO.out j (by omega))
        case measure => exact HOK.out.2.2.2
      case inr h =>
        refine HFR.out.mono ?_
        rintro _ wC ⟨rfl, hb⟩
        have HM3 := Lib.hid (HM.out.later hb)
        clear hb HFR b0 b1 b2 b3
        go_wp2
        go_round
        case rel =>
          refine ⟨k + 1, ρ, by rw [HSUC.out], rfl, hρ0, hρ1, fun j hj => ?_, HM3.out⟩
          by_cases e : j = k
          · rw [e, HVK.out, HX.out]; exact h
          · exact HRO.out j (by omega)
        case measure => exact HOK.out.2.2.2
end Go.Proofs.Ythgkfdhkmkbioaa