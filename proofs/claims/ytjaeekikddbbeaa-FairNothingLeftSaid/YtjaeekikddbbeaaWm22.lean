/- Chapter 22: FairNothingLeft. -/
import Derived.Test.YtjaeekikddbbeaaWl22
namespace Go.Proofs.Ytjaeekikddbbeaa
open Go.RowKit
attribute [local go_sem] Oper.semAt_some

def fullB (X : List Int) (m : Int) (r : Rw) : Bool := r.ms.contains m && decide (sumR r X = r.c)
theorem left_start {rows : List Rw} {most order : List Int} (h : VL rows most) (ho : isOrd order (most.length : Nat) = true) {k : Nat} (hk : k < most.length) : (((shareF rows most order).getD k 0 == most.getD k 0) || (rows.drop 0).any (fullB (shareF rows most order) (k : Int))) = true := by
  rw [Bool.or_eq_true]
  by_cases he : (shareF rows most order).getD k 0 = most.getD k 0
  · exact .inl (by simpa using he)
  · right
    obtain ⟨r, hr, hm, hs⟩ := share_left h ho (m := (k : Int)) ⟨by omega, by omega⟩ (by simpa [atI] using he)
    rw [List.drop_zero, List.any_eq_true]
    exact ⟨r, hr, by simp [fullB, hm, hs]⟩
theorem fit_bd {rows : List Rw} {most x : List Int} (h : Fit rows most x) {r : Rw} (hr : r ∈ rows) : (∀ m ∈ r.ms, 0 ≤ m ∧ m < (x.length : Int)) ∧ (∀ m ∈ r.ms, 0 ≤ atI x m ∧ atI x m ≤ 1000) := inLim_bd h.vl h.len ((inLim_iff h.len).2 h.lim) hr

set_option maxRecDepth 100000 in
set_option maxHeartbeats 16000000 in
theorem left_walk (oa : Option Addr) (ca : Nat) (rows : List Rw) (om : Option Addr) (cm : Nat) (most : List Int) (oo : Option Addr) (co : Nat) (order : List Int) (w : World) (hr : Rws w oa rows) (hl : rows.length ≤ 9000000000000000000) (h_most : Ints w om most) (h_order : Ints w oo order) : Calls Try.prog 5 #[.slice oa rows.length ca, .slice om most.length cm, .slice oo order.length co] w (Ret (.bool true) w) := by
  have HRW := Lib.hid hr
  clear hr
  have H_most := Lib.hid h_most
  clear h_most
  have H_order := Lib.hid h_order
  clear h_order
  go_enter Try.func5, Try.ntmps5
  go_wp2_with fail
  refine (head_any _).mono ?_
  rintro e x1 ⟨rfl, hb⟩
  have HW := Lib.hid hb
  clear hb
  have HALL := Lib.hid (below_alloc (Below.refl x1.heap.size x1) (.cells #[.slice om most.length cm, .slice oo order.length co] 23))
  have HLS := Lib.hid (show Lens (x1.alloc (.cells #[.slice om most.length cm, .slice oo order.length co] 23)) (some ⟨x1.heap.size, 0, none⟩) [most.length, order.length] from lit_lens x1 23 [(om, most.length, cm), (oo, order.length, co)])
  replace HW := Lib.hid (below_step HW.out HALL.out)
  clear HALL
  go_wp2_with fail
  refine (small_any oa (some ⟨x1.heap.size, 0, none⟩) ca 2 rows [most.length, order.length] _ (HRW.out.later HW.out) hl HLS.out (by simp)).mono ?_
  rintro e x2 ⟨rfl, hb⟩
  replace HW := Lib.hid (below_step HW.out hb)
  clear hb HLS
  obtain ⟨F, hF⟩ : ∃ F, smallB rows [most.length, order.length] = F := ⟨_, rfl⟩
  have HF := Lib.hid hF
  rw [hF]
  clear hF
  cases F with
  | false =>
    go_wp2
    go_ret
    exact ⟨rfl, HW.out⟩
  | true =>
  have HSM := Lib.hid (show (∀ n ∈ [most.length, order.length], n ≤ 100) ∧ fewR rows = true by have := HF.out; unfold smallB at this; rw [Bool.and_eq_true, lensOk_iff] at this; exact this)
  have hl_most : most.length ≤ 100 := HSM.out.1 _ (by simp)
  have hl_order : order.length ≤ 100 := HSM.out.1 _ (by simp)
  clear HF
  go_wp2_with fail
  refine (Share_any oa om oo ca cm co rows most order _ (HRW.out.later HW.out) (H_most.out.later HW.out) (H_order.out.later HW.out) hl (by omega) (by omega)).mono ?_
  rintro e x3 ⟨hb, ⟨hv, gx, hgx, rfl, hx⟩ | ⟨hv, rfl⟩⟩
  rotate_left
  · replace HW := Lib.hid (below_step HW.out hb)
    clear hb hv
    go_wp2
    go_ret
    exact ⟨rfl, HW.out⟩
  replace HW := Lib.hid (below_step HW.out hb)
  have HX := Lib.hid hx
  have HV := Lib.hid (show VL rows most ∧ isOrd order (most.length : Nat) = true by rw [Bool.and_eq_true] at hv; exact ⟨validLim_iff.1 hv.1, hv.2⟩)
  clear hb hx hv hgx
  have HFT := Lib.hid (share_fit HV.out.1 HV.out.2)
  have HST := Lib.hid (fun (k : Nat) (hk : k < most.length) => left_start HV.out.1 HV.out.2 hk)
  have HLX := Lib.hid HFT.out.len
  have hr64 := HV.out.1.r64
  obtain ⟨X, hX⟩ : ∃ X, shareF rows most order = X := ⟨_, rfl⟩
  rw [hX] at HX HFT HLX HST
  clear hX
  go_wp2
  go_loopw [39] (fun i wr => ∃ k : Nat, k ≤ most.length ∧ i = .int .i64 k ∧ Below x3.heap.size x3 wr) (fun i _ => most.length - (intOf i).toNat)
  case atStart => exact ⟨0, Nat.zero_le _, rfl, Below.refl _ _⟩
  case round =>
    obtain ⟨k, hk, rfl, hb⟩ := hrel
    have HB := Lib.hid hb
    clear hb
    by_cases hlt : k < most.length
    · obtain ⟨g, off, hgo, c0⟩ := (HX.out.later HB.out) k (by have := HLX.out; omega)
      obtain ⟨rfl, rfl⟩ := cells_eq rfl hgo
      obtain ⟨g2, off2, hgo2, d0⟩ := (H_most.out.later (below_step HW.out HB.out)) k hlt
      have HS0 := Lib.hid (HST.out k hlt)
      have HGM := Lib.hid hgo2
      obtain ⟨q, hq⟩ : ∃ q, X.getD k 0 = q := ⟨_, rfl⟩
      obtain ⟨s, hs⟩ : ∃ s, most.getD k 0 = s := ⟨_, rfl⟩
      rw [hq] at c0 HS0
      rw [hs] at d0 HS0
      clear hq hs hgo
      subst hgo2
      obtain ⟨F, hF⟩ : ∃ F, (q == s) = F := ⟨_, rfl⟩
      have hqs : (q == s) = F := hF
      rw [hF] at HS0
      clear hF
      have y1 : (0 : Int) ≤ (k : Int) := by omega
      have y2 : (k : Int) < (most.length : Int) := by omega
      have e0 : (0 : Nat) + k = k := Nat.zero_add k
      rw [e0] at c0
      clear e0
      go_wp2_with fail
      go_quiet (fail)
      clear hqs c0 d0
      generalize hW5 : World.drewN wr _ = W5
      have HB5 := Lib.hid (show Below x3.heap.size x3 W5 by rw [← hW5]; exact below_drewN HB.out _)
      clear hW5 HB
      go_wp2
      go_loopw [11, 53] (fun fl i w2 => ∃ (j : Nat) (b : Bool), j ≤ rows.length ∧ i = .int .i64 j ∧ fl = .bool b ∧ (b || (rows.drop j).any (fullB X (k : Int))) = true ∧ Below x3.heap.size x3 w2) (fun _ i _ => rows.length - (intOf i).toNat)
      case atStart => exact ⟨0, F, Nat.zero_le _, rfl, rfl, HS0.out, HB5.out⟩
      case round =>
        obtain ⟨j, b, hj, rfl, rfl, hz, hb⟩ := hrel
        have HZ := Lib.hid hz
        have HB := Lib.hid hb
        clear hz hb HS0 HB5
        by_cases hjl : j < rows.length
        · obtain ⟨h, oh, hho, orr, cp, hw1, hw2, hms, c0, c1⟩ := (HRW.out.later (below_step HW.out HB.out)) j hjl
          subst hho
          have HD := Lib.hid (dropW hjl)
          have hm64 := HFT.out.vl.ms_len (getW_mem hjl)
          have HBD := Lib.hid (fit_bd HFT.out (getW_mem hjl))
          obtain ⟨r, hrr⟩ : ∃ r, getW rows j = r := ⟨_, rfl⟩
          rw [hrr] at c0 c1 HD hw1 hw2 hms hm64 HBD
          have HMS := Lib.hid hms
          clear hrr hms
          have HE := Lib.hid (show (b || (fullB X (k : Int) r || (rows.drop (j + 1)).any (fullB X (k : Int)))) = true by rw [← HZ.out, HD.out]; rfl)
          have z1 : (0 : Int) ≤ (j : Int) := by omega
          have z2 : (j : Int) < (rows.length : Int) := by omega
          have HBX := Lib.hid (box2 wr 34 (.int .i64 r.c) (.slice orr r.ms.length cp))
          go_wp2_with fail
          clear c0 c1
          obtain ⟨W, hW⟩ : ∃ W : World, W = wr.alloc (.cells #[.int .i64 r.c, .slice orr r.ms.length cp] 34) := ⟨_, rfl⟩
          rw [← hW] at HBX ⊢
          clear hW
          have HBW := Lib.hid (below_step HB.out HBX.out.1)
          replace HMS := Lib.hid (HMS.out.later HBX.out.1)
          obtain ⟨Bk, hBk⟩ : ∃ Bk, wr.heap.size = Bk := ⟨_, rfl⟩
          have HC := Lib.hid HBX.out.2
          rw [hBk] at HC ⊢
          clear hBk HBX
          cases b with
          | true =>
            have HNX := Lib.hid (show (true || (rows.drop (j + 1)).any (fullB X (k : Int))) = true from rfl)
            refine wp_region_B 14 (fun w'' => Below W.heap.size W w'') mixed (by kernel_rfl) (below_closed W) (Below.refl _ _).drew ?_
            simp only [List.take_succ_cons, List.take_zero, List.drop_succ_cons, List.drop_zero]
            intro KR hR
            have HR := Lib.hid hR
            clear hR
            apply wpB_val rfl
            · (intro w' hw'; go_simp; with_reducible rfl)
            simp only [Act.put, List.setIfInBounds_toArray, List.set_cons_zero, List.set_cons_succ]
            apply wpB_val rfl
            · (intro w' hw'; go_simp; with_reducible rfl)
            simp only [Act.put, List.setIfInBounds_toArray, List.set_cons_zero, List.set_cons_succ]
            ((with_reducible refine wpB_skip ?_ ?_); exact rfl; simp only [Act.put, List.setIfInBounds_toArray, List.set_cons_zero, List.set_cons_succ])
            ((with_reducible refine wpB_skip ?_ ?_); exact rfl; simp only [Act.put, List.setIfInBounds_toArray, List.set_cons_zero, List.set_cons_succ])
            ((with_reducible refine wpB_skip ?_ ?_); exact rfl; simp only [Act.put, List.setIfInBounds_toArray, List.set_cons_zero, List.set_cons_succ])
            ((with_reducible refine wpB_skip ?_ ?_); exact rfl; simp only [Act.put, List.setIfInBounds_toArray, List.set_cons_zero, List.set_cons_succ])
            ((with_reducible refine wpB_skip ?_ ?_); exact rfl; simp only [Act.put, List.setIfInBounds_toArray, List.set_cons_zero, List.set_cons_succ])
            ((with_reducible refine wpB_skip ?_ ?_); exact rfl; simp only [Act.put, List.setIfInBounds_toArray, List.set_cons_zero, List.set_cons_succ])
            ((with_reducible refine wpB_skip ?_ ?_); exact rfl; simp only [Act.put, List.setIfInBounds_toArray, List.set_cons_zero, List.set_cons_succ])
            ((with_reducible refine wpB_skip ?_ ?_); exact rfl; simp only [Act.put, List.setIfInBounds_toArray, List.set_cons_zero, List.set_cons_succ])
            ((with_reducible refine wpB_skip ?_ ?_); exact rfl; simp only [Act.put, List.setIfInBounds_toArray, List.set_cons_zero, List.set_cons_succ])
            ((with_reducible refine wpB_skip ?_ ?_); exact rfl; simp only [Act.put, List.setIfInBounds_toArray, List.set_cons_zero, List.set_cons_succ])
            ((with_reducible refine wpB_skip ?_ ?_); exact rfl; simp only [Act.put, List.setIfInBounds_toArray, List.set_cons_zero, List.set_cons_succ])
            apply wpB_val rfl
            · (intro w' hw'; go_simp; with_reducible rfl)
            simp only [Act.put, List.setIfInBounds_toArray, List.set_cons_zero, List.set_cons_succ]
            refine wpB_nil (HR.out _ (fun w2 hw2 => ?_))
            clear HR
            have HB7 := Lib.hid (below_step HBW.out hw2)
            clear hw2
            go_wp2
            go_roundw
            case rel => exact ⟨j + 1, true, by omega, by go_num, rfl, HNX.out, HB7.out⟩
            case measure => simp [intOf]; omega
          | false =>
            have HIC := Lib.hid (fun (w' : World) (hb' : Below W.heap.size W w') => In_any r orr cp (k : Int) w' (HMS.out.later hb') hw1)
            have HSC := Lib.hid (fun (w' : World) (hb' : Below W.heap.size W w') => Sum_any r orr (some ⟨gx, 0, none⟩) cp most.length X w' (HMS.out.later hb') (HX.out.later (below_step HBW.out hb')) (by omega) HBD.out.1 HBD.out.2)
            rw [HLX.out] at HSC
            have HE2 := Lib.hid (show ((r.ms.contains (k : Int) && decide (sumR r X = r.c)) || (rows.drop (j + 1)).any (fullB X (k : Int))) = true from HE.out)
            obtain ⟨c, hc⟩ : ∃ c, r.ms.contains (k : Int) = c := ⟨_, rfl⟩
            obtain ⟨t, ht⟩ : ∃ t, sumR r X = t := ⟨_, rfl⟩
            rw [hc] at HIC HE2
            rw [ht] at HSC HE2
            clear hc ht
            cases c with
            | false =>
              have HNX := Lib.hid (show (false || (rows.drop (j + 1)).any (fullB X (k : Int))) = true from HE2.out)
              refine wp_region_B 14 (fun w'' => Below W.heap.size W w'') mixed (by kernel_rfl) (below_closed W) (Below.refl _ _).drew ?_
              simp only [List.take_succ_cons, List.take_zero, List.drop_succ_cons, List.drop_zero]
              intro KR hR
              have HR := Lib.hid hR
              clear hR
              have HCC := Lib.hid (show ∀ w'', Below W.heap.size W w'' → w''.cell? ⟨Bk, 0, none⟩ = some (.int .i64 r.c) ∧ w''.cell? ⟨Bk, 1, none⟩ = some (.slice orr r.ms.length cp) from fun w'' hw => ⟨cell_kept hw HC.out.1, cell_kept hw HC.out.2⟩)
              apply wpB_val rfl
              · (intro w' hw'; go_simp; with_reducible rfl)
              simp only [Act.put, List.setIfInBounds_toArray, List.set_cons_zero, List.set_cons_succ]
              apply wpB_val rfl
              · (intro w' hw'; go_simp; with_reducible rfl)
              simp only [Act.put, List.setIfInBounds_toArray, List.set_cons_zero, List.set_cons_succ]
              apply wpB_val rfl
              · (intro w' hw'; obtain ⟨c0, c1⟩ := HCC.out w' hw'; go_simp; with_reducible rfl)
              simp only [Act.put, List.setIfInBounds_toArray, List.set_cons_zero, List.set_cons_succ]
              apply wpB_val rfl
              · (intro w' hw'; go_simp; with_reducible rfl)
              simp only [Act.put, List.setIfInBounds_toArray, List.set_cons_zero, List.set_cons_succ]
              apply wpB_call 16 #[rwV r orr cp, .int .i64 (k : Int)] rfl (v := .bool false)
              · (intro w'; go_simp)
              · exact fun w' hw' => HIC.out w' hw'
              simp only [Act.put, List.setIfInBounds_toArray, List.set_cons_zero, List.set_cons_succ]
              apply wpB_val rfl
              · (intro w' hw'; go_simp; with_reducible rfl)
              simp only [Act.put, List.setIfInBounds_toArray, List.set_cons_zero, List.set_cons_succ]
              ((with_reducible refine wpB_skip ?_ ?_); exact rfl; simp only [Act.put, List.setIfInBounds_toArray, List.set_cons_zero, List.set_cons_succ])
              ((with_reducible refine wpB_skip ?_ ?_); exact rfl; simp only [Act.put, List.setIfInBounds_toArray, List.set_cons_zero, List.set_cons_succ])
              ((with_reducible refine wpB_skip ?_ ?_); exact rfl; simp only [Act.put, List.setIfInBounds_toArray, List.set_cons_zero, List.set_cons_succ])
              ((with_reducible refine wpB_skip ?_ ?_); exact rfl; simp only [Act.put, List.setIfInBounds_toArray, List.set_cons_zero, List.set_cons_succ])
              ((with_reducible refine wpB_skip ?_ ?_); exact rfl; simp only [Act.put, List.setIfInBounds_toArray, List.set_cons_zero, List.set_cons_succ])
              ((with_reducible refine wpB_skip ?_ ?_); exact rfl; simp only [Act.put, List.setIfInBounds_toArray, List.set_cons_zero, List.set_cons_succ])
              apply wpB_val rfl
              · (intro w' hw'; go_simp; with_reducible rfl)
              simp only [Act.put, List.setIfInBounds_toArray, List.set_cons_zero, List.set_cons_succ]
              apply wpB_val rfl
              · (intro w' hw'; go_simp; with_reducible rfl)
              simp only [Act.put, List.setIfInBounds_toArray, List.set_cons_zero, List.set_cons_succ]
              refine wpB_nil (HR.out _ (fun w2 hw2 => ?_))
              clear HR HCC
              have HB7 := Lib.hid (below_step HBW.out hw2)
              clear hw2 HIC HSC
              go_wp2
              go_roundw
              case rel => exact ⟨j + 1, false, by omega, by go_num, rfl, HNX.out, HB7.out⟩
              case measure => simp [intOf]; omega
            | true =>
              obtain ⟨f, hf⟩ : ∃ f, (t == r.c) = f := ⟨_, rfl⟩
              have HNX := Lib.hid (show (f || (rows.drop (j + 1)).any (fullB X (k : Int))) = true from by have := HE2.out; rw [← hf]; exact this)
              have hfd : (t == r.c) = f := hf
              clear hf
              refine wp_region_B 14 (fun w'' => Below W.heap.size W w'') mixed (by kernel_rfl) (below_closed W) (Below.refl _ _).drew ?_
              simp only [List.take_succ_cons, List.take_zero, List.drop_succ_cons, List.drop_zero]
              intro KR hR
              have HR := Lib.hid hR
              clear hR
              have HCC := Lib.hid (show ∀ w'', Below W.heap.size W w'' → w''.cell? ⟨Bk, 0, none⟩ = some (.int .i64 r.c) ∧ w''.cell? ⟨Bk, 1, none⟩ = some (.slice orr r.ms.length cp) from fun w'' hw => ⟨cell_kept hw HC.out.1, cell_kept hw HC.out.2⟩)
              apply wpB_val rfl
              · (intro w' hw'; go_simp; with_reducible rfl)
              simp only [Act.put, List.setIfInBounds_toArray, List.set_cons_zero, List.set_cons_succ]
              apply wpB_val rfl
              · (intro w' hw'; go_simp; with_reducible rfl)
              simp only [Act.put, List.setIfInBounds_toArray, List.set_cons_zero, List.set_cons_succ]
              apply wpB_val rfl
              · (intro w' hw'; obtain ⟨c0, c1⟩ := HCC.out w' hw'; go_simp; with_reducible rfl)
              simp only [Act.put, List.setIfInBounds_toArray, List.set_cons_zero, List.set_cons_succ]
              apply wpB_val rfl
              · (intro w' hw'; go_simp; with_reducible rfl)
              simp only [Act.put, List.setIfInBounds_toArray, List.set_cons_zero, List.set_cons_succ]
              apply wpB_call 16 #[rwV r orr cp, .int .i64 (k : Int)] rfl (v := .bool true)
              · (intro w'; go_simp)
              · exact fun w' hw' => HIC.out w' hw'
              simp only [Act.put, List.setIfInBounds_toArray, List.set_cons_zero, List.set_cons_succ]
              apply wpB_val rfl
              · (intro w' hw'; go_simp; with_reducible rfl)
              simp only [Act.put, List.setIfInBounds_toArray, List.set_cons_zero, List.set_cons_succ]
              apply wpB_val rfl
              · (intro w' hw'; obtain ⟨c0, c1⟩ := HCC.out w' hw'; go_simp; with_reducible rfl)
              simp only [Act.put, List.setIfInBounds_toArray, List.set_cons_zero, List.set_cons_succ]
              apply wpB_val rfl
              · (intro w' hw'; go_simp; with_reducible rfl)
              simp only [Act.put, List.setIfInBounds_toArray, List.set_cons_zero, List.set_cons_succ]
              apply wpB_call 17 #[rwV r orr cp, .slice (some ⟨gx, 0, none⟩) most.length most.length] rfl (v := .int .i64 t)
              · (intro w'; go_simp)
              · exact fun w' hw' => HSC.out w' hw'
              simp only [Act.put, List.setIfInBounds_toArray, List.set_cons_zero, List.set_cons_succ]
              apply wpB_val rfl
              · (intro w' hw'; go_simp; with_reducible rfl)
              simp only [Act.put, List.setIfInBounds_toArray, List.set_cons_zero, List.set_cons_succ]
              apply wpB_val rfl
              · (intro w' hw'; obtain ⟨c0, c1⟩ := HCC.out w' hw'; go_simp; with_reducible rfl)
              simp only [Act.put, List.setIfInBounds_toArray, List.set_cons_zero, List.set_cons_succ]
              apply wpB_val rfl
              · (intro w' hw'; go_simp; with_reducible rfl)
              simp only [Act.put, List.setIfInBounds_toArray, List.set_cons_zero, List.set_cons_succ]
              apply wpB_val rfl
              · (intro w' hw'; go_simp; with_reducible rfl)
              simp only [Act.put, List.setIfInBounds_toArray, List.set_cons_zero, List.set_cons_succ]
              apply wpB_val rfl
              · (intro w' hw'; go_simp; with_reducible rfl)
              simp only [Act.put, List.setIfInBounds_toArray, List.set_cons_zero, List.set_cons_succ]
              refine wpB_nil (HR.out _ (fun w2 hw2 => ?_))
              clear HR HCC
              have HB7 := Lib.hid (below_step HBW.out hw2)
              clear hw2 HIC HSC hfd
              go_wp2
              go_roundw
              case rel => exact ⟨j + 1, f, by omega, by go_num, rfl, HNX.out, HB7.out⟩
              case measure => simp [intOf]; omega
        · obtain rfl : j = rows.length := by omega
          obtain rfl : b = true := by have := HZ.out; rw [List.drop_length] at this; simpa using this
          go_wp2
          go_roundw
          case rel => exact ⟨k + 1, by omega, by go_num, HB.out⟩
          case measure => simp [intOf]; omega
    · obtain rfl : k = most.length := by omega
      go_wp2
      go_ret
      exact ⟨rfl, below_step HW.out HB.out⟩
end Go.Proofs.Ytjaeekikddbbeaa
