/- Chapter 22: FairEquals. -/
import Derived.Test.YtjaeekikddbbeaaWl22
namespace Go.Proofs.Ytjaeekikddbbeaa
open Go.RowKit
attribute [local go_sem] Oper.semAt_some

theorem u8_mod {a n : Nat} (ha : a < 256) : (IntKind.i64.wrap (a : Int)).tmod (n : Int) = ((a % n : Nat) : Int) := by
  rw [IntWalk.i64_in (a : Int) (by omega), ← Int.ofNat_tmod]
def sameB (I K : Int) (r : Rw) : Bool := r.ms.contains I == r.ms.contains K
theorem same_pair {rows : List Rw} {most order : List Int} (h : VL rows most) (ho : isOrd order (most.length : Nat) = true) {I K : Nat} (hi : I < most.length) (hk : K < most.length) {j : Nat} (hj : j < order.length) (hji : order.getD j 0 = (I : Int)) (hb : ∀ m ∈ order.take j, m ≠ (I : Int) ∧ m ≠ (K : Int)) (hs : ((most.getD I 0 == most.getD K 0) && rows.all (sameB (I : Int) (K : Int))) = true) :
    (shareF rows most order).getD I 0 = (shareF rows most order).getD K 0 ∨ (shareF rows most order).getD I 0 = (shareF rows most order).getD K 0 + 1 := by
  rw [Bool.and_eq_true, List.all_eq_true] at hs
  have hos : order = order.take j ++ (I : Int) :: order.drop (j + 1) := by
    rw [← hji, ← dropI hj, List.take_append_drop]
  have := share_pair h ho (i := (I : Int)) (k := (K : Int)) ⟨by omega, by omega⟩ ⟨by omega, by omega⟩ hos (fun hm => (hb _ hm).2 rfl) (by simpa [atI] using hs.1) (fun r hr => by
    have := hs.2 r hr
    simp [sameB] at this
    exact this)
  simpa [atI] using this

set_option maxRecDepth 100000 in
set_option maxHeartbeats 16000000 in
theorem equals_walk (oa : Option Addr) (ca : Nat) (rows : List Rw) (om : Option Addr) (cm : Nat) (most : List Int) (oo : Option Addr) (co : Nat) (order : List Int) (a b : Nat) (w : World) (hr : Rws w oa rows) (hl : rows.length ≤ 9000000000000000000) (h_most : Ints w om most) (h_order : Ints w oo order) (ha : a < 256) (hbb : b < 256) : Calls Try.prog 6 #[.slice oa rows.length ca, .slice om most.length cm, .slice oo order.length co, .int .u8 (a : Nat), .int .u8 (b : Nat)] w (Ret (.bool true) w) := by
  have HRW := Lib.hid hr
  clear hr
  have H_most := Lib.hid h_most
  clear h_most
  have H_order := Lib.hid h_order
  clear h_order
  go_enter Try.func6, Try.ntmps6
  go_wp2_with fail
  refine (head_any _).mono ?_
  rintro e x1 ⟨rfl, hb⟩
  have HW := Lib.hid hb
  clear hb
  have HALL := Lib.hid (below_alloc (Below.refl x1.heap.size x1) (.cells #[.slice om most.length cm, .slice oo order.length co] 23))
  have HLS := Lib.hid (show Lens (x1.alloc (.cells #[.slice om most.length cm, .slice oo order.length co] 23)) (some ⟨x1.heap.size, 0, none⟩) [most.length, order.length] from lit_lens x1 23 [(om, most.length, cm), (oo, order.length, co)])
  replace HW := Lib.hid (below_step HW.out HALL.out)
  clear HALL
  go_wp2_with fail
  refine (small_any oa (some ⟨x1.heap.size, 0, none⟩) ca 2 rows [most.length, order.length] _ (HRW.out.later HW.out) hl HLS.out (by simp)).mono ?_
  rintro e x2 ⟨rfl, hb⟩
  replace HW := Lib.hid (below_step HW.out hb)
  clear hb HLS
  obtain ⟨F, hF⟩ : ∃ F, smallB rows [most.length, order.length] = F := ⟨_, rfl⟩
  have HF := Lib.hid hF
  rw [hF]
  clear hF
  cases F with
  | false =>
    go_wp2
    go_ret
    exact ⟨rfl, HW.out⟩
  | true =>
  have HSM := Lib.hid (show (∀ n ∈ [most.length, order.length], n ≤ 100) ∧ fewR rows = true by have := HF.out; unfold smallB at this; rw [Bool.and_eq_true, lensOk_iff] at this; exact this)
  have hl_most : most.length ≤ 100 := HSM.out.1 _ (by simp)
  have hl_order : order.length ≤ 100 := HSM.out.1 _ (by simp)
  clear HF
  by_cases hm0 : most.length = 0
  · have hd : ((most.length : Int) == 0) = true := by rw [beq_iff_eq]; omega
    clear hm0
    go_wp2
    go_ret
    exact ⟨rfl, HW.out⟩
  have hd0 : ((most.length : Int) == 0) = false := by rw [beq_eq_false_iff_ne]; omega
  go_wp2_with fail
  refine (Share_any oa om oo ca cm co rows most order _ (HRW.out.later HW.out) (H_most.out.later HW.out) (H_order.out.later HW.out) hl (by omega) (by omega)).mono ?_
  rintro e x3 ⟨hb, ⟨hv, gx, hgx, rfl, hx⟩ | ⟨hv, rfl⟩⟩
  rotate_left
  · replace HW := Lib.hid (below_step HW.out hb)
    clear hb hv
    go_wp2
    go_ret
    exact ⟨rfl, HW.out⟩
  replace HW := Lib.hid (below_step HW.out hb)
  have HX := Lib.hid hx
  have HV := Lib.hid (show VL rows most ∧ isOrd order (most.length : Nat) = true by rw [Bool.and_eq_true] at hv; exact ⟨validLim_iff.1 hv.1, hv.2⟩)
  clear hb hx hv hgx
  clear hd0
  have HFT := Lib.hid (share_fit HV.out.1 HV.out.2)
  have HSP := Lib.hid (fun (I K : Nat) hi hk (j : Nat) hj hji hb hs => same_pair HV.out.1 HV.out.2 (I := I) (K := K) (j := j) hi hk hj hji hb hs)
  have HLX := Lib.hid HFT.out.len
  have HORD := Lib.hid (ord_mem HV.out.2)
  have HOL := Lib.hid (isOrd_iff.1 HV.out.2).2.1
  have hr64 := HV.out.1.r64
  have HLIM := Lib.hid (fun (k : Nat) (hk : k < most.length) => show 0 ≤ (shareF rows most order).getD k 0 ∧ (shareF rows most order).getD k 0 ≤ 1000 from by
    have h1 := HFT.out.lim (k : Int) (by omega) (by omega)
    have h2 := HV.out.1.lim _ (atI_mem (x := most) (m := (k : Int)) ⟨by omega, by omega⟩)
    simp [atI] at h1 h2
    simp
    omega)
  obtain ⟨X, hX⟩ : ∃ X, shareF rows most order = X := ⟨_, rfl⟩
  rw [hX] at HX HFT HLX HSP HLIM
  clear hX
  have EA := Lib.hid (u8_mod (n := most.length) ha)
  have EB := Lib.hid (u8_mod (n := most.length) hbb)
  obtain ⟨i, hi⟩ : ∃ i, a % most.length = i := ⟨_, rfl⟩
  obtain ⟨k, hk⟩ : ∃ k, b % most.length = k := ⟨_, rfl⟩
  have hin : i < most.length := by rw [← hi]; exact Nat.mod_lt _ (by omega)
  have hkn : k < most.length := by rw [← hk]; exact Nat.mod_lt _ (by omega)
  rw [hi] at EA
  rw [hk] at EB
  clear hi hk
  have q1 : (0 : Int) < (most.length : Int) := by omega
  have q2 : ((most.length : Int) == 0) = false := by rw [beq_eq_false_iff_ne]; omega
  go_wp2_with fail
  refine wp_region_B 12 (fun w'' => Below x3.heap.size x3 w'') mixed (by kernel_rfl) (below_closed x3) (Below.refl _ _).drew ?_
  simp only [List.take_succ_cons, List.take_zero, List.drop_succ_cons, List.drop_zero]
  intro KR hR
  have HR := Lib.hid hR
  clear hR
  apply wpB_val rfl
  · (intro w' hw'; go_simp; with_reducible rfl)
  simp only [Act.put, List.setIfInBounds_toArray, List.set_cons_zero, List.set_cons_succ]
  apply wpB_val rfl
  · (intro w' hw'; go_simp; with_reducible rfl)
  simp only [Act.put, List.setIfInBounds_toArray, List.set_cons_zero, List.set_cons_succ]
  apply wpB_val rfl
  · (intro w' hw'; go_simp; with_reducible rfl)
  simp only [Act.put, List.setIfInBounds_toArray, List.set_cons_zero, List.set_cons_succ]
  apply wpB_val rfl
  · (intro w' hw'; go_simp; with_reducible rfl)
  simp only [Act.put, List.setIfInBounds_toArray, List.set_cons_zero, List.set_cons_succ]
  apply wpB_val rfl
  · (intro w' hw'; go_simp; with_reducible rfl)
  simp only [Act.put, List.setIfInBounds_toArray, List.set_cons_zero, List.set_cons_succ]
  apply wpB_val rfl
  · (intro w' hw'; go_simp; with_reducible rfl)
  simp only [Act.put, List.setIfInBounds_toArray, List.set_cons_zero, List.set_cons_succ]
  apply wpB_val rfl
  · (intro w' hw'; go_simp; with_reducible rfl)
  simp only [Act.put, List.setIfInBounds_toArray, List.set_cons_zero, List.set_cons_succ]
  apply wpB_val rfl
  · (intro w' hw'; go_simp; with_reducible rfl)
  simp only [Act.put, List.setIfInBounds_toArray, List.set_cons_zero, List.set_cons_succ]
  apply wpB_val rfl
  · (intro w' hw'; go_simp; with_reducible rfl)
  simp only [Act.put, List.setIfInBounds_toArray, List.set_cons_zero, List.set_cons_succ]
  apply wpB_val rfl
  · (intro w' hw'; go_simp; with_reducible rfl)
  simp only [Act.put, List.setIfInBounds_toArray, List.set_cons_zero, List.set_cons_succ]
  apply wpB_val rfl
  · (intro w' hw'; go_simp; with_reducible rfl)
  simp only [Act.put, List.setIfInBounds_toArray, List.set_cons_zero, List.set_cons_succ]
  apply wpB_val rfl
  · (intro w' hw'; go_simp; with_reducible rfl)
  simp only [Act.put, List.setIfInBounds_toArray, List.set_cons_zero, List.set_cons_succ]
  refine wpB_nil (HR.out _ (fun w2 hw2 => ?_))
  clear HR
  replace HW := Lib.hid (below_step HW.out hw2)
  replace HX := Lib.hid (HX.out.later hw2)
  clear hw2 q1 q2
  rw [EA.out, EB.out]
  clear EA EB
  go_wp2
  go_loop [16, 63] (fun f x => ∃ j : Nat, j ≤ order.length ∧ x = .int .i64 j ∧ f = .int .i64 (i : Nat) ∧ ∀ m ∈ order.take j, m ≠ (i : Int) ∧ m ≠ (k : Int)) (fun _ x => order.length - (intOf x).toNat)
  case atStart => exact ⟨0, Nat.zero_le _, rfl, rfl, fun m hm => by simp at hm⟩
  case round =>
    obtain ⟨j, hj, rfl, rfl, hz⟩ := hrel
    have HZ := Lib.hid hz
    clear hz
    by_cases hjl : j < order.length
    rotate_left
    · exfalso
      obtain rfl : j = order.length := by omega
      have := HORD.out (i : Int) (by omega) (by omega)
      rw [← List.take_length (l := order)] at this
      exact (HZ.out _ this).1 rfl
    obtain ⟨g, off, hgo, c0⟩ := (H_order.out.later HW.out) j hjl
    subst hgo
    have HTK := Lib.hid (takeI hjl)
    have hmb := HOL.out _ (getD_mem hjl)
    have HSJ := Lib.hid (fun (I K : Nat) hi hk hji hb hs => HSP.out I K hi hk j hjl hji hb hs)
    obtain ⟨m, hm⟩ : ∃ m, order.getD j 0 = m := ⟨_, rfl⟩
    have HM := Lib.hid hm
    rw [hm] at c0 HTK hmb HSJ
    clear hm
    have y1 : (0 : Int) ≤ (j : Int) := by omega
    have y2 : (j : Int) < (order.length : Int) := by omega
    by_cases hne : m ≠ (i : Int) ∧ m ≠ (k : Int)
    · have e1 : (m == (i : Int)) = false := by simpa using hne.1
      have e2 : (m == (k : Int)) = false := by simpa using hne.2
      have HNX := Lib.hid (show ∀ q ∈ order.take (j + 1), q ≠ (i : Int) ∧ q ≠ (k : Int) from fun q hq => by
        rw [HTK.out, List.mem_append] at hq
        rcases hq with hq | hq
        · exact HZ.out q hq
        · simp at hq; subst hq; exact hne)
      clear hne
      go_wp2
      go_round
      case rel => exact ⟨j + 1, by omega, by go_num, rfl, HNX.out⟩
      case measure => simp [intOf]; omega
    -- found: m is i or k
    have HREST := Lib.hid (show ∀ I K : Nat, m = (I : Int) → I < most.length → K < most.length → (∀ q ∈ order.take j, q ≠ (I : Int) ∧ q ≠ (K : Int)) → ((most.getD I 0 == most.getD K 0) && rows.all (sameB (I : Int) (K : Int))) = true → X.getD I 0 = X.getD K 0 ∨ X.getD I 0 = X.getD K 0 + 1 from fun I K h1 h2 h3 h4 h5 => HSJ.out I K h2 h3 h1 h4 h5)
    have hmc : m = (i : Int) ∨ m = (k : Int) := Classical.byContradiction (fun h => hne ⟨fun e => h (.inl e), fun e => h (.inr e)⟩)
    clear hne HSJ HTK HSP
    by_cases hmk : m = (k : Int)
    · -- the first one is k
      subst hmk
      have HR1 := Lib.hid (HREST.out k i rfl hkn hin (fun q hq => ⟨(HZ.out q hq).2, (HZ.out q hq).1⟩))
      clear HREST
      obtain ⟨e1, he1⟩ : ∃ e1, ((k : Int) == (i : Int)) = e1 := ⟨_, rfl⟩
      have he1n : (k == i) = e1 := by
        rw [← he1]
        by_cases h : k = i
        · subst h
          simp
        · have h1 : (k == i) = false := by simpa using h
          have h2 : ((k : Int) == (i : Int)) = false := by rw [beq_eq_false_iff_ne]; omega
          rw [h1, h2]
      cases e1 with
      | true =>
        have hki : k = i := by simpa using he1n
        subst hki
        clear he1 he1n hmc
        go_wp2_with fail
        obtain ⟨gi, oi, hgi, d0⟩ := (H_most.out.later HW.out) k (by assumption)
        obtain ⟨gk, ok, hgk, e0⟩ := (H_most.out.later HW.out) k (by assumption)
        obtain ⟨rfl, rfl⟩ := cells_eq hgi hgk
        subst hgi
        clear hgk c0
        obtain ⟨SAME, hSAME⟩ : ∃ S, ((most.getD k 0 == most.getD k 0) && rows.all (sameB (k : Int) (k : Int))) = S := ⟨_, rfl⟩
        rw [hSAME] at HR1
        have HSA := Lib.hid hSAME
        clear hSAME
        obtain ⟨mi, hmi⟩ : ∃ q, most.getD k 0 = q := ⟨_, rfl⟩
        rw [hmi] at d0 e0 HSA
        clear hmi
        obtain ⟨F, hF⟩ : ∃ F, (mi == mi) = F := ⟨_, rfl⟩
        have hFd : (mi == mi) = F := hF
        have HI := Lib.hid (show (F && (rows.drop 0).all (sameB (k : Int) (k : Int))) = SAME by rw [List.drop_zero, ← hF]; exact HSA.out)
        obtain rfl : true = F := by rw [← hF]; simp
        clear hF HSA
        have z1 : (0 : Int) ≤ (k : Int) := by omega
        have z2 : (k : Int) < (most.length : Int) := by omega
        have z3 : (0 : Int) ≤ (k : Int) := by omega
        have z4 : (k : Int) < (most.length : Int) := by omega
        go_quiet (fail)
        clear hFd d0 e0
        generalize hW5 : World.drewN w2 _ = W5
        have HB5 := Lib.hid (show Below w2.heap.size w2 W5 by rw [← hW5]; exact below_drewN (Below.refl _ _) _)
        clear hW5
        go_wp2
        go_loopw [19, 93] (fun fl x wr => ∃ (j : Nat) (b : Bool), j ≤ rows.length ∧ x = .int .i64 j ∧ fl = .bool b ∧ (b && (rows.drop j).all (sameB (k : Int) (k : Int))) = SAME ∧ Below w2.heap.size w2 wr) (fun _ x _ => rows.length - (intOf x).toNat)
        case atStart => exact ⟨0, true, Nat.zero_le _, rfl, rfl, HI.out, HB5.out⟩
        case round =>
          obtain ⟨j2, b, hj2, rfl, rfl, hz, hb⟩ := hrel
          have HZ2 := Lib.hid hz
          have HB := Lib.hid hb
          clear hz hb HI HB5
          by_cases hjl2 : j2 < rows.length
          · obtain ⟨h, oh, hho, orr, cp, hw1, hw2, hms, c0, c1⟩ := (HRW.out.later (below_step HW.out HB.out)) j2 hjl2
            subst hho
            have HD := Lib.hid (dropW hjl2)
            obtain ⟨r, hrr⟩ : ∃ r, getW rows j2 = r := ⟨_, rfl⟩
            rw [hrr] at c0 c1 HD hw1 hw2 hms
            have HMS := Lib.hid hms
            clear hrr hms
            have HE := Lib.hid (show (b && ((r.ms.contains (k : Int) == r.ms.contains (k : Int)) && (rows.drop (j2 + 1)).all (sameB (k : Int) (k : Int)))) = SAME by rw [← HZ2.out, HD.out]; rfl)
            have z5 : (0 : Int) ≤ (j2 : Int) := by omega
            have z6 : (j2 : Int) < (rows.length : Int) := by omega
            have HBX := Lib.hid (box2 wr 34 (.int .i64 r.c) (.slice orr r.ms.length cp))
            go_wp2_with fail
            clear c0 c1
            obtain ⟨W, hW⟩ : ∃ W : World, W = wr.alloc (.cells #[.int .i64 r.c, .slice orr r.ms.length cp] 34) := ⟨_, rfl⟩
            rw [← hW] at HBX ⊢
            clear hW
            have HBW := Lib.hid (below_step HB.out HBX.out.1)
            replace HMS := Lib.hid (HMS.out.later HBX.out.1)
            obtain ⟨Bk, hBk⟩ : ∃ Bk, wr.heap.size = Bk := ⟨_, rfl⟩
            have HC := Lib.hid HBX.out.2
            rw [hBk] at HC ⊢
            clear hBk HBX
            cases b with
            | false =>
              have HNX := Lib.hid (show (false && (rows.drop (j2 + 1)).all (sameB (k : Int) (k : Int))) = SAME from HE.out)
              refine wp_region_B 10 (fun w'' => Below W.heap.size W w'') mixed (by kernel_rfl) (below_closed W) (Below.refl _ _).drew ?_
              simp only [List.take_succ_cons, List.take_zero, List.drop_succ_cons, List.drop_zero]
              intro KR hR
              have HR := Lib.hid hR
              clear hR
              apply wpB_val rfl
              · (intro w' hw'; go_simp; with_reducible rfl)
              simp only [Act.put, List.setIfInBounds_toArray, List.set_cons_zero, List.set_cons_succ]
              apply wpB_val rfl
              · (intro w' hw'; go_simp; with_reducible rfl)
              simp only [Act.put, List.setIfInBounds_toArray, List.set_cons_zero, List.set_cons_succ]
              ((with_reducible refine wpB_skip ?_ ?_); exact rfl; simp only [Act.put, List.setIfInBounds_toArray, List.set_cons_zero, List.set_cons_succ])
              ((with_reducible refine wpB_skip ?_ ?_); exact rfl; simp only [Act.put, List.setIfInBounds_toArray, List.set_cons_zero, List.set_cons_succ])
              ((with_reducible refine wpB_skip ?_ ?_); exact rfl; simp only [Act.put, List.setIfInBounds_toArray, List.set_cons_zero, List.set_cons_succ])
              ((with_reducible refine wpB_skip ?_ ?_); exact rfl; simp only [Act.put, List.setIfInBounds_toArray, List.set_cons_zero, List.set_cons_succ])
              ((with_reducible refine wpB_skip ?_ ?_); exact rfl; simp only [Act.put, List.setIfInBounds_toArray, List.set_cons_zero, List.set_cons_succ])
              ((with_reducible refine wpB_skip ?_ ?_); exact rfl; simp only [Act.put, List.setIfInBounds_toArray, List.set_cons_zero, List.set_cons_succ])
              ((with_reducible refine wpB_skip ?_ ?_); exact rfl; simp only [Act.put, List.setIfInBounds_toArray, List.set_cons_zero, List.set_cons_succ])
              apply wpB_val rfl
              · (intro w' hw'; go_simp; with_reducible rfl)
              simp only [Act.put, List.setIfInBounds_toArray, List.set_cons_zero, List.set_cons_succ]
              refine wpB_nil (HR.out _ (fun w2 hw2 => ?_))
              clear HR
              have HB7 := Lib.hid (below_step HBW.out hw2)
              clear hw2
              go_wp2
              go_roundw
              case rel => exact ⟨j2 + 1, false, by omega, by go_num, rfl, HNX.out, HB7.out⟩
              case measure => simp [intOf]; omega
            | true =>
              have HI1 := Lib.hid (fun (w' : World) (hb' : Below W.heap.size W w') => In_any r orr cp (k : Int) w' (HMS.out.later hb') hw1)
              have HI2 := Lib.hid (fun (w' : World) (hb' : Below W.heap.size W w') => In_any r orr cp (k : Int) w' (HMS.out.later hb') hw1)
              obtain ⟨c1, hc1⟩ : ∃ c, r.ms.contains (k : Int) = c := ⟨_, rfl⟩
              rw [hc1] at HI1 HI2
              obtain ⟨cc, hcc⟩ : ∃ c, (c1 == c1) = c := ⟨_, rfl⟩
              have HNX := Lib.hid (show (cc && (rows.drop (j2 + 1)).all (sameB (k : Int) (k : Int))) = SAME from by rw [← HE.out, hc1, hcc, Bool.true_and])
              clear hc1
              have hcd : (c1 == c1) = cc := hcc
              obtain rfl : true = cc := by rw [← hcc]; simp
              clear hcc
              refine wp_region_B 10 (fun w'' => Below W.heap.size W w'') mixed (by kernel_rfl) (below_closed W) (Below.refl _ _).drew ?_
              simp only [List.take_succ_cons, List.take_zero, List.drop_succ_cons, List.drop_zero]
              intro KR hR
              have HR := Lib.hid hR
              clear hR
              have HCC := Lib.hid (show ∀ w'', Below W.heap.size W w'' → w''.cell? ⟨Bk, 0, none⟩ = some (.int .i64 r.c) ∧ w''.cell? ⟨Bk, 1, none⟩ = some (.slice orr r.ms.length cp) from fun w'' hw => ⟨cell_kept hw HC.out.1, cell_kept hw HC.out.2⟩)
              apply wpB_val rfl
              · (intro w' hw'; go_simp; with_reducible rfl)
              simp only [Act.put, List.setIfInBounds_toArray, List.set_cons_zero, List.set_cons_succ]
              apply wpB_val rfl
              · (intro w' hw'; go_simp; with_reducible rfl)
              simp only [Act.put, List.setIfInBounds_toArray, List.set_cons_zero, List.set_cons_succ]
              apply wpB_val rfl
              · (intro w' hw'; obtain ⟨c0, c1⟩ := HCC.out w' hw'; go_simp; with_reducible rfl)
              simp only [Act.put, List.setIfInBounds_toArray, List.set_cons_zero, List.set_cons_succ]
              apply wpB_val rfl
              · (intro w' hw'; go_simp; with_reducible rfl)
              simp only [Act.put, List.setIfInBounds_toArray, List.set_cons_zero, List.set_cons_succ]
              apply wpB_call 16 #[rwV r orr cp, .int .i64 (k : Int)] rfl (v := .bool c1)
              · (intro w'; go_simp)
              · exact fun w' hw' => HI1.out w' hw'
              simp only [Act.put, List.setIfInBounds_toArray, List.set_cons_zero, List.set_cons_succ]
              apply wpB_val rfl
              · (intro w' hw'; obtain ⟨c0, c1⟩ := HCC.out w' hw'; go_simp; with_reducible rfl)
              simp only [Act.put, List.setIfInBounds_toArray, List.set_cons_zero, List.set_cons_succ]
              apply wpB_val rfl
              · (intro w' hw'; go_simp; with_reducible rfl)
              simp only [Act.put, List.setIfInBounds_toArray, List.set_cons_zero, List.set_cons_succ]
              apply wpB_call 16 #[rwV r orr cp, .int .i64 (k : Int)] rfl (v := .bool c1)
              · (intro w'; go_simp)
              · exact fun w' hw' => HI2.out w' hw'
              simp only [Act.put, List.setIfInBounds_toArray, List.set_cons_zero, List.set_cons_succ]
              apply wpB_val rfl
              · (intro w' hw'; go_simp; with_reducible rfl)
              simp only [Act.put, List.setIfInBounds_toArray, List.set_cons_zero, List.set_cons_succ]
              apply wpB_val rfl
              · (intro w' hw'; go_simp; with_reducible rfl)
              simp only [Act.put, List.setIfInBounds_toArray, List.set_cons_zero, List.set_cons_succ]
              refine wpB_nil (HR.out _ (fun w2 hw2 => ?_))
              clear HR HCC
              have HB7 := Lib.hid (below_step HBW.out hw2)
              clear hw2 HI1 HI2
              (try rw [hcd])
              clear hcd
              go_wp2
              go_roundw
              case rel => exact ⟨j2 + 1, true, by omega, by go_num, rfl, HNX.out, HB7.out⟩
              case measure => simp [intOf]; omega
          · obtain rfl : j2 = rows.length := by omega
            have HBS := Lib.hid (show b = SAME by rw [← HZ2.out, List.drop_length]; simp)
            have HBE := Lib.hid (below_step HW.out HB.out)
            obtain ⟨g1, o1, h1, d0⟩ := (HX.out.later HB.out) k (by rw [HLX.out]; assumption)
            obtain ⟨g2, o2, h2, e0⟩ := (HX.out.later HB.out) k (by rw [HLX.out]; assumption)
            obtain ⟨rfl, rfl⟩ := cells_eq rfl h1
            obtain ⟨rfl, rfl⟩ := cells_eq rfl h2
            rw [Nat.zero_add] at d0 e0
            have hxi := HLIM.out k (by assumption)
            have hxk := HLIM.out k (by assumption)
            obtain ⟨xi, hxie⟩ : ∃ q, X.getD k 0 = q := ⟨_, rfl⟩
            rw [hxie] at d0 e0 HR1 hxi hxk
            clear hxie h1 h2
            cases b with
            | false =>
              go_wp2_with fail
              go_quiet (fail)
              go_wp2
              go_ret
              exact ⟨rfl, below_drewN HBE.out _⟩
            | true =>
              obtain rfl : true = SAME := HBS.out
              go_wp2_with fail
              go_quiet (fail)
              go_wp2
              go_ret
              exact ⟨rfl, below_drewN HBE.out _⟩
      | false =>
        clear hmc
        go_wp2_with fail
        clear he1 he1n
        obtain ⟨gi, oi, hgi, d0⟩ := (H_most.out.later HW.out) k (by assumption)
        obtain ⟨gk, ok, hgk, e0⟩ := (H_most.out.later HW.out) i (by assumption)
        obtain ⟨rfl, rfl⟩ := cells_eq hgi hgk
        subst hgi
        clear hgk c0
        obtain ⟨SAME, hSAME⟩ : ∃ S, ((most.getD k 0 == most.getD i 0) && rows.all (sameB (k : Int) (i : Int))) = S := ⟨_, rfl⟩
        rw [hSAME] at HR1
        have HSA := Lib.hid hSAME
        clear hSAME
        obtain ⟨mi, hmi⟩ : ∃ q, most.getD k 0 = q := ⟨_, rfl⟩
        obtain ⟨mk, hmk2⟩ : ∃ q, most.getD i 0 = q := ⟨_, rfl⟩
        rw [hmi] at d0 HSA
        rw [hmk2] at e0 HSA
        clear hmi hmk2
        obtain ⟨F, hF⟩ : ∃ F, (mi == mk) = F := ⟨_, rfl⟩
        have hFd : (mi == mk) = F := hF
        have HI := Lib.hid (show (F && (rows.drop 0).all (sameB (k : Int) (i : Int))) = SAME by rw [List.drop_zero, ← hF]; exact HSA.out)
        clear hF HSA
        have z1 : (0 : Int) ≤ (k : Int) := by omega
        have z2 : (k : Int) < (most.length : Int) := by omega
        have z3 : (0 : Int) ≤ (i : Int) := by omega
        have z4 : (i : Int) < (most.length : Int) := by omega
        go_quiet (fail)
        clear hFd d0 e0
        generalize hW5 : World.drewN w2 _ = W5
        have HB5 := Lib.hid (show Below w2.heap.size w2 W5 by rw [← hW5]; exact below_drewN (Below.refl _ _) _)
        clear hW5
        go_wp2
        go_loopw [19, 93] (fun fl x wr => ∃ (j : Nat) (b : Bool), j ≤ rows.length ∧ x = .int .i64 j ∧ fl = .bool b ∧ (b && (rows.drop j).all (sameB (k : Int) (i : Int))) = SAME ∧ Below w2.heap.size w2 wr) (fun _ x _ => rows.length - (intOf x).toNat)
        case atStart => exact ⟨0, F, Nat.zero_le _, rfl, rfl, HI.out, HB5.out⟩
        case round =>
          obtain ⟨j2, b, hj2, rfl, rfl, hz, hb⟩ := hrel
          have HZ2 := Lib.hid hz
          have HB := Lib.hid hb
          clear hz hb HI HB5
          by_cases hjl2 : j2 < rows.length
          · obtain ⟨h, oh, hho, orr, cp, hw1, hw2, hms, c0, c1⟩ := (HRW.out.later (below_step HW.out HB.out)) j2 hjl2
            subst hho
            have HD := Lib.hid (dropW hjl2)
            obtain ⟨r, hrr⟩ : ∃ r, getW rows j2 = r := ⟨_, rfl⟩
            rw [hrr] at c0 c1 HD hw1 hw2 hms
            have HMS := Lib.hid hms
            clear hrr hms
            have HE := Lib.hid (show (b && ((r.ms.contains (k : Int) == r.ms.contains (i : Int)) && (rows.drop (j2 + 1)).all (sameB (k : Int) (i : Int)))) = SAME by rw [← HZ2.out, HD.out]; rfl)
            have z5 : (0 : Int) ≤ (j2 : Int) := by omega
            have z6 : (j2 : Int) < (rows.length : Int) := by omega
            have HBX := Lib.hid (box2 wr 34 (.int .i64 r.c) (.slice orr r.ms.length cp))
            go_wp2_with fail
            clear c0 c1
            obtain ⟨W, hW⟩ : ∃ W : World, W = wr.alloc (.cells #[.int .i64 r.c, .slice orr r.ms.length cp] 34) := ⟨_, rfl⟩
            rw [← hW] at HBX ⊢
            clear hW
            have HBW := Lib.hid (below_step HB.out HBX.out.1)
            replace HMS := Lib.hid (HMS.out.later HBX.out.1)
            obtain ⟨Bk, hBk⟩ : ∃ Bk, wr.heap.size = Bk := ⟨_, rfl⟩
            have HC := Lib.hid HBX.out.2
            rw [hBk] at HC ⊢
            clear hBk HBX
            cases b with
            | false =>
              have HNX := Lib.hid (show (false && (rows.drop (j2 + 1)).all (sameB (k : Int) (i : Int))) = SAME from HE.out)
              refine wp_region_B 10 (fun w'' => Below W.heap.size W w'') mixed (by kernel_rfl) (below_closed W) (Below.refl _ _).drew ?_
              simp only [List.take_succ_cons, List.take_zero, List.drop_succ_cons, List.drop_zero]
              intro KR hR
              have HR := Lib.hid hR
              clear hR
              apply wpB_val rfl
              · (intro w' hw'; go_simp; with_reducible rfl)
              simp only [Act.put, List.setIfInBounds_toArray, List.set_cons_zero, List.set_cons_succ]
              apply wpB_val rfl
              · (intro w' hw'; go_simp; with_reducible rfl)
              simp only [Act.put, List.setIfInBounds_toArray, List.set_cons_zero, List.set_cons_succ]
              ((with_reducible refine wpB_skip ?_ ?_); exact rfl; simp only [Act.put, List.setIfInBounds_toArray, List.set_cons_zero, List.set_cons_succ])
              ((with_reducible refine wpB_skip ?_ ?_); exact rfl; simp only [Act.put, List.setIfInBounds_toArray, List.set_cons_zero, List.set_cons_succ])
              ((with_reducible refine wpB_skip ?_ ?_); exact rfl; simp only [Act.put, List.setIfInBounds_toArray, List.set_cons_zero, List.set_cons_succ])
              ((with_reducible refine wpB_skip ?_ ?_); exact rfl; simp only [Act.put, List.setIfInBounds_toArray, List.set_cons_zero, List.set_cons_succ])
              ((with_reducible refine wpB_skip ?_ ?_); exact rfl; simp only [Act.put, List.setIfInBounds_toArray, List.set_cons_zero, List.set_cons_succ])
              ((with_reducible refine wpB_skip ?_ ?_); exact rfl; simp only [Act.put, List.setIfInBounds_toArray, List.set_cons_zero, List.set_cons_succ])
              ((with_reducible refine wpB_skip ?_ ?_); exact rfl; simp only [Act.put, List.setIfInBounds_toArray, List.set_cons_zero, List.set_cons_succ])
              apply wpB_val rfl
              · (intro w' hw'; go_simp; with_reducible rfl)
              simp only [Act.put, List.setIfInBounds_toArray, List.set_cons_zero, List.set_cons_succ]
              refine wpB_nil (HR.out _ (fun w2 hw2 => ?_))
              clear HR
              have HB7 := Lib.hid (below_step HBW.out hw2)
              clear hw2
              go_wp2
              go_roundw
              case rel => exact ⟨j2 + 1, false, by omega, by go_num, rfl, HNX.out, HB7.out⟩
              case measure => simp [intOf]; omega
            | true =>
              have HI1 := Lib.hid (fun (w' : World) (hb' : Below W.heap.size W w') => In_any r orr cp (k : Int) w' (HMS.out.later hb') hw1)
              have HI2 := Lib.hid (fun (w' : World) (hb' : Below W.heap.size W w') => In_any r orr cp (i : Int) w' (HMS.out.later hb') hw1)
              obtain ⟨c1, hc1⟩ : ∃ c, r.ms.contains (k : Int) = c := ⟨_, rfl⟩
              obtain ⟨c2, hc2⟩ : ∃ c, r.ms.contains (i : Int) = c := ⟨_, rfl⟩
              rw [hc1] at HI1
              rw [hc2] at HI2
              obtain ⟨cc, hcc⟩ : ∃ c, (c1 == c2) = c := ⟨_, rfl⟩
              have HNX := Lib.hid (show (cc && (rows.drop (j2 + 1)).all (sameB (k : Int) (i : Int))) = SAME from by rw [← HE.out, hc1, hc2, hcc, Bool.true_and])
              clear hc1 hc2
              have hcd : (c1 == c2) = cc := hcc
              clear hcc
              refine wp_region_B 10 (fun w'' => Below W.heap.size W w'') mixed (by kernel_rfl) (below_closed W) (Below.refl _ _).drew ?_
              simp only [List.take_succ_cons, List.take_zero, List.drop_succ_cons, List.drop_zero]
              intro KR hR
              have HR := Lib.hid hR
              clear hR
              have HCC := Lib.hid (show ∀ w'', Below W.heap.size W w'' → w''.cell? ⟨Bk, 0, none⟩ = some (.int .i64 r.c) ∧ w''.cell? ⟨Bk, 1, none⟩ = some (.slice orr r.ms.length cp) from fun w'' hw => ⟨cell_kept hw HC.out.1, cell_kept hw HC.out.2⟩)
              apply wpB_val rfl
              · (intro w' hw'; go_simp; with_reducible rfl)
              simp only [Act.put, List.setIfInBounds_toArray, List.set_cons_zero, List.set_cons_succ]
              apply wpB_val rfl
              · (intro w' hw'; go_simp; with_reducible rfl)
              simp only [Act.put, List.setIfInBounds_toArray, List.set_cons_zero, List.set_cons_succ]
              apply wpB_val rfl
              · (intro w' hw'; obtain ⟨c0, c1⟩ := HCC.out w' hw'; go_simp; with_reducible rfl)
              simp only [Act.put, List.setIfInBounds_toArray, List.set_cons_zero, List.set_cons_succ]
              apply wpB_val rfl
              · (intro w' hw'; go_simp; with_reducible rfl)
              simp only [Act.put, List.setIfInBounds_toArray, List.set_cons_zero, List.set_cons_succ]
              apply wpB_call 16 #[rwV r orr cp, .int .i64 (k : Int)] rfl (v := .bool c1)
              · (intro w'; go_simp)
              · exact fun w' hw' => HI1.out w' hw'
              simp only [Act.put, List.setIfInBounds_toArray, List.set_cons_zero, List.set_cons_succ]
              apply wpB_val rfl
              · (intro w' hw'; obtain ⟨c0, c1⟩ := HCC.out w' hw'; go_simp; with_reducible rfl)
              simp only [Act.put, List.setIfInBounds_toArray, List.set_cons_zero, List.set_cons_succ]
              apply wpB_val rfl
              · (intro w' hw'; go_simp; with_reducible rfl)
              simp only [Act.put, List.setIfInBounds_toArray, List.set_cons_zero, List.set_cons_succ]
              apply wpB_call 16 #[rwV r orr cp, .int .i64 (i : Int)] rfl (v := .bool c2)
              · (intro w'; go_simp)
              · exact fun w' hw' => HI2.out w' hw'
              simp only [Act.put, List.setIfInBounds_toArray, List.set_cons_zero, List.set_cons_succ]
              apply wpB_val rfl
              · (intro w' hw'; go_simp; with_reducible rfl)
              simp only [Act.put, List.setIfInBounds_toArray, List.set_cons_zero, List.set_cons_succ]
              apply wpB_val rfl
              · (intro w' hw'; go_simp; with_reducible rfl)
              simp only [Act.put, List.setIfInBounds_toArray, List.set_cons_zero, List.set_cons_succ]
              refine wpB_nil (HR.out _ (fun w2 hw2 => ?_))
              clear HR HCC
              have HB7 := Lib.hid (below_step HBW.out hw2)
              clear hw2 HI1 HI2
              (try rw [hcd])
              clear hcd
              go_wp2
              go_roundw
              case rel => exact ⟨j2 + 1, cc, by omega, by go_num, rfl, HNX.out, HB7.out⟩
              case measure => simp [intOf]; omega
          · obtain rfl : j2 = rows.length := by omega
            have HBS := Lib.hid (show b = SAME by rw [← HZ2.out, List.drop_length]; simp)
            have HBE := Lib.hid (below_step HW.out HB.out)
            obtain ⟨g1, o1, h1, d0⟩ := (HX.out.later HB.out) k (by rw [HLX.out]; assumption)
            obtain ⟨g2, o2, h2, e0⟩ := (HX.out.later HB.out) i (by rw [HLX.out]; assumption)
            obtain ⟨rfl, rfl⟩ := cells_eq rfl h1
            obtain ⟨rfl, rfl⟩ := cells_eq rfl h2
            rw [Nat.zero_add] at d0 e0
            have hxi := HLIM.out k (by assumption)
            have hxk := HLIM.out i (by assumption)
            obtain ⟨xi, hxie⟩ : ∃ q, X.getD k 0 = q := ⟨_, rfl⟩
            obtain ⟨xk, hxke⟩ : ∃ q, X.getD i 0 = q := ⟨_, rfl⟩
            rw [hxie] at d0 HR1 hxi
            rw [hxke] at e0 HR1 hxk
            clear hxie hxke h1 h2
            cases b with
            | false =>
              go_wp2_with fail
              go_quiet (fail)
              go_wp2
              go_ret
              exact ⟨rfl, below_drewN HBE.out _⟩
            | true =>
              obtain rfl : true = SAME := HBS.out
              by_cases hxx : xi = xk
              · subst hxx
                go_wp2_with fail
                go_quiet (fail)
                go_wp2
                go_ret
                exact ⟨rfl, below_drewN HBE.out _⟩
              · obtain rfl : xi = xk + 1 := (HR1.out rfl).resolve_left hxx
                have hxb : ((xk + 1 : Int) == xk) = false := by simpa using hxx
                have ew : IntKind.i64.wrap (xk + 1) = xk + 1 := IntWalk.i64_in _ (by omega)
                clear hxx
                go_wp2_with fail
                go_quiet (fail)
                go_wp2
                go_ret
                exact ⟨rfl, below_drewN HBE.out _⟩
    · have hmi : m = (i : Int) := hmc.resolve_right hmk
      subst hmi
      have HR1 := Lib.hid (HREST.out i k rfl hin hkn (fun q hq => HZ.out q hq))
      have he1 : ((i : Int) == (k : Int)) = false := by simpa using hmk
      have he1n : (i == k) = false := by simp; omega
      clear HREST hmc hmk
      go_wp2_with fail
      clear he1 he1n
      obtain ⟨gi, oi, hgi, d0⟩ := (H_most.out.later HW.out) i (by assumption)
      obtain ⟨gk, ok, hgk, e0⟩ := (H_most.out.later HW.out) k (by assumption)
      obtain ⟨rfl, rfl⟩ := cells_eq hgi hgk
      subst hgi
      clear hgk c0
      obtain ⟨SAME, hSAME⟩ : ∃ S, ((most.getD i 0 == most.getD k 0) && rows.all (sameB (i : Int) (k : Int))) = S := ⟨_, rfl⟩
      rw [hSAME] at HR1
      have HSA := Lib.hid hSAME
      clear hSAME
      obtain ⟨mi, hmi⟩ : ∃ q, most.getD i 0 = q := ⟨_, rfl⟩
      obtain ⟨mk, hmk2⟩ : ∃ q, most.getD k 0 = q := ⟨_, rfl⟩
      rw [hmi] at d0 HSA
      rw [hmk2] at e0 HSA
      clear hmi hmk2
      obtain ⟨F, hF⟩ : ∃ F, (mi == mk) = F := ⟨_, rfl⟩
      have hFd : (mi == mk) = F := hF
      have HI := Lib.hid (show (F && (rows.drop 0).all (sameB (i : Int) (k : Int))) = SAME by rw [List.drop_zero, ← hF]; exact HSA.out)
      clear hF HSA
      have z1 : (0 : Int) ≤ (i : Int) := by omega
      have z2 : (i : Int) < (most.length : Int) := by omega
      have z3 : (0 : Int) ≤ (k : Int) := by omega
      have z4 : (k : Int) < (most.length : Int) := by omega
      go_quiet (fail)
      clear hFd d0 e0
      generalize hW5 : World.drewN w2 _ = W5
      have HB5 := Lib.hid (show Below w2.heap.size w2 W5 by rw [← hW5]; exact below_drewN (Below.refl _ _) _)
      clear hW5
      go_wp2
      go_loopw [19, 93] (fun fl x wr => ∃ (j : Nat) (b : Bool), j ≤ rows.length ∧ x = .int .i64 j ∧ fl = .bool b ∧ (b && (rows.drop j).all (sameB (i : Int) (k : Int))) = SAME ∧ Below w2.heap.size w2 wr) (fun _ x _ => rows.length - (intOf x).toNat)
      case atStart => exact ⟨0, F, Nat.zero_le _, rfl, rfl, HI.out, HB5.out⟩
      case round =>
        obtain ⟨j2, b, hj2, rfl, rfl, hz, hb⟩ := hrel
        have HZ2 := Lib.hid hz
        have HB := Lib.hid hb
        clear hz hb HI HB5
        by_cases hjl2 : j2 < rows.length
        · obtain ⟨h, oh, hho, orr, cp, hw1, hw2, hms, c0, c1⟩ := (HRW.out.later (below_step HW.out HB.out)) j2 hjl2
          subst hho
          have HD := Lib.hid (dropW hjl2)
          obtain ⟨r, hrr⟩ : ∃ r, getW rows j2 = r := ⟨_, rfl⟩
          rw [hrr] at c0 c1 HD hw1 hw2 hms
          have HMS := Lib.hid hms
          clear hrr hms
          have HE := Lib.hid (show (b && ((r.ms.contains (i : Int) == r.ms.contains (k : Int)) && (rows.drop (j2 + 1)).all (sameB (i : Int) (k : Int)))) = SAME by rw [← HZ2.out, HD.out]; rfl)
          have z5 : (0 : Int) ≤ (j2 : Int) := by omega
          have z6 : (j2 : Int) < (rows.length : Int) := by omega
          have HBX := Lib.hid (box2 wr 34 (.int .i64 r.c) (.slice orr r.ms.length cp))
          go_wp2_with fail
          clear c0 c1
          obtain ⟨W, hW⟩ : ∃ W : World, W = wr.alloc (.cells #[.int .i64 r.c, .slice orr r.ms.length cp] 34) := ⟨_, rfl⟩
          rw [← hW] at HBX ⊢
          clear hW
          have HBW := Lib.hid (below_step HB.out HBX.out.1)
          replace HMS := Lib.hid (HMS.out.later HBX.out.1)
          obtain ⟨Bk, hBk⟩ : ∃ Bk, wr.heap.size = Bk := ⟨_, rfl⟩
          have HC := Lib.hid HBX.out.2
          rw [hBk] at HC ⊢
          clear hBk HBX
          cases b with
          | false =>
            have HNX := Lib.hid (show (false && (rows.drop (j2 + 1)).all (sameB (i : Int) (k : Int))) = SAME from HE.out)
            refine wp_region_B 10 (fun w'' => Below W.heap.size W w'') mixed (by kernel_rfl) (below_closed W) (Below.refl _ _).drew ?_
            simp only [List.take_succ_cons, List.take_zero, List.drop_succ_cons, List.drop_zero]
            intro KR hR
            have HR := Lib.hid hR
            clear hR
            apply wpB_val rfl
            · (intro w' hw'; go_simp; with_reducible rfl)
            simp only [Act.put, List.setIfInBounds_toArray, List.set_cons_zero, List.set_cons_succ]
            apply wpB_val rfl
            · (intro w' hw'; go_simp; with_reducible rfl)
            simp only [Act.put, List.setIfInBounds_toArray, List.set_cons_zero, List.set_cons_succ]
            ((with_reducible refine wpB_skip ?_ ?_); exact rfl; simp only [Act.put, List.setIfInBounds_toArray, List.set_cons_zero, List.set_cons_succ])
            ((with_reducible refine wpB_skip ?_ ?_); exact rfl; simp only [Act.put, List.setIfInBounds_toArray, List.set_cons_zero, List.set_cons_succ])
            ((with_reducible refine wpB_skip ?_ ?_); exact rfl; simp only [Act.put, List.setIfInBounds_toArray, List.set_cons_zero, List.set_cons_succ])
            ((with_reducible refine wpB_skip ?_ ?_); exact rfl; simp only [Act.put, List.setIfInBounds_toArray, List.set_cons_zero, List.set_cons_succ])
            ((with_reducible refine wpB_skip ?_ ?_); exact rfl; simp only [Act.put, List.setIfInBounds_toArray, List.set_cons_zero, List.set_cons_succ])
            ((with_reducible refine wpB_skip ?_ ?_); exact rfl; simp only [Act.put, List.setIfInBounds_toArray, List.set_cons_zero, List.set_cons_succ])
            ((with_reducible refine wpB_skip ?_ ?_); exact rfl; simp only [Act.put, List.setIfInBounds_toArray, List.set_cons_zero, List.set_cons_succ])
            apply wpB_val rfl
            · (intro w' hw'; go_simp; with_reducible rfl)
            simp only [Act.put, List.setIfInBounds_toArray, List.set_cons_zero, List.set_cons_succ]
            refine wpB_nil (HR.out _ (fun w2 hw2 => ?_))
            clear HR
            have HB7 := Lib.hid (below_step HBW.out hw2)
            clear hw2
            go_wp2
            go_roundw
            case rel => exact ⟨j2 + 1, false, by omega, by go_num, rfl, HNX.out, HB7.out⟩
            case measure => simp [intOf]; omega
          | true =>
            have HI1 := Lib.hid (fun (w' : World) (hb' : Below W.heap.size W w') => In_any r orr cp (i : Int) w' (HMS.out.later hb') hw1)
            have HI2 := Lib.hid (fun (w' : World) (hb' : Below W.heap.size W w') => In_any r orr cp (k : Int) w' (HMS.out.later hb') hw1)
            obtain ⟨c1, hc1⟩ : ∃ c, r.ms.contains (i : Int) = c := ⟨_, rfl⟩
            obtain ⟨c2, hc2⟩ : ∃ c, r.ms.contains (k : Int) = c := ⟨_, rfl⟩
            rw [hc1] at HI1
            rw [hc2] at HI2
            obtain ⟨cc, hcc⟩ : ∃ c, (c1 == c2) = c := ⟨_, rfl⟩
            have HNX := Lib.hid (show (cc && (rows.drop (j2 + 1)).all (sameB (i : Int) (k : Int))) = SAME from by rw [← HE.out, hc1, hc2, hcc, Bool.true_and])
            clear hc1 hc2
            have hcd : (c1 == c2) = cc := hcc
            clear hcc
            refine wp_region_B 10 (fun w'' => Below W.heap.size W w'') mixed (by kernel_rfl) (below_closed W) (Below.refl _ _).drew ?_
            simp only [List.take_succ_cons, List.take_zero, List.drop_succ_cons, List.drop_zero]
            intro KR hR
            have HR := Lib.hid hR
            clear hR
            have HCC := Lib.hid (show ∀ w'', Below W.heap.size W w'' → w''.cell? ⟨Bk, 0, none⟩ = some (.int .i64 r.c) ∧ w''.cell? ⟨Bk, 1, none⟩ = some (.slice orr r.ms.length cp) from fun w'' hw => ⟨cell_kept hw HC.out.1, cell_kept hw HC.out.2⟩)
            apply wpB_val rfl
            · (intro w' hw'; go_simp; with_reducible rfl)
            simp only [Act.put, List.setIfInBounds_toArray, List.set_cons_zero, List.set_cons_succ]
            apply wpB_val rfl
            · (intro w' hw'; go_simp; with_reducible rfl)
            simp only [Act.put, List.setIfInBounds_toArray, List.set_cons_zero, List.set_cons_succ]
            apply wpB_val rfl
            · (intro w' hw'; obtain ⟨c0, c1⟩ := HCC.out w' hw'; go_simp; with_reducible rfl)
            simp only [Act.put, List.setIfInBounds_toArray, List.set_cons_zero, List.set_cons_succ]
            apply wpB_val rfl
            · (intro w' hw'; go_simp; with_reducible rfl)
            simp only [Act.put, List.setIfInBounds_toArray, List.set_cons_zero, List.set_cons_succ]
            apply wpB_call 16 #[rwV r orr cp, .int .i64 (i : Int)] rfl (v := .bool c1)
            · (intro w'; go_simp)
            · exact fun w' hw' => HI1.out w' hw'
            simp only [Act.put, List.setIfInBounds_toArray, List.set_cons_zero, List.set_cons_succ]
            apply wpB_val rfl
            · (intro w' hw'; obtain ⟨c0, c1⟩ := HCC.out w' hw'; go_simp; with_reducible rfl)
            simp only [Act.put, List.setIfInBounds_toArray, List.set_cons_zero, List.set_cons_succ]
            apply wpB_val rfl
            · (intro w' hw'; go_simp; with_reducible rfl)
            simp only [Act.put, List.setIfInBounds_toArray, List.set_cons_zero, List.set_cons_succ]
            apply wpB_call 16 #[rwV r orr cp, .int .i64 (k : Int)] rfl (v := .bool c2)
            · (intro w'; go_simp)
            · exact fun w' hw' => HI2.out w' hw'
            simp only [Act.put, List.setIfInBounds_toArray, List.set_cons_zero, List.set_cons_succ]
            apply wpB_val rfl
            · (intro w' hw'; go_simp; with_reducible rfl)
            simp only [Act.put, List.setIfInBounds_toArray, List.set_cons_zero, List.set_cons_succ]
            apply wpB_val rfl
            · (intro w' hw'; go_simp; with_reducible rfl)
            simp only [Act.put, List.setIfInBounds_toArray, List.set_cons_zero, List.set_cons_succ]
            refine wpB_nil (HR.out _ (fun w2 hw2 => ?_))
            clear HR HCC
            have HB7 := Lib.hid (below_step HBW.out hw2)
            clear hw2 HI1 HI2
            (try rw [hcd])
            clear hcd
            go_wp2
            go_roundw
            case rel => exact ⟨j2 + 1, cc, by omega, by go_num, rfl, HNX.out, HB7.out⟩
            case measure => simp [intOf]; omega
        · obtain rfl : j2 = rows.length := by omega
          have HBS := Lib.hid (show b = SAME by rw [← HZ2.out, List.drop_length]; simp)
          have HBE := Lib.hid (below_step HW.out HB.out)
          obtain ⟨g1, o1, h1, d0⟩ := (HX.out.later HB.out) i (by rw [HLX.out]; assumption)
          obtain ⟨g2, o2, h2, e0⟩ := (HX.out.later HB.out) k (by rw [HLX.out]; assumption)
          obtain ⟨rfl, rfl⟩ := cells_eq rfl h1
          obtain ⟨rfl, rfl⟩ := cells_eq rfl h2
          rw [Nat.zero_add] at d0 e0
          have hxi := HLIM.out i (by assumption)
          have hxk := HLIM.out k (by assumption)
          obtain ⟨xi, hxie⟩ : ∃ q, X.getD i 0 = q := ⟨_, rfl⟩
          obtain ⟨xk, hxke⟩ : ∃ q, X.getD k 0 = q := ⟨_, rfl⟩
          rw [hxie] at d0 HR1 hxi
          rw [hxke] at e0 HR1 hxk
          clear hxie hxke h1 h2
          cases b with
          | false =>
            go_wp2_with fail
            go_quiet (fail)
            go_wp2
            go_ret
            exact ⟨rfl, below_drewN HBE.out _⟩
          | true =>
            obtain rfl : true = SAME := HBS.out
            by_cases hxx : xi = xk
            · subst hxx
              go_wp2_with fail
              go_quiet (fail)
              go_wp2
              go_ret
              exact ⟨rfl, below_drewN HBE.out _⟩
            · obtain rfl : xi = xk + 1 := (HR1.out rfl).resolve_left hxx
              have hxb : ((xk + 1 : Int) == xk) = false := by simpa using hxx
              have ew : IntKind.i64.wrap (xk + 1) = xk + 1 := IntWalk.i64_in _ (by omega)
              clear hxx
              go_wp2_with fail
              go_quiet (fail)
              go_wp2
              go_ret
              exact ⟨rfl, below_drewN HBE.out _⟩
end Go.Proofs.Ytjaeekikddbbeaa
