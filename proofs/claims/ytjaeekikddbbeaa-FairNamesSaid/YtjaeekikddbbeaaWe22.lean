/- Chapter 22: Fits of the reference, Fits. -/
import Derived.Test.YtjaeekikddbbeaaWd22
namespace Go.Proofs.Ytjaeekikddbbeaa
open Go.RowKit
attribute [local go_sem] Oper.semAt_some

theorem nodup_len : ∀ (n : Nat) (l : List Int), (∀ k ∈ l, 0 ≤ k ∧ k < (n : Int)) → l.Nodup → l.length ≤ n := by
  intro n
  induction n with
  | zero =>
    intro l hb hn
    cases l with
    | nil => simp
    | cons a bs => have := hb a (List.mem_cons_self ..); omega
  | succ n ih =>
    intro l hb hn
    have h1 := ih (l.erase (n : Int)) (fun k hk => by
      have h3 := hb k (List.mem_of_mem_erase hk)
      have h4 : k ≠ (n : Int) := fun e => by
        subst e
        exact (List.Nodup.not_mem_erase hn) hk
      omega) (hn.erase _)
    have h2 : l.length ≤ (l.erase (n : Int)).length + 1 := by
      rw [List.length_erase]
      split <;> omega
    omega
theorem VL.ms_len {rows : List Rw} {most : List Int} (h : VL rows most) {r : Rw} (hr : r ∈ rows) : r.ms.length ≤ 64 := by
  have h1 := h.row r hr
  have h2 := nodup_len most.length r.ms h1.2.1 (Rw.nodup h1.2.2)
  have := h.n64
  omega
theorem getW_mem {l : List Rw} {k : Nat} (h : k < l.length) : getW l k ∈ l := by
  unfold getW
  rw [List.getD_eq_getElem?_getD, List.getElem?_eq_getElem h]
  exact List.getElem_mem h
/-- What is known of the numbers after the first loop. -/
theorem inLim_bd {rows : List Rw} {most x : List Int} (hv : VL rows most) (hl : x.length = most.length) (h : inLim most x = true) {r : Rw} (hr : r ∈ rows) : (∀ m ∈ r.ms, 0 ≤ m ∧ m < (x.length : Int)) ∧ (∀ m ∈ r.ms, 0 ≤ atI x m ∧ atI x m ≤ 1000) := by
  have h1 := hv.row r hr
  refine ⟨fun m hm => by rw [hl]; exact h1.2.1 m hm, fun m hm => ?_⟩
  have h2 := h1.2.1 m hm
  have h3 := (inLim_iff hl).1 h m h2.1 h2.2
  have h4 := hv.lim _ (atI_mem (x := most) h2)
  omega

set_option maxRecDepth 100000 in
set_option maxHeartbeats 8000000 in
theorem refFits_any (o o2 o3 : Option Addr) (cap cap2 cap3 : Nat) (rows : List Rw) (most x : List Int) (w : World) (hr : Rws w o rows) (hm : Ints w o2 most) (hx : Ints w o3 x) (hl : rows.length ≤ 9000000000000000000) (hl2 : most.length ≤ 9000000000000000000) : Calls Try.prog 12 #[.slice o rows.length cap, .slice o2 most.length cap2, .slice o3 x.length cap3] w (Ret (.bool (fitsB rows most x)) w) := by
  have HR := Lib.hid hr
  have HM := Lib.hid hm
  have HX := Lib.hid hx
  obtain ⟨V, hV⟩ : ∃ V, fitsB rows most x = V := ⟨_, rfl⟩
  rw [hV]
  have HV := Lib.hid hV
  clear hr hm hx hV
  go_enter Try.func12, Try.ntmps12
  go_wp2_with fail
  refine (refValid_any o cap rows (most.length : Nat) w HR.out hl).mono ?_
  rintro e w0 ⟨rfl, hb⟩
  have HB0 := Lib.hid hb
  clear hb
  obtain ⟨Q, hQ⟩ : ∃ Q, validRws (most.length : Nat) rows = Q := ⟨_, rfl⟩
  have HQ := Lib.hid hQ
  rw [hQ]
  clear hQ
  cases Q with
  | false =>
    obtain rfl : V = false := by rw [← HV.out, fitsB, validLim, HQ.out]; rfl
    go_wp2
    go_ret
    exact ⟨rfl, HB0.out⟩
  | true =>
  go_wp2_with fail
  refine (refLimits_any o2 cap2 most w0 (HM.out.later HB0.out) hl2).mono ?_
  rintro e w1 ⟨rfl, hb⟩
  have HB := Lib.hid (below_step HB0.out hb)
  clear hb HB0
  obtain ⟨Q, hQ⟩ : ∃ Q, limits most = Q := ⟨_, rfl⟩
  have HQ2 := Lib.hid hQ
  rw [hQ]
  clear hQ
  cases Q with
  | false =>
    obtain rfl : V = false := by rw [← HV.out, fitsB, validLim, HQ2.out]; simp
    go_wp2
    go_ret
    exact ⟨rfl, HB.out⟩
  | true =>
  have HVAL := Lib.hid (show validLim rows most = true by rw [validLim, HQ.out, HQ2.out]; rfl)
  clear HQ HQ2
  by_cases hxl : x.length = most.length
  rotate_left
  · obtain rfl : V = false := by rw [← HV.out, fitsB, decide_eq_false hxl]; simp
    have h1d : ((x.length : Int) != (most.length : Int)) = true := by simp; omega
    have h1n : (x.length != most.length) = true := by simpa using hxl
    clear hxl
    go_wp2
    go_ret
    exact ⟨rfl, HB.out⟩
  have HXL := Lib.hid hxl
  have h1d : ((x.length : Int) != (most.length : Int)) = false := by simp; omega
  have h1n : (x.length != most.length) = false := by simpa using hxl
  clear hxl
  go_wp2
  clear h1d h1n
  have HVL := Lib.hid (show VL rows most from validLim_iff.1 HVAL.out)
  have hr64 := HVL.out.r64
  have hn64 := HVL.out.n64
  have HX1 := Lib.hid (HX.out.later HB.out)
  have HM1 := Lib.hid (HM.out.later HB.out)
  have HR1 := Lib.hid (HR.out.later HB.out)
  go_loopw [7] (fun i wr => ∃ k : Nat, k ≤ x.length ∧ i = .int .i64 k ∧ (∀ j, j < k → 0 ≤ x.getD j 0 ∧ x.getD j 0 ≤ most.getD j 0) ∧ Below w1.heap.size w1 wr) (fun i _ => x.length - (intOf i).toNat)
  case atStart => exact ⟨0, Nat.zero_le _, rfl, fun j hj => absurd hj (by omega), Below.refl _ _⟩
  case round =>
    obtain ⟨k, hk, rfl, hz, hb⟩ := hrel
    have HZ := Lib.hid hz
    have HB1 := Lib.hid hb
    clear hz hb
    by_cases hlt : k < x.length
    · obtain ⟨g, off, hgo, c0⟩ := (HX1.out.later HB1.out) k hlt
      obtain ⟨g2, off2, hgo2, d0⟩ := (HM1.out.later HB1.out) k (by have := HXL.out; omega)
      subst hgo hgo2
      have HNO := Lib.hid (fun (h : ¬ (0 ≤ x.getD k 0 ∧ x.getD k 0 ≤ most.getD k 0)) => show V = false by
        rw [← HV.out, fitsB, (show inLim most x = false by rw [inLim, decide_eq_false_iff_not]; exact fun h' => h (h' k hlt))]
        simp)
      have HYE := Lib.hid (fun (h : 0 ≤ x.getD k 0 ∧ x.getD k 0 ≤ most.getD k 0) => show ∀ j, j < k + 1 → 0 ≤ x.getD j 0 ∧ x.getD j 0 ≤ most.getD j 0 from fun j hj => by
        rcases Nat.lt_or_eq_of_le (Nat.le_of_lt_succ hj) with h' | rfl
        · exact HZ.out j h'
        · exact h)
      obtain ⟨q, hq⟩ : ∃ q, x.getD k 0 = q := ⟨_, rfl⟩
      obtain ⟨s, hs⟩ : ∃ s, most.getD k 0 = s := ⟨_, rfl⟩
      rw [hq] at c0
      rw [hs] at d0
      rw [hq, hs] at HNO HYE
      clear hq hs
      have y1 : (0 : Int) ≤ (k : Int) := by omega
      have y2 : (k : Int) < (x.length : Int) := by omega
      have y3 : (k : Int) < (most.length : Int) := by have := HXL.out; omega
      by_cases h3 : q < 0
      · obtain rfl : V = false := HNO.out (by omega)
        have h3d : decide (q < 0) = true := by simpa using h3
        go_wp2_with fail
        go_quiet (fail)
        go_wp2
        go_ret
        exact ⟨rfl, below_step HB.out (below_drewN HB1.out _)⟩
      have h3d : decide (q < 0) = false := by simpa using h3
      by_cases h4 : s < q
      · obtain rfl : V = false := HNO.out (by omega)
        have h4d : decide (s < q) = true := by simpa using h4
        go_wp2_with fail
        go_quiet (fail)
        go_wp2
        go_ret
        exact ⟨rfl, below_step HB.out (below_drewN HB1.out _)⟩
      have h4d : decide (s < q) = false := by simpa using h4
      have HNX := Lib.hid (HYE.out (by omega))
      go_wp2_with fail
      go_quiet (fail)
      go_wp2
      go_roundw
      case rel => exact ⟨k + 1, by omega, by go_num, HNX.out, (below_drewN HB1.out _)⟩
      case measure => simp [intOf]; omega
    · obtain rfl : k = x.length := by omega
      clear hlt hk
      have HIN := Lib.hid (show inLim most x = true by rw [inLim, decide_eq_true_eq]; exact HZ.out)
      have HI := Lib.hid (show (rows.drop 0).all (fun r => decide (sumR r x ≤ r.c)) = V by rw [← HV.out, fitsB, HVAL.out, HIN.out, decide_eq_true HXL.out, List.drop_zero]; rfl)
      have HB2 := Lib.hid (below_step HB.out HB1.out)
      clear HZ HV
      go_wp2
      go_loopw [8] (fun i w2 => ∃ k : Nat, k ≤ rows.length ∧ i = .int .i64 k ∧ (rows.drop k).all (fun r => decide (sumR r x ≤ r.c)) = V ∧ Below w.heap.size w w2) (fun i _ => rows.length - (intOf i).toNat)
      case atStart => exact ⟨0, Nat.zero_le _, rfl, HI.out, HB2.out⟩
      case round =>
        obtain ⟨k, hk, rfl, hz, hb⟩ := hrel
        have HZ := Lib.hid hz
        have HB3 := Lib.hid hb
        clear hz hb HI
        by_cases hlt : k < rows.length
        · obtain ⟨g, off, hgo, oo, cp, hw1, hw2, hms, c0, c1⟩ := (HR.out.later HB3.out) k hlt
          subst hgo
          have HD := Lib.hid (dropW hlt)
          have hm64 := HVL.out.ms_len (getW_mem hlt)
          have HBD := Lib.hid (inLim_bd HVL.out HXL.out HIN.out (getW_mem hlt))
          have hcb := (HVL.out.row _ (getW_mem hlt)).1
          obtain ⟨r, hrr⟩ : ∃ r, getW rows k = r := ⟨_, rfl⟩
          rw [hrr] at c0 c1 HD hw1 hw2 hms hm64 HBD hcb
          have HMS := Lib.hid hms
          clear hrr hms
          have HE := Lib.hid (show (decide (sumR r x ≤ r.c) && (rows.drop (k + 1)).all (fun r => decide (sumR r x ≤ r.c))) = V by rw [← HZ.out, HD.out]; rfl)
          have y1 : (0 : Int) ≤ (k : Int) := by omega
          have y2 : (k : Int) < (rows.length : Int) := by omega
          obtain ⟨s, hs⟩ : ∃ s, sumR r x = s := ⟨_, rfl⟩
          have HSC := Lib.hid (fun (w' : World) (hb' : Below w.heap.size w w') (h1 : Ints w' oo r.ms) => show Calls Try.prog 17 #[rwV r oo cp, .slice o3 x.length cap3] w' (Ret (.int .i64 s) w') from by rw [← hs]; exact Sum_any r oo o3 cp cap3 x w' h1 (HX.out.later hb') (by omega) HBD.out.1 HBD.out.2)
          rw [hs] at HE
          clear hs
          have HC0 := Lib.hid c0
          have HC1 := Lib.hid c1
          clear c0 c1
          go_wp2_with fail
          refine wp_region_B 12 (fun w'' => Below wr.heap.size wr w'') mixed (by kernel_rfl) (below_closed wr) (Below.refl _ _).drew ?_
          simp only [List.take_succ_cons, List.take_zero, List.drop_succ_cons, List.drop_zero]
          intro KR hR
          have HR := Lib.hid hR
          clear hR
          have HCC := Lib.hid (show ∀ w'', Below wr.heap.size wr w'' → w''.cell? ⟨g, off + k * 2, none⟩ = some (.int .i64 r.c) ∧ w''.cell? ⟨g, off + k * 2 + 1, none⟩ = some (.slice oo r.ms.length cp) from fun w'' hw => ⟨cell_kept hw HC0.out, cell_kept hw HC1.out⟩)
          apply wpB_val rfl
          · (intro w' hw'; go_simp; with_reducible rfl)
          simp only [Act.put, List.setIfInBounds_toArray, List.set_cons_zero, List.set_cons_succ]
          apply wpB_val rfl
          · (intro w' hw'; go_simp; with_reducible rfl)
          simp only [Act.put, List.setIfInBounds_toArray, List.set_cons_zero, List.set_cons_succ]
          apply wpB_val rfl
          · (intro w' hw'; go_simp; with_reducible rfl)
          simp only [Act.put, List.setIfInBounds_toArray, List.set_cons_zero, List.set_cons_succ]
          apply wpB_val rfl
          · (intro w' hw'; obtain ⟨c0, c1⟩ := HCC.out w' hw'; go_simp; with_reducible rfl)
          simp only [Act.put, List.setIfInBounds_toArray, List.set_cons_zero, List.set_cons_succ]
          apply wpB_val rfl
          · (intro w' hw'; go_simp; with_reducible rfl)
          simp only [Act.put, List.setIfInBounds_toArray, List.set_cons_zero, List.set_cons_succ]
          apply wpB_call 17 #[rwV r oo cp, .slice o3 x.length cap3] rfl (v := .int .i64 s)
          · (intro w'; go_simp)
          · exact fun w' hw' => HSC.out w' (below_step HB3.out hw') (HMS.out.later hw')
          simp only [Act.put, List.setIfInBounds_toArray, List.set_cons_zero, List.set_cons_succ]
          apply wpB_val rfl
          · (intro w' hw'; go_simp; with_reducible rfl)
          simp only [Act.put, List.setIfInBounds_toArray, List.set_cons_zero, List.set_cons_succ]
          apply wpB_val rfl
          · (intro w' hw'; go_simp; with_reducible rfl)
          simp only [Act.put, List.setIfInBounds_toArray, List.set_cons_zero, List.set_cons_succ]
          apply wpB_val rfl
          · (intro w' hw'; go_simp; with_reducible rfl)
          simp only [Act.put, List.setIfInBounds_toArray, List.set_cons_zero, List.set_cons_succ]
          apply wpB_val rfl
          · (intro w' hw'; go_simp; with_reducible rfl)
          simp only [Act.put, List.setIfInBounds_toArray, List.set_cons_zero, List.set_cons_succ]
          apply wpB_val rfl
          · (intro w' hw'; obtain ⟨c0, c1⟩ := HCC.out w' hw'; go_simp; with_reducible rfl)
          simp only [Act.put, List.setIfInBounds_toArray, List.set_cons_zero, List.set_cons_succ]
          apply wpB_val rfl
          · (intro w' hw'; go_simp; with_reducible rfl)
          simp only [Act.put, List.setIfInBounds_toArray, List.set_cons_zero, List.set_cons_succ]
          refine wpB_nil (HR.out _ (fun w2 hw2 => ?_))
          clear HR HCC
          have HB4 := Lib.hid (below_step HB3.out hw2)
          clear hw2 HSC
          by_cases h5 : r.c < s
          · obtain rfl : V = false := by rw [← HE.out, decide_eq_false (show ¬ s ≤ r.c by omega)]; rfl
            have h5d : decide (r.c < s) = true := by simpa using h5
            go_wp2
            go_ret
            exact ⟨rfl, HB4.out⟩
          have h5d : decide (r.c < s) = false := by simpa using h5
          have HNX := Lib.hid (show (rows.drop (k + 1)).all (fun r => decide (sumR r x ≤ r.c)) = V by rw [← HE.out, decide_eq_true (show s ≤ r.c by omega), Bool.true_and])
          go_wp2
          go_roundw
          case rel => exact ⟨k + 1, by omega, by go_num, HNX.out, HB4.out⟩
          case measure => simp [intOf]; omega
        · obtain rfl : k = rows.length := by omega
          obtain rfl : V = true := by rw [← HZ.out, List.drop_length]; rfl
          go_wp2
          go_ret
          exact ⟨rfl, HB3.out⟩

set_option maxRecDepth 100000 in
set_option maxHeartbeats 8000000 in
theorem Fits_any (o o2 o3 : Option Addr) (cap cap2 cap3 : Nat) (rows : List Rw) (most x : List Int) (w : World) (hr : Rws w o rows) (hm : Ints w o2 most) (hx : Ints w o3 x) (hl : rows.length ≤ 9000000000000000000) (hl2 : most.length ≤ 9000000000000000000) : Calls Try.prog 13 #[.slice o rows.length cap, .slice o2 most.length cap2, .slice o3 x.length cap3] w (Ret (.bool (fitsB rows most x)) w) := by
  have HR := Lib.hid hr
  have HM := Lib.hid hm
  have HX := Lib.hid hx
  obtain ⟨V, hV⟩ : ∃ V, fitsB rows most x = V := ⟨_, rfl⟩
  rw [hV]
  have HV := Lib.hid hV
  clear hr hm hx hV
  go_enter Try.func13, Try.ntmps13
  go_wp2_with fail
  refine (validLimits_any o o2 cap cap2 rows most w HR.out HM.out hl hl2).mono ?_
  rintro e w1 ⟨rfl, hb⟩
  have HB := Lib.hid hb
  clear hb
  obtain ⟨Q, hQ⟩ : ∃ Q, validLim rows most = Q := ⟨_, rfl⟩
  have HVAL := Lib.hid hQ
  rw [hQ]
  clear hQ
  cases Q with
  | false =>
    obtain rfl : V = false := by rw [← HV.out, fitsB, HVAL.out]; rfl
    go_wp2
    go_ret
    exact ⟨rfl, HB.out⟩
  | true =>
  by_cases hxl : x.length = most.length
  rotate_left
  · obtain rfl : V = false := by rw [← HV.out, fitsB, decide_eq_false hxl]; simp
    have h1d : ((x.length : Int) != (most.length : Int)) = true := by simp; omega
    have h1n : (x.length != most.length) = true := by simpa using hxl
    clear hxl
    go_wp2
    go_ret
    exact ⟨rfl, HB.out⟩
  have HXL := Lib.hid hxl
  have h1d : ((x.length : Int) != (most.length : Int)) = false := by simp; omega
  have h1n : (x.length != most.length) = false := by simpa using hxl
  clear hxl
  go_wp2
  clear h1d h1n
  have HVL := Lib.hid (show VL rows most from validLim_iff.1 HVAL.out)
  have hr64 := HVL.out.r64
  have hn64 := HVL.out.n64
  have HX1 := Lib.hid (HX.out.later HB.out)
  have HM1 := Lib.hid (HM.out.later HB.out)
  have HR1 := Lib.hid (HR.out.later HB.out)
  go_loopw [27] (fun i wr => ∃ k : Nat, k ≤ x.length ∧ i = .int .i64 k ∧ (∀ j, j < k → 0 ≤ x.getD j 0 ∧ x.getD j 0 ≤ most.getD j 0) ∧ Below w1.heap.size w1 wr) (fun i _ => x.length - (intOf i).toNat)
  case atStart => exact ⟨0, Nat.zero_le _, rfl, fun j hj => absurd hj (by omega), Below.refl _ _⟩
  case round =>
    obtain ⟨k, hk, rfl, hz, hb⟩ := hrel
    have HZ := Lib.hid hz
    have HB1 := Lib.hid hb
    clear hz hb
    by_cases hlt : k < x.length
    · obtain ⟨g, off, hgo, c0⟩ := (HX1.out.later HB1.out) k hlt
      obtain ⟨g2, off2, hgo2, d0⟩ := (HM1.out.later HB1.out) k (by have := HXL.out; omega)
      subst hgo hgo2
      have HNO := Lib.hid (fun (h : ¬ (0 ≤ x.getD k 0 ∧ x.getD k 0 ≤ most.getD k 0)) => show V = false by
        rw [← HV.out, fitsB, (show inLim most x = false by rw [inLim, decide_eq_false_iff_not]; exact fun h' => h (h' k hlt))]
        simp)
      have HYE := Lib.hid (fun (h : 0 ≤ x.getD k 0 ∧ x.getD k 0 ≤ most.getD k 0) => show ∀ j, j < k + 1 → 0 ≤ x.getD j 0 ∧ x.getD j 0 ≤ most.getD j 0 from fun j hj => by
        rcases Nat.lt_or_eq_of_le (Nat.le_of_lt_succ hj) with h' | rfl
        · exact HZ.out j h'
        · exact h)
      obtain ⟨q, hq⟩ : ∃ q, x.getD k 0 = q := ⟨_, rfl⟩
      obtain ⟨s, hs⟩ : ∃ s, most.getD k 0 = s := ⟨_, rfl⟩
      rw [hq] at c0
      rw [hs] at d0
      rw [hq, hs] at HNO HYE
      clear hq hs
      have y1 : (0 : Int) ≤ (k : Int) := by omega
      have y2 : (k : Int) < (x.length : Int) := by omega
      have y3 : (k : Int) < (most.length : Int) := by have := HXL.out; omega
      by_cases h3 : q < 0
      · obtain rfl : V = false := HNO.out (by omega)
        have h3d : decide (q < 0) = true := by simpa using h3
        skip
        go_wp2
        go_ret
        exact ⟨rfl, below_step HB.out HB1.out⟩
      have h3d : decide (q < 0) = false := by simpa using h3
      by_cases h4 : s < q
      · obtain rfl : V = false := HNO.out (by omega)
        have h4d : decide (s < q) = true := by simpa using h4
        skip
        go_wp2
        go_ret
        exact ⟨rfl, below_step HB.out HB1.out⟩
      have h4d : decide (s < q) = false := by simpa using h4
      have HNX := Lib.hid (HYE.out (by omega))
      skip
      go_wp2
      go_roundw
      case rel => exact ⟨k + 1, by omega, by go_num, HNX.out, HB1.out⟩
      case measure => simp [intOf]; omega
    · obtain rfl : k = x.length := by omega
      clear hlt hk
      have HIN := Lib.hid (show inLim most x = true by rw [inLim, decide_eq_true_eq]; exact HZ.out)
      have HI := Lib.hid (show (rows.drop 0).all (fun r => decide (sumR r x ≤ r.c)) = V by rw [← HV.out, fitsB, HVAL.out, HIN.out, decide_eq_true HXL.out, List.drop_zero]; rfl)
      have HB2 := Lib.hid (below_step HB.out HB1.out)
      clear HZ HV
      go_wp2
      go_loopw [45] (fun i w2 => ∃ k : Nat, k ≤ rows.length ∧ i = .int .i64 k ∧ (rows.drop k).all (fun r => decide (sumR r x ≤ r.c)) = V ∧ Below w.heap.size w w2) (fun i _ => rows.length - (intOf i).toNat)
      case atStart => exact ⟨0, Nat.zero_le _, rfl, HI.out, HB2.out⟩
      case round =>
        obtain ⟨k, hk, rfl, hz, hb⟩ := hrel
        have HZ := Lib.hid hz
        have HB3 := Lib.hid hb
        clear hz hb HI
        by_cases hlt : k < rows.length
        · obtain ⟨g, off, hgo, oo, cp, hw1, hw2, hms, c0, c1⟩ := (HR.out.later HB3.out) k hlt
          subst hgo
          have HD := Lib.hid (dropW hlt)
          have hm64 := HVL.out.ms_len (getW_mem hlt)
          have HBD := Lib.hid (inLim_bd HVL.out HXL.out HIN.out (getW_mem hlt))
          have hcb := (HVL.out.row _ (getW_mem hlt)).1
          obtain ⟨r, hrr⟩ : ∃ r, getW rows k = r := ⟨_, rfl⟩
          rw [hrr] at c0 c1 HD hw1 hw2 hms hm64 HBD hcb
          have HMS := Lib.hid hms
          clear hrr hms
          have HE := Lib.hid (show (decide (sumR r x ≤ r.c) && (rows.drop (k + 1)).all (fun r => decide (sumR r x ≤ r.c))) = V by rw [← HZ.out, HD.out]; rfl)
          have y1 : (0 : Int) ≤ (k : Int) := by omega
          have y2 : (k : Int) < (rows.length : Int) := by omega
          have HXW := Lib.hid (HX.out.later (below_step HB3.out (box2 wr 34 (.int .i64 r.c) (.slice oo r.ms.length cp)).1))
          have HMW := Lib.hid (HMS.out.later (box2 wr 34 (.int .i64 r.c) (.slice oo r.ms.length cp)).1)
          have HB4 := Lib.hid (below_step HB3.out (box2 wr 34 (.int .i64 r.c) (.slice oo r.ms.length cp)).1)
          go_wp2
          clear c0 c1
          have HJ := Lib.hid (show r.c - ((r.ms.drop 0).map (atI x)).sum = r.c - sumR r x by rw [List.drop_zero]; rfl)
          go_loop [11, 54] (fun a i => ∃ (j : Nat) (t : Int), j ≤ r.ms.length ∧ i = .int .i64 j ∧ a = .int .i64 t ∧ (-1000 * (j : Int) ≤ t ∧ t ≤ 1000000) ∧ t - ((r.ms.drop j).map (atI x)).sum = r.c - sumR r x) (fun _ i => r.ms.length - (intOf i).toNat)
          case atStart => exact ⟨0, r.c, Nat.zero_le _, rfl, rfl, by omega, HJ.out⟩
          case round =>
            obtain ⟨j, t, hj, rfl, rfl, ht, hz⟩ := hrel
            have HZ2 := Lib.hid hz
            clear hz HJ
            by_cases hjl : j < r.ms.length
            · obtain ⟨h, oh, hho, e0⟩ := HMW.out j hjl
              subst hho
              have HD2 := Lib.hid (dropI hjl)
              have hmb := HBD.out.1 _ (getD_mem hjl)
              have hmx := HBD.out.2 _ (getD_mem hjl)
              obtain ⟨m, hm⟩ : ∃ m, r.ms.getD j 0 = m := ⟨_, rfl⟩
              rw [hm] at e0 HD2 hmb hmx
              clear hm
              obtain ⟨g2, off2, hgo2, d0⟩ := HXW.out.at hmb
              subst hgo2
              have HNX := Lib.hid (show t - atI x m - ((r.ms.drop (j + 1)).map (atI x)).sum = r.c - sumR r x by rw [← HZ2.out, HD2.out, List.map_cons, List.sum_cons]; omega)
              obtain ⟨q, hq⟩ : ∃ q, atI x m = q := ⟨_, rfl⟩
              rw [hq] at d0 HNX hmx
              clear hq
              obtain ⟨M, rfl⟩ : ∃ M : Nat, m = (M : Int) := ⟨m.toNat, by omega⟩
              have z1 : (0 : Int) ≤ (j : Int) := by omega
              have z2 : (j : Int) < (r.ms.length : Int) := by omega
              have z3 : (0 : Int) ≤ (M : Int) := by omega
              have z4 : (M : Int) < (x.length : Int) := hmb.2
              rw [Int.toNat_natCast] at d0
              clear hmb
              go_wp2
              go_round
              case rel => exact ⟨j + 1, t - q, by omega, by go_num, rfl, by omega, HNX.out⟩
              case measure => simp [intOf]; omega
            · obtain rfl : j = r.ms.length := by omega
              have HT := Lib.hid (show t = r.c - sumR r x by rw [← HZ2.out, List.drop_length]; simp)
              by_cases h5 : t < 0
              · obtain rfl : V = false := by rw [← HE.out, decide_eq_false (show ¬ sumR r x ≤ r.c by have := HT.out; omega)]; rfl
                have h5d : decide (t < 0) = true := by simpa using h5
                go_wp2
                go_ret
                exact ⟨rfl, HB4.out⟩
              have h5d : decide (t < 0) = false := by simpa using h5
              have HNX := Lib.hid (show (rows.drop (k + 1)).all (fun r => decide (sumR r x ≤ r.c)) = V by rw [← HE.out, decide_eq_true (show sumR r x ≤ r.c by have := HT.out; omega), Bool.true_and])
              go_wp2
              go_roundw
              case rel => exact ⟨k + 1, by omega, by go_num, HNX.out, HB4.out⟩
              case measure => simp [intOf]; omega
        · obtain rfl : k = rows.length := by omega
          obtain rfl : V = true := by rw [← HZ.out, List.drop_length]; rfl
          go_wp2
          go_ret
          exact ⟨rfl, HB3.out⟩

end Go.Proofs.Ytjaeekikddbbeaa
