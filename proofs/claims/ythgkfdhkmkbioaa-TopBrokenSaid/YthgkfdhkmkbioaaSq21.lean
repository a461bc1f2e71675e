/- Sorting by a comparing function: the order of ranks. -/
import Derived.Test.YthgkfdhkmkbioaaSp21
namespace Go.Proofs.Ythgkfdhkmkbioaa
open Go.RowKit Go.Shelf
attribute [local go_sem] Oper.semAt_some

def ltC (cf : Int → Int → Int) (a b : Int) : Bool := decide (cf a b < 0)
set_option maxRecDepth 100000 in
set_option maxHeartbeats 4000000 in
theorem insCmp_any (cf : Int → Int → Int) (b4 b5 : Nat) (n cap g B : Nat) (l : List Int) (hl : l.length = n) (hn : n ≤ 1000) (w : World) (hcmp : ∀ W, Below B w W → ∀ x y, x ∈ l → y ∈ l → Calls Try.prog 68 #[.int .i64 x, .int .i64 y, .pointer (some ⟨b4, 0, none⟩), .pointer (some ⟨b5, 0, none⟩)] W (Ret (.int .i64 (cf x y)) W)) (hr : w.ownsRow B 3 1 (.slice (some ⟨g, 0, none⟩) n cap) n (intsV l)) (hB : B ≤ w.heap.size) : Calls Try.prog 81 #[.slice (some ⟨g, 0, none⟩) n cap, .int .i64 0, .int .i64 (n : Nat), .func (.func 68) #[] #[.pointer (some ⟨b4, 0, none⟩), .pointer (some ⟨b5, 0, none⟩)]] w (fun e w' => e = .returned (.tuple #[]) ∧ Below B w w' ∧ w'.ownsRow B 3 1 (.slice (some ⟨g, 0, none⟩) n cap) n (intsV (insS (ltC cf) l n))) := by
  have HR := Lib.hid hr
  have HGB := Lib.hid (hr.lt g rfl).1
  have HL := Lib.hid hl
  have HCMP := Lib.hid hcmp
  clear hr hcmp
  go_enter Try.func81, Try.ntmps81
  go_wp2_with fail
  go_loopw [8] (fun i wr => ∃ k : Nat, 1 ≤ k ∧ (k ≤ n ∨ k = 1) ∧ i = .int .i64 k ∧ Below B w wr ∧ wr.ownsRow B 3 1 (.slice (some ⟨g, 0, none⟩) n cap) n (intsV (insS (ltC cf) l k))) (fun i _ => n - (intOf i).toNat)
  case atStart => exact ⟨1, Nat.le_refl _, .inr rfl, rfl, Below.refl _ _, HR.out⟩
  case round =>
    obtain ⟨k, hk1, hk, rfl, hb, hrow⟩ := hrel
    obtain ⟨wA, rfl⟩ : ∃ wA : World, wA = wr := ⟨_, rfl⟩
    have HB := Lib.hid hb
    have HRW := Lib.hid hrow
    clear hb hrow HR
    by_cases hlt : k < n
    · have HLA := Lib.hid (insS_len (ltC cf) l k)
      have HSK := Lib.hid (show sink (ltC cf) (insS (ltC cf) l k) k = insS (ltC cf) l (k + 1) from rfl)
      have HPA := Lib.hid (show (insS (ltC cf) l k).Perm l from insS_perm (by omega))
      go_wp2_with fail
      go_loopw [9] (fun jv wr => ∃ (j : Nat) (c : List Int), j ≤ k ∧ jv = .int .i64 j ∧ c.length = n ∧ c.Perm l ∧ sink (ltC cf) c j = insS (ltC cf) l (k + 1) ∧ Below B w wr ∧ wr.ownsRow B 3 1 (.slice (some ⟨g, 0, none⟩) n cap) n (intsV c)) (fun jv _ => (intOf jv).toNat)
      case atStart => exact ⟨k, _, Nat.le_refl _, rfl, HLA.out.trans HL.out, HPA.out, HSK.out, HB.out, HRW.out⟩
      case round =>
        obtain ⟨j, c, hj, rfl, hlc, hpm, hsk, hb, hrow⟩ := hrel
        obtain ⟨wB, rfl⟩ : ∃ wB : World, wB = wr := ⟨_, rfl⟩
        clear HB HRW HLA HSK HPA
        have HPM := Lib.hid hpm
        clear hpm
        have HB := Lib.hid hb
        have HRW := Lib.hid hrow
        have HLC := Lib.hid hlc
        have HSK := Lib.hid hsk
        clear hb hrow hlc hsk hl
        cases j with
        | zero =>
          have y1 : decide ((0 : Int) < ((0 : Nat) : Int)) = false := rfl
          have HB2 := Lib.hid (fun nq => below_drewN HB.out nq)
          have HR2 := Lib.hid (fun nq => ownsRow_later HRW.out (below_drewN (Below.refl wB.heap.size wB) nq))
          go_wp2_with fail
          go_quiet (fail)
          go_wp2
          go_roundw
          case rel => exact ⟨k + 1, by omega, .inl hlt, by go_num, HB2.out _, by rw [← HSK.out]; exact HR2.out _⟩
          case measure => exact meas_ltS hlt
        | succ j =>
          have c1 := row_cell HRW.out HLC.out (j := j + 1) (by omega)
          have c0 := row_cell HRW.out HLC.out (j := j) (by omega)
          have HJK := Lib.hid (show j < n by omega)
          have HJK2 := Lib.hid (show j + 1 ≤ k from hj)
          have HD := Lib.hid (show sink (ltC cf) c (j + 1) = if (ltC cf) (c.getD (j + 1) 0) (c.getD j 0) = true then sink (ltC cf) (swapL c (j + 1)) j else c from rfl)
          have HSW := Lib.hid (show swapL c (j + 1) = (c.set (j + 1) (c.getD j 0)).set j (c.getD (j + 1) 0) by unfold swapL; rw [Nat.add_sub_cancel])
          have HXM := Lib.hid (show c.getD (j + 1) 0 ∈ l from HPM.out.mem_iff.1 (by rw [getD_at (by have := HLC.out; omega)]; exact List.getElem_mem _))
          have HYM := Lib.hid (show c.getD j 0 ∈ l from HPM.out.mem_iff.1 (by rw [getD_at (by have := HLC.out; omega)]; exact List.getElem_mem _))
          have HSP := Lib.hid (show (swapL c (j + 1)).Perm l from (swapL_perm (by have := HLC.out; omega)).trans HPM.out)
          obtain ⟨x, hx⟩ : ∃ x, c.getD (j + 1) 0 = x := ⟨_, rfl⟩
          obtain ⟨y, hy⟩ : ∃ y, c.getD j 0 = y := ⟨_, rfl⟩
          rw [hx] at c1 HD HSW HXM
          rw [hy] at c0 HD HSW HYM
          have HSK2 := Lib.hid (HD.out.symm.trans HSK.out)
          clear hx hy HD HSK
          obtain ⟨M, hM⟩ : ∃ M, j + 1 = M := ⟨_, rfl⟩
          rw [hM] at c1 hj HSW HSK2 HJK2 HSP ⊢
          have HM := Lib.hid hM
          have y1 : decide ((0 : Int) < (M : Int)) = true := decide_eq_true (by omega)
          have y1b : decide (0 < M) = true := decide_eq_true (by omega)
          have y1c : 0 < M := by omega
          have e1 : IntKind.i64.wrap ((M : Int) - 1) = (j : Int) := by rw [show (M : Int) - 1 = (j : Int) by omega]; exact IntWalk.i64_in _ (by omega)
          have y2 : (0 : Int) ≤ (M : Int) := by omega
          have y3 : (M : Int) < (n : Int) := by omega
          have y4 : (0 : Int) ≤ (j : Int) := by omega
          have y5 : (j : Int) < (n : Int) := by omega
          clear hM hj
          have HCX := Lib.hid (fun (w' : World) (hw : Below wB.heap.size wB w') => HCMP.out w' (HB.out.trans (hw.mono (Nat.le_trans hB HB.out.size))) x y HXM.out HYM.out)
          by_cases hc : cf x y < 0
          · have dc : decide (cf x y < 0) = true := decide_eq_true hc
            rw [if_pos (show ltC cf x y = true from dc)] at HSK2
            clear hc
            go_wp2_with fail
            refine wp_region_B 17 (fun w'' => Below wB.heap.size wB w'') mixed (by kernel_rfl) (below_closed wB) (Below.refl _ _).drew ?_
            simp only [List.take_succ_cons, List.take_zero, List.drop_succ_cons, List.drop_zero]
            intro KR hR
            have HR := Lib.hid hR
            clear hR
            have HCC := Lib.hid (show ∀ w'', Below wB.heap.size wB w'' → w''.cell? ⟨g, M, none⟩ = some (.int .i64 x) ∧ w''.cell? ⟨g, j, none⟩ = some (.int .i64 y) from fun w'' hw => ⟨cell_kept hw c1, cell_kept hw c0⟩)
            apply wpB_val rfl
            · (intro w' hw'; go_simp; with_reducible rfl)
            simp only [Act.put, List.setIfInBounds_toArray, List.set_cons_zero, List.set_cons_succ]
            apply wpB_val rfl
            · (intro w' hw'; go_simp; with_reducible rfl)
            simp only [Act.put, List.setIfInBounds_toArray, List.set_cons_zero, List.set_cons_succ]
            apply wpB_val rfl
            · (intro w' hw'; go_simp; with_reducible rfl)
            simp only [Act.put, List.setIfInBounds_toArray, List.set_cons_zero, List.set_cons_succ]
            apply wpB_val rfl
            · (intro w' hw'; go_simp; with_reducible rfl)
            simp only [Act.put, List.setIfInBounds_toArray, List.set_cons_zero, List.set_cons_succ]
            apply wpB_val rfl
            · (intro w' hw'; go_simp; with_reducible rfl)
            simp only [Act.put, List.setIfInBounds_toArray, List.set_cons_zero, List.set_cons_succ]
            apply wpB_val rfl
            · (intro w' hw'; go_simp; with_reducible rfl)
            simp only [Act.put, List.setIfInBounds_toArray, List.set_cons_zero, List.set_cons_succ]
            apply wpB_val rfl
            · (intro w' hw'; go_simp; with_reducible rfl)
            simp only [Act.put, List.setIfInBounds_toArray, List.set_cons_zero, List.set_cons_succ]
            apply wpB_val rfl
            · (intro w' hw'; go_simp; with_reducible rfl)
            simp only [Act.put, List.setIfInBounds_toArray, List.set_cons_zero, List.set_cons_succ]
            apply wpB_val rfl
            · (intro w' hw'; obtain ⟨c0, c1⟩ := HCC.out w' hw'; go_simp; with_reducible rfl)
            simp only [Act.put, List.setIfInBounds_toArray, List.set_cons_zero, List.set_cons_succ]
            apply wpB_val rfl
            · (intro w' hw'; go_simp; with_reducible rfl)
            simp only [Act.put, List.setIfInBounds_toArray, List.set_cons_zero, List.set_cons_succ]
            apply wpB_val rfl
            · (intro w' hw'; go_simp; with_reducible rfl)
            simp only [Act.put, List.setIfInBounds_toArray, List.set_cons_zero, List.set_cons_succ]
            apply wpB_val rfl
            · (intro w' hw'; go_simp; with_reducible rfl)
            simp only [Act.put, List.setIfInBounds_toArray, List.set_cons_zero, List.set_cons_succ]
            apply wpB_val rfl
            · (intro w' hw'; go_simp; with_reducible rfl)
            simp only [Act.put, List.setIfInBounds_toArray, List.set_cons_zero, List.set_cons_succ]
            apply wpB_val rfl
            · (intro w' hw'; obtain ⟨c0, c1⟩ := HCC.out w' hw'; go_simp; with_reducible rfl)
            simp only [Act.put, List.setIfInBounds_toArray, List.set_cons_zero, List.set_cons_succ]
            apply wpB_call 68 #[.int .i64 x, .int .i64 y, .pointer (some ⟨b4, 0, none⟩), .pointer (some ⟨b5, 0, none⟩)] rfl (v := .int .i64 (cf x y))
            · (intro w'; go_simp)
            · exact fun w' hw' => HCX.out w' hw'
            simp only [Act.put, List.setIfInBounds_toArray, List.set_cons_zero, List.set_cons_succ]
            apply wpB_val rfl
            · (intro w' hw'; go_simp; with_reducible rfl)
            simp only [Act.put, List.setIfInBounds_toArray, List.set_cons_zero, List.set_cons_succ]
            apply wpB_val rfl
            · (intro w' hw'; go_simp; with_reducible rfl)
            simp only [Act.put, List.setIfInBounds_toArray, List.set_cons_zero, List.set_cons_succ]
            refine wpB_nil (HR.out _ (fun w2 hw2 => ?_))
            clear HR HCC
            replace c0 := cell_kept hw2 c0
            replace c1 := cell_kept hw2 c1
            have HR2 := Lib.hid (ownsRow_later HRW.out hw2)
            have HB2 := Lib.hid (HB.out.trans (hw2.mono (Nat.le_trans hB HB.out.size)))
            have f0 := HR2.out.frozenAt j
            have f1 := HR2.out.frozenAt M
            have d0 : (w2.setCell ⟨g, M, none⟩ (.int .i64 y)).cell? ⟨g, j, none⟩ = some (.int .i64 y) := by
              rw [World.cell?_setCell_other _ _ _ _ (fun h => by injection h with _ h3; have := HM.out; omega)]
              exact c0
            have HFIN := Lib.hid (show ((w2.setCell ⟨g, M, none⟩ (.int .i64 y)).setCell ⟨g, j, none⟩ (.int .i64 x)).ownsRow B 3 1 (.slice (some ⟨g, 0, none⟩) n cap) n (intsV (swapL c M)) by
              rw [HSW.out, ← intsV_set, ← intsV_set]
              exact setB_row (setB_row HR2.out M _) j _)
            clear hw2
            go_wp2_with fail
            go_region
            all_goals
              go_wp2
              go_roundw
              case rel => exact ⟨j, _, by have := HJK2.out; have := HM.out; omega, rfl, by rw [swapL_len]; exact HLC.out, HSP.out, HSK2.out, ((HB2.out.setCell HGB.out _).setCell HGB.out _).drew, ownsRow_later HFIN.out (Below.refl _ _).drew⟩
              case measure => have := HM.out; simp [intOf]; omega
          · have dc : decide (cf x y < 0) = false := decide_eq_false hc
            rw [if_neg (show ¬ ltC cf x y = true by unfold ltC; rw [dc]; decide)] at HSK2
            clear hc
            go_wp2_with fail
            refine wp_region_B 17 (fun w'' => Below wB.heap.size wB w'') mixed (by kernel_rfl) (below_closed wB) (Below.refl _ _).drew ?_
            simp only [List.take_succ_cons, List.take_zero, List.drop_succ_cons, List.drop_zero]
            intro KR hR
            have HR := Lib.hid hR
            clear hR
            have HCC := Lib.hid (show ∀ w'', Below wB.heap.size wB w'' → w''.cell? ⟨g, M, none⟩ = some (.int .i64 x) ∧ w''.cell? ⟨g, j, none⟩ = some (.int .i64 y) from fun w'' hw => ⟨cell_kept hw c1, cell_kept hw c0⟩)
            apply wpB_val rfl
            · (intro w' hw'; go_simp; with_reducible rfl)
            simp only [Act.put, List.setIfInBounds_toArray, List.set_cons_zero, List.set_cons_succ]
            apply wpB_val rfl
            · (intro w' hw'; go_simp; with_reducible rfl)
            simp only [Act.put, List.setIfInBounds_toArray, List.set_cons_zero, List.set_cons_succ]
            apply wpB_val rfl
            · (intro w' hw'; go_simp; with_reducible rfl)
            simp only [Act.put, List.setIfInBounds_toArray, List.set_cons_zero, List.set_cons_succ]
            apply wpB_val rfl
            · (intro w' hw'; go_simp; with_reducible rfl)
            simp only [Act.put, List.setIfInBounds_toArray, List.set_cons_zero, List.set_cons_succ]
            apply wpB_val rfl
            · (intro w' hw'; go_simp; with_reducible rfl)
            simp only [Act.put, List.setIfInBounds_toArray, List.set_cons_zero, List.set_cons_succ]
            apply wpB_val rfl
            · (intro w' hw'; go_simp; with_reducible rfl)
            simp only [Act.put, List.setIfInBounds_toArray, List.set_cons_zero, List.set_cons_succ]
            apply wpB_val rfl
            · (intro w' hw'; go_simp; with_reducible rfl)
            simp only [Act.put, List.setIfInBounds_toArray, List.set_cons_zero, List.set_cons_succ]
            apply wpB_val rfl
            · (intro w' hw'; go_simp; with_reducible rfl)
            simp only [Act.put, List.setIfInBounds_toArray, List.set_cons_zero, List.set_cons_succ]
            apply wpB_val rfl
            · (intro w' hw'; obtain ⟨c0, c1⟩ := HCC.out w' hw'; go_simp; with_reducible rfl)
            simp only [Act.put, List.setIfInBounds_toArray, List.set_cons_zero, List.set_cons_succ]
            apply wpB_val rfl
            · (intro w' hw'; go_simp; with_reducible rfl)
            simp only [Act.put, List.setIfInBounds_toArray, List.set_cons_zero, List.set_cons_succ]
            apply wpB_val rfl
            · (intro w' hw'; go_simp; with_reducible rfl)
            simp only [Act.put, List.setIfInBounds_toArray, List.set_cons_zero, List.set_cons_succ]
            apply wpB_val rfl
            · (intro w' hw'; go_simp; with_reducible rfl)
            simp only [Act.put, List.setIfInBounds_toArray, List.set_cons_zero, List.set_cons_succ]
            apply wpB_val rfl
            · (intro w' hw'; go_simp; with_reducible rfl)
            simp only [Act.put, List.setIfInBounds_toArray, List.set_cons_zero, List.set_cons_succ]
            apply wpB_val rfl
            · (intro w' hw'; obtain ⟨c0, c1⟩ := HCC.out w' hw'; go_simp; with_reducible rfl)
            simp only [Act.put, List.setIfInBounds_toArray, List.set_cons_zero, List.set_cons_succ]
            apply wpB_call 68 #[.int .i64 x, .int .i64 y, .pointer (some ⟨b4, 0, none⟩), .pointer (some ⟨b5, 0, none⟩)] rfl (v := .int .i64 (cf x y))
            · (intro w'; go_simp)
            · exact fun w' hw' => HCX.out w' hw'
            simp only [Act.put, List.setIfInBounds_toArray, List.set_cons_zero, List.set_cons_succ]
            apply wpB_val rfl
            · (intro w' hw'; go_simp; with_reducible rfl)
            simp only [Act.put, List.setIfInBounds_toArray, List.set_cons_zero, List.set_cons_succ]
            apply wpB_val rfl
            · (intro w' hw'; go_simp; with_reducible rfl)
            simp only [Act.put, List.setIfInBounds_toArray, List.set_cons_zero, List.set_cons_succ]
            refine wpB_nil (HR.out _ (fun w2 hw2 => ?_))
            clear HR HCC
            go_wp2
            go_roundw
            case rel => exact ⟨k + 1, by omega, .inl hlt, by go_num, HB.out.trans (hw2.mono (Nat.le_trans hB HB.out.size)), by rw [← HSK2.out]; exact ownsRow_later HRW.out hw2⟩
            case measure => exact meas_ltS hlt
    · have HKN : Hid (insS (ltC cf) l k = insS (ltC cf) l n) := Lib.hid (by
        rcases hk with h | h
        · rw [show k = n by omega]
        · subst h
          have h2 : n = 0 ∨ n = 1 := by omega
          rcases h2 with rfl | rfl <;> rfl)
      go_wp2
      go_end0
      exact ⟨rfl, HB.out, by rw [← HKN.out]; exact HRW.out⟩
end Go.Proofs.Ythgkfdhkmkbioaa
