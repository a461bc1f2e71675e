/- replan.Check: what Keep returns is right. -/
import Derived.Test.YthgkfdhkmkbioaaEx21
import Derived.BigQuiet
namespace Go.Proofs.Ythgkfdhkmkbioaa
open Go.RowKit Go.Shelf
attribute [local go_sem] Oper.semAt_some

/-- Cuts behind a slice. -/
def CutsR (w : World) (o : Option Addr) (L : List Ct) : Prop := ∀ i, i < L.length → ∃ b off o1 o2 k1 k2, o = some ⟨b, off, none⟩ ∧ w.cell? ⟨b, off + i * 2, none⟩ = some (.slice o1 (getC L i).2.1.length k1) ∧ w.cell? ⟨b, off + i * 2 + 1, none⟩ = some (.slice o2 (getC L i).2.2.length k2) ∧ Ints w o1 (natI (getC L i).2.1) ∧ Ints w o2 (natI (getC L i).2.2)
theorem CutsR.later {w w' : World} {o : Option Addr} {L : List Ct} (h : CutsR w o L) (hb : Below w.heap.size w w') : CutsR w' o L := fun i hi => by
  obtain ⟨b, off, o1, o2, k1, k2, h1, h2, h3, h4, h5⟩ := h i hi
  exact ⟨b, off, o1, o2, k1, k2, h1, cell_kept hb h2, cell_kept hb h3, h4.later hb, h5.later hb⟩
theorem CutsM.rows {base : Nat} {W : World} {o : Option Addr} {c : Nat} {CL : List Ct} {vs : List (Value × Value)} (h : CutsM base W (.slice o CL.length c) CL vs) : CutsR W o CL := fun i hi => by
  have hg := flatC_get (vs := vs) (i := i) (by rw [h.len]; exact hi)
  obtain ⟨g, h1, _, c0⟩ := ownsRow_cellQ h.row hg.1
  obtain ⟨g1, e1, _, c1⟩ := ownsRow_cellQ h.row hg.2
  rw [h1] at e1
  cases e1
  have ha := (h.at' i hi).1
  have hb := (h.at' i hi).2
  obtain ⟨o1, k1, e1, _⟩ := ownsRow_shapeQ ha
  obtain ⟨o2, k2, e2, _⟩ := ownsRow_shapeQ hb
  rw [e1] at ha c0
  rw [e2] at hb c1
  exact ⟨g, 0, o1, o2, k1, k2, h1, by rw [Nat.zero_add]; exact c0, by rw [Nat.zero_add]; exact c1, row_ints ha, row_ints hb⟩
theorem CutsR.tail {w : World} {b off : Nat} {x : Ct} {L : List Ct} (h : CutsR w (some ⟨b, off, none⟩) (x :: L)) : CutsR w (some ⟨b, off + 2, none⟩) L := fun i hi => by
  obtain ⟨b', off', o1, o2, k1, k2, h1, h2, h3, h4, h5⟩ := h (i + 1) (by simpa using hi)
  cases h1
  refine ⟨b, off + 2, o1, o2, k1, k2, rfl, ?_, ?_, h4, h5⟩
  · rw [show off + 2 + i * 2 = off + (i + 1) * 2 by omega]; exact h2
  · rw [show off + 2 + i * 2 + 1 = off + (i + 1) * 2 + 1 by omega]; exact h3
theorem ints_prefix {w : World} {o : Option Addr} {a b : List Int} (h : Ints w o (a ++ b)) : Ints w o a := fun i hi => by
  obtain ⟨g, off, h1, h2⟩ := h i (by rw [List.length_append]; omega)
  rw [List.getD_eq_getElem?_getD, List.getElem?_append_left hi, ← List.getD_eq_getElem?_getD] at h2
  exact ⟨g, off, h1, h2⟩
/-- What is kept behind the k-th number of the order. -/
theorem keeps_case {J : List Jb} {S : List Int} {K1 K : List Nat} {CL1 CL : List Ct} {k : Nat} (hk : k < J.length) (h : KeepsF J S K1 CL1 ((ordN J).drop k) K CL) :
    (∃ M, K = K1 ++ (ordN J).getD k 0 :: M ∧ KeepsF J S (K1 ++ [(ordN J).getD k 0]) CL1 ((ordN J).drop (k + 1)) K CL) ∨
    ((K1.length < K.length → K.getD K1.length 0 ≠ (ordN J).getD k 0) ∧ ∃ M cl tl D, K = K1 ++ M ∧ CL = CL1 ++ ((ordN J).getD k 0, cl, tl) :: D ∧ CutFor J S K1 ((ordN J).getD k 0) cl tl ∧ KeepsF J S K1 (CL1 ++ [((ordN J).getD k 0, cl, tl)]) ((ordN J).drop (k + 1)) K CL) := by
  have hkl : k < (ordN J).length := by rw [ordN_len]; exact hk
  rcases (keeps_drop hkl).1 h with ⟨_, h2⟩ | ⟨cl, tl, h1, _, h2⟩
  · obtain ⟨M, hM, _⟩ := keeps_more h2
    exact .inl ⟨M, by rw [hM]; simp, h2⟩
  · obtain ⟨M, hM, hs⟩ := keeps_more h2
    obtain ⟨D, hD, _⟩ := keeps_cuts h2
    refine .inr ⟨fun hlt e => ?_, M, cl, tl, D, hM, by rw [hD]; simp, h1, h2⟩
    have hmem : K.getD K1.length 0 ∈ M := by
      rw [hM] at hlt ⊢
      rw [List.length_append] at hlt
      rw [List.getD_eq_getElem?_getD, List.getElem?_append_right (Nat.le_refl _), Nat.sub_self, List.getElem?_eq_getElem (by omega)]
      exact List.getElem_mem _
    have h3 := hs.subset hmem
    rw [e] at h3
    have hnd := ordN_nodup J
    rw [← List.take_append_drop (k + 1) (ordN J), ordN_take hk] at hnd
    exact (List.nodup_append.1 hnd).2.2 _ (by simp) _ h3 rfl
structure ChkI (w wr : World) (J : List Jb) (S : List Int) (K : List Nat) (CL : List Ct) (oo : Option Addr) (k a : Nat) (cv : Value) : Prop where
  bel : Below w.heap.size w wr
  oi : Ints wr oo (ordJ J)
  ex : ∃ K1 CL1 L o c, K1.length = a ∧ CL = CL1 ++ L ∧ cv = .slice o L.length c ∧ L.length ≤ c ∧ CutsR wr o L ∧ (∃ M, K = K1 ++ M) ∧ KeepsF J S K1 CL1 ((ordN J).drop k) K CL
set_option maxRecDepth 100000 in
set_option maxHeartbeats 16000000 in
theorem chk_ok (w : World) (J : List Jb) (S : List Int) (K : List Nat) (CL : List Ct) (oj os ok oc : Option Addr) (cj cs ck cc : Nat) (hj : JobsM w oj J) (hs : Ints w os S) (hk : Ints w ok (natI K)) (hc : CutsR w oc CL) (hv : ValidP J S) (h : KeepsF J S [] [] (ordN J) K CL) (hck : K.length ≤ ck) (hcc : CL.length ≤ cc) :
    Calls Try.prog 14 #[.slice oj J.length cj, .slice os S.length cs, .slice ok K.length ck, .slice oc CL.length cc] w (Ret (.bool true) w) := by
  have HJ := Lib.hid hj
  have HS := Lib.hid hs
  have HK := Lib.hid hk
  have HC := Lib.hid hc
  have HV := Lib.hid hv
  have HKF := Lib.hid h
  have hn12 := hv.j12
  have hcount : K.length + CL.length = J.length := by
    have := keeps_count h
    rw [ordN_len] at this
    simpa using this
  have HFE := Lib.hid (keeps_feas h (KeptOk.zero hv).feas)
  have HKB := Lib.hid (show ∀ x ∈ K, x < J.length from fun x hx => by
    obtain ⟨M, hM, hs⟩ := keeps_more h
    rw [List.nil_append] at hM
    rw [hM] at hx
    exact ordN_lt (hs.subset hx))
  clear hj hs hk hc hv h
  have HVA := Lib.hid (pvalid_any J S oj os cj cs w HJ.out HS.out)
  rw [validP_iff.2 HV.out] at HVA
  have hkl : K.length ≤ 12 := by omega
  have hcl : CL.length ≤ 12 := by omega
  have e1 : (((K.length : Int) + (CL.length : Int)) != (J.length : Int)) = false := by rw [show (K.length : Int) + (CL.length : Int) = (J.length : Int) by omega]; simp
  go_enter Try.func14, Try.ntmps14
  go_wp2_with fail
  go_step3
  go_wp2_with fail
  refine HVA.out.mono ?_
  rintro _ W1 ⟨rfl, hb1⟩
  have HB1 := Lib.hid hb1
  have HIO := Lib.hid (inOrder_any J oj cj W1 (HJ.out.later hb1) hn12)
  clear hb1 HVA
  go_wp2_with fail
  go_step3
  go_wp2_with fail
  refine HIO.out.mono ?_
  rintro _ W2 ⟨hb2, ov, rfl, hro⟩
  obtain ⟨oo, co, rfl, _⟩ := ownsRow_shapeQ hro
  have HOL := Lib.hid (ordJ_len J)
  rw [HOL.out]
  have HCI : Hid (ChkI w W2 J S K CL oo 0 0 (.slice oc CL.length cc)) := Lib.hid ⟨below_step HB1.out hb2, row_ints hro, [], [], CL, oc, cc, rfl, rfl, rfl, hcc, HC.out.later (below_step HB1.out hb2), ⟨K, rfl⟩, by rw [List.drop_zero]; exact HKF.out⟩
  have HB2 := Lib.hid (below_step HB1.out hb2)
  clear hb2 hro HIO HB1 e1 HB2
  go_wp2_with fail
  go_loopw [3, 9, 33] (fun cv av iv wr => ∃ k a : Nat, k ≤ J.length ∧ iv = .int .i64 k ∧ av = .int .i64 a ∧ ChkI w wr J S K CL oo k a cv) (fun _ _ iv _ => J.length - (intOf iv).toNat)
  case atStart => exact ⟨0, 0, Nat.zero_le _, rfl, rfl, HCI.out⟩
  case round =>
    obtain ⟨k, a, hk, rfl, rfl, hci⟩ := hrel
    obtain ⟨wA, rfl⟩ : ∃ wA : World, wA = wr := ⟨_, rfl⟩
    clear HCI
    obtain ⟨K1, CL1, L, o, c, rfl, hCL, rfl, hLc, hcr, hM, hkf⟩ := hci.ex
    have HB := Lib.hid hci.bel
    have HOI := Lib.hid hci.oi
    have HKN := Lib.hid hkf
    have HM := Lib.hid hM
    have HCR := Lib.hid hcr
    have HCLE := Lib.hid hCL
    clear hci hkf hM hcr hCL
    by_cases hlt : k < J.length
    · obtain ⟨bo, offo, rfl, i0⟩ := HOI.out k (by rw [HOL.out]; exact hlt)
      rw [← ordN_int, natI_get (by rw [ordN_len]; exact hlt)] at i0
      have HCASE := Lib.hid (keeps_case hlt HKN.out)
      have hxb : (ordN J).getD k 0 < J.length := ordN_lt (by rw [List.getD_eq_getElem?_getD, List.getElem?_eq_getElem (by rw [ordN_len]; exact hlt)]; exact List.getElem_mem _)
      obtain ⟨x, hx⟩ : ∃ x, (ordN J).getD k 0 = x := ⟨_, rfl⟩
      rw [hx] at i0 HCASE hxb
      clear hx HKN
      have y1 : (0 : Int) ≤ (k : Int) := by omega
      have y2 : (k : Int) < (J.length : Int) := by omega
      have z1 : (0 : Int) ≤ (K1.length : Int) := by omega
      rcases HCASE.out with ⟨M, hKM, hkf⟩ | ⟨hne, M, cl, tl, D, hKM, hCLD, hcf, hkf⟩
      · have hal : K1.length < K.length := by rw [hKM]; simp
        obtain ⟨bk, offk, rfl, t0⟩ := (HK.out.later HB.out) K1.length (by rw [natI_length]; exact hal)
        rw [natI_get hal, show K.getD K1.length 0 = x by rw [hKM, List.getD_eq_getElem?_getD, List.getElem?_append_right (Nat.le_refl _), Nat.sub_self]; rfl] at t0
        have d1 : decide ((K1.length : Int) < (K.length : Int)) = true := decide_eq_true (by omega)
        have z2 : (K1.length : Int) < (K.length : Int) := by omega
        have HP5 : Hid (ChkI w wA J S K CL (some ⟨bo, offo, none⟩) (k + 1) (K1.length + 1) (.slice o L.length c)) := Lib.hid ⟨HB.out, HOI.out, K1 ++ [x], CL1, L, o, c, by simp, HCLE.out, rfl, hLc, HCR.out, ⟨M, by rw [hKM]; simp⟩, hkf⟩
        clear HCASE HM hkf hKM
        go_wp2
        go_round
        case rel => exact ⟨k + 1, K1.length + 1, hlt, by go_num, by go_num, HP5.out⟩
        case measure => exact meas_lt hlt
      · have HKN := Lib.hid hkf
        have HCF := Lib.hid hcf
        have hLE : L = (x, cl, tl) :: D := List.append_cancel_left (HCLE.out.symm.trans hCLD)
        subst hLE
        obtain ⟨cb, coff, o1, o2, k1, k2, rfl, q0, q1, qi1, qi2⟩ := HCR.out 0 (by simp)
        rw [Nat.zero_mul, Nat.add_zero] at q0 q1
        have HQ1 := Lib.hid (show Ints wA o1 (natI cl) from qi1)
        have HQ2 := Lib.hid (show Ints wA o2 (natI tl) from qi2)
        replace q0 : wA.cell? ⟨cb, coff, none⟩ = some (.slice o1 cl.length k1) := q0
        replace q1 : wA.cell? ⟨cb, coff + 1, none⟩ = some (.slice o2 tl.length k2) := q1
        have hK1 : K1.length ≤ K.length := by rw [hKM]; simp
        have hkc : K1.length ≤ ck := by omega
        have hkci : (K1.length : Int) ≤ (ck : Int) := by omega
        have HKP := Lib.hid (show Ints w ok (natI K1) by have := HK.out; rw [hKM] at this; unfold natI at this ⊢; rw [List.map_append] at this; exact ints_prefix this)
        have HEX := Lib.hid (fun (w' : World) (hw : Below wA.heap.size wA w') => explains_ok w' J S cl tl K1 x oj os o1 o2 ok cj cs k1 k2 ck (HJ.out.later (below_step HB.out hw)) (HS.out.later (below_step HB.out hw)) (HQ1.out.later hw) (HQ2.out.later hw) (HKP.out.later (below_step HB.out hw)) HV.out HCF.out (by omega) (by omega))
        have HDL := Lib.hid (show ((x, cl, tl) :: D).length = D.length + 1 from rfl)
        obtain ⟨LL, hLL⟩ : ∃ n, ((x, cl, tl) :: D).length = n := ⟨_, rfl⟩
        have HTL := Lib.hid HCR.out.tail
        have HCLD := Lib.hid hCLD
        rw [hLL] at HDL hLc ⊢
        have hd1 : LL = D.length + 1 := HDL.out
        clear hLL HCR HCLE qi1 qi2 HCASE hcf hkf hCLD hKM
        have l0 : ((LL : Int) == 0) = false := beq_eq_false_iff_ne.2 (by omega)
        have l0n : (LL == 0) = false := beq_eq_false_iff_ne.2 (by omega)
        have l1 : (0 : Int) < (LL : Int) := by omega
        by_cases hal : K1.length < K.length
        · have hne' := hne hal
          obtain ⟨bk, offk, rfl, t0⟩ := (HK.out.later HB.out) K1.length (by rw [natI_length]; exact hal)
          rw [natI_get hal] at t0
          obtain ⟨y, hy⟩ : ∃ y, K.getD K1.length 0 = y := ⟨_, rfl⟩
          rw [hy] at t0 hne'
          have d1 : decide ((K1.length : Int) < (K.length : Int)) = true := decide_eq_true (by omega)
          have z2 : (K1.length : Int) < (K.length : Int) := by omega
          have d2 : ((y : Int) == (x : Int)) = false := beq_eq_false_iff_ne.2 (by omega)
          have d2n : (y == x) = false := beq_eq_false_iff_ne.2 hne'
          clear hy hne hne'
          go_wp2_with fail
          refine wp_region_B 16 (fun w'' => Below wA.heap.size wA w'') mixed (by kernel_rfl) (below_closed wA) (Below.refl _ _).drew ?_
          simp only [List.take_succ_cons, List.take_zero, List.drop_succ_cons, List.drop_zero]
          intro KR hR
          have HR := Lib.hid hR
          clear hR
          have HCC := Lib.hid (show ∀ w'', Below wA.heap.size wA w'' → w''.cell? ⟨cb, coff, none⟩ = some (.slice o1 cl.length k1) ∧ w''.cell? ⟨cb, coff + 1, none⟩ = some (.slice o2 tl.length k2) from fun w'' hw => ⟨cell_kept hw q0, cell_kept hw q1⟩)
          apply wpB_val rfl
          · (intro w' hw'; go_simp; with_reducible rfl)
          simp only [Act.put, List.setIfInBounds_toArray, List.set_cons_zero, List.set_cons_succ]
          apply wpB_val rfl
          · (intro w' hw'; go_simp; with_reducible rfl)
          simp only [Act.put, List.setIfInBounds_toArray, List.set_cons_zero, List.set_cons_succ]
          apply wpB_val rfl
          · (intro w' hw'; go_simp; with_reducible rfl)
          simp only [Act.put, List.setIfInBounds_toArray, List.set_cons_zero, List.set_cons_succ]
          apply wpB_val rfl
          · (intro w' hw'; go_simp; with_reducible rfl)
          simp only [Act.put, List.setIfInBounds_toArray, List.set_cons_zero, List.set_cons_succ]
          apply wpB_val rfl
          · (intro w' hw'; go_simp; with_reducible rfl)
          simp only [Act.put, List.setIfInBounds_toArray, List.set_cons_zero, List.set_cons_succ]
          apply wpB_val rfl
          · (intro w' hw'; go_simp; with_reducible rfl)
          simp only [Act.put, List.setIfInBounds_toArray, List.set_cons_zero, List.set_cons_succ]
          apply wpB_val rfl
          · (intro w' hw'; go_simp; with_reducible rfl)
          simp only [Act.put, List.setIfInBounds_toArray, List.set_cons_zero, List.set_cons_succ]
          apply wpB_val rfl
          · (intro w' hw'; go_simp; with_reducible rfl)
          simp only [Act.put, List.setIfInBounds_toArray, List.set_cons_zero, List.set_cons_succ]
          apply wpB_val rfl
          · (intro w' hw'; obtain ⟨c0, c1⟩ := HCC.out w' hw'; go_simp; with_reducible rfl)
          simp only [Act.put, List.setIfInBounds_toArray, List.set_cons_zero, List.set_cons_succ]
          apply wpB_val rfl
          · (intro w' hw'; go_simp; with_reducible rfl)
          simp only [Act.put, List.setIfInBounds_toArray, List.set_cons_zero, List.set_cons_succ]
          apply wpB_val rfl
          · (intro w' hw'; go_simp; with_reducible rfl)
          simp only [Act.put, List.setIfInBounds_toArray, List.set_cons_zero, List.set_cons_succ]
          apply wpB_val rfl
          · (intro w' hw'; go_simp; with_reducible rfl)
          simp only [Act.put, List.setIfInBounds_toArray, List.set_cons_zero, List.set_cons_succ]
          apply wpB_val rfl
          · (intro w' hw'; go_simp; with_reducible rfl)
          simp only [Act.put, List.setIfInBounds_toArray, List.set_cons_zero, List.set_cons_succ]
          apply wpB_call 34 #[.slice oj J.length cj, .slice os S.length cs, .agg #[.slice o1 cl.length k1, .slice o2 tl.length k2], .int .i64 (x : Nat), .slice (some ⟨bk, offk, none⟩) K1.length ck] rfl (v := .bool true)
          · (intro w'; go_simp)
          · exact fun w' hw' => HEX.out w' hw'
          simp only [Act.put, List.setIfInBounds_toArray, List.set_cons_zero, List.set_cons_succ]
          apply wpB_val rfl
          · (intro w' hw'; go_simp; with_reducible rfl)
          simp only [Act.put, List.setIfInBounds_toArray, List.set_cons_zero, List.set_cons_succ]
          apply wpB_val rfl
          · (intro w' hw'; go_simp; with_reducible rfl)
          simp only [Act.put, List.setIfInBounds_toArray, List.set_cons_zero, List.set_cons_succ]
          refine wpB_nil (HR.out _ (fun w2 hw2 => ?_))
          clear HR HCC
          have HB2 := Lib.hid (below_step HB.out hw2)
          have HO2 := Lib.hid (HOI.out.later hw2)
          have HTL2 := Lib.hid (HTL.out.later hw2)
          clear hw2 HEX q0 q1 HOI HTL
          subst hd1
          by_cases hc1 : c = 1
          · subst hc1
            obtain rfl : D = [] := List.eq_nil_of_length_eq_zero (by omega)
            clear HTL2
            have HP5 : Hid (ChkI w w2 J S K CL (some ⟨bo, offo, none⟩) (k + 1) K1.length (.slice (some ⟨cb, coff, none⟩) 0 0)) := Lib.hid ⟨HB2.out, HO2.out, K1, CL1 ++ [(x, cl, tl)], [], some ⟨cb, coff, none⟩, 0, rfl, by rw [HCLD.out]; simp, rfl, Nat.le_refl _, (fun i hi => absurd hi (Nat.not_lt_zero _)), HM.out, HKN.out⟩
            clear HM HKN HCLD HO2 HB2
            go_wp2
            go_round
            case rel => exact ⟨k + 1, K1.length, hlt, by go_num, rfl, HP5.out⟩
            case measure => exact meas_lt hlt
          · skip
            have HP5 : Hid (ChkI w w2 J S K CL (some ⟨bo, offo, none⟩) (k + 1) K1.length (.slice (some ⟨cb, coff + 2, none⟩) D.length (c - 1))) := Lib.hid ⟨HB2.out, HO2.out, K1, CL1 ++ [(x, cl, tl)], D, _, _, rfl, by rw [HCLD.out]; simp, rfl, by omega, HTL2.out, HM.out, HKN.out⟩
            clear HM HKN HCLD HO2 HB2
            go_wp2
            go_round
            case rel => exact ⟨k + 1, K1.length, hlt, by go_num, rfl, HP5.out⟩
            case measure => exact meas_lt hlt
        · have d1 : decide ((K1.length : Int) < (K.length : Int)) = false := decide_eq_false (by omega)
          clear hne
          go_wp2_with fail
          refine wp_region_B 16 (fun w'' => Below wA.heap.size wA w'') mixed (by kernel_rfl) (below_closed wA) (Below.refl _ _).drew ?_
          simp only [List.take_succ_cons, List.take_zero, List.drop_succ_cons, List.drop_zero]
          intro KR hR
          have HR := Lib.hid hR
          clear hR
          have HCC := Lib.hid (show ∀ w'', Below wA.heap.size wA w'' → w''.cell? ⟨cb, coff, none⟩ = some (.slice o1 cl.length k1) ∧ w''.cell? ⟨cb, coff + 1, none⟩ = some (.slice o2 tl.length k2) from fun w'' hw => ⟨cell_kept hw q0, cell_kept hw q1⟩)
          apply wpB_val rfl
          · (intro w' hw'; go_simp; with_reducible rfl)
          simp only [Act.put, List.setIfInBounds_toArray, List.set_cons_zero, List.set_cons_succ]
          apply wpB_val rfl
          · (intro w' hw'; go_simp; with_reducible rfl)
          simp only [Act.put, List.setIfInBounds_toArray, List.set_cons_zero, List.set_cons_succ]
          apply wpB_val rfl
          · (intro w' hw'; go_simp; with_reducible rfl)
          simp only [Act.put, List.setIfInBounds_toArray, List.set_cons_zero, List.set_cons_succ]
          apply wpB_val rfl
          · (intro w' hw'; go_simp; with_reducible rfl)
          simp only [Act.put, List.setIfInBounds_toArray, List.set_cons_zero, List.set_cons_succ]
          apply wpB_val rfl
          · (intro w' hw'; go_simp; with_reducible rfl)
          simp only [Act.put, List.setIfInBounds_toArray, List.set_cons_zero, List.set_cons_succ]
          apply wpB_val rfl
          · (intro w' hw'; go_simp; with_reducible rfl)
          simp only [Act.put, List.setIfInBounds_toArray, List.set_cons_zero, List.set_cons_succ]
          apply wpB_val rfl
          · (intro w' hw'; go_simp; with_reducible rfl)
          simp only [Act.put, List.setIfInBounds_toArray, List.set_cons_zero, List.set_cons_succ]
          apply wpB_val rfl
          · (intro w' hw'; go_simp; with_reducible rfl)
          simp only [Act.put, List.setIfInBounds_toArray, List.set_cons_zero, List.set_cons_succ]
          apply wpB_val rfl
          · (intro w' hw'; obtain ⟨c0, c1⟩ := HCC.out w' hw'; go_simp; with_reducible rfl)
          simp only [Act.put, List.setIfInBounds_toArray, List.set_cons_zero, List.set_cons_succ]
          apply wpB_val rfl
          · (intro w' hw'; go_simp; with_reducible rfl)
          simp only [Act.put, List.setIfInBounds_toArray, List.set_cons_zero, List.set_cons_succ]
          apply wpB_val rfl
          · (intro w' hw'; go_simp; with_reducible rfl)
          simp only [Act.put, List.setIfInBounds_toArray, List.set_cons_zero, List.set_cons_succ]
          apply wpB_val rfl
          · (intro w' hw'; go_simp; with_reducible rfl)
          simp only [Act.put, List.setIfInBounds_toArray, List.set_cons_zero, List.set_cons_succ]
          apply wpB_val rfl
          · (intro w' hw'; go_simp; with_reducible rfl)
          simp only [Act.put, List.setIfInBounds_toArray, List.set_cons_zero, List.set_cons_succ]
          apply wpB_call 34 #[.slice oj J.length cj, .slice os S.length cs, .agg #[.slice o1 cl.length k1, .slice o2 tl.length k2], .int .i64 (x : Nat), .slice ok K1.length ck] rfl (v := .bool true)
          · (intro w'; go_simp)
          · exact fun w' hw' => HEX.out w' hw'
          simp only [Act.put, List.setIfInBounds_toArray, List.set_cons_zero, List.set_cons_succ]
          apply wpB_val rfl
          · (intro w' hw'; go_simp; with_reducible rfl)
          simp only [Act.put, List.setIfInBounds_toArray, List.set_cons_zero, List.set_cons_succ]
          apply wpB_val rfl
          · (intro w' hw'; go_simp; with_reducible rfl)
          simp only [Act.put, List.setIfInBounds_toArray, List.set_cons_zero, List.set_cons_succ]
          refine wpB_nil (HR.out _ (fun w2 hw2 => ?_))
          clear HR HCC
          have HB2 := Lib.hid (below_step HB.out hw2)
          have HO2 := Lib.hid (HOI.out.later hw2)
          have HTL2 := Lib.hid (HTL.out.later hw2)
          clear hw2 HEX q0 q1 HOI HTL
          subst hd1
          by_cases hc1 : c = 1
          · subst hc1
            obtain rfl : D = [] := List.eq_nil_of_length_eq_zero (by omega)
            clear HTL2
            have HP5 : Hid (ChkI w w2 J S K CL (some ⟨bo, offo, none⟩) (k + 1) K1.length (.slice (some ⟨cb, coff, none⟩) 0 0)) := Lib.hid ⟨HB2.out, HO2.out, K1, CL1 ++ [(x, cl, tl)], [], some ⟨cb, coff, none⟩, 0, rfl, by rw [HCLD.out]; simp, rfl, Nat.le_refl _, (fun i hi => absurd hi (Nat.not_lt_zero _)), HM.out, HKN.out⟩
            clear HM HKN HCLD HO2 HB2
            go_wp2
            go_round
            case rel => exact ⟨k + 1, K1.length, hlt, by go_num, rfl, HP5.out⟩
            case measure => exact meas_lt hlt
          · skip
            have HP5 : Hid (ChkI w w2 J S K CL (some ⟨bo, offo, none⟩) (k + 1) K1.length (.slice (some ⟨cb, coff + 2, none⟩) D.length (c - 1))) := Lib.hid ⟨HB2.out, HO2.out, K1, CL1 ++ [(x, cl, tl)], D, _, _, rfl, by rw [HCLD.out]; simp, rfl, by omega, HTL2.out, HM.out, HKN.out⟩
            clear HM HKN HCLD HO2 HB2
            go_wp2
            go_round
            case rel => exact ⟨k + 1, K1.length, hlt, by go_num, rfl, HP5.out⟩
            case measure => exact meas_lt hlt
    · obtain rfl : k = J.length := by omega
      rw [List.drop_of_length_le (by rw [ordN_len]; exact Nat.le_refl _)] at HKN
      obtain ⟨hK, _⟩ := HKN.out
      subst hK
      have HJA := Lib.hid (HJ.out.later HB.out)
      have HSO := Lib.hid (some_any J K oj ok cj ck wA HJA.out (HK.out.later HB.out) (by omega) (by omega) HKB.out)
      have n0 : ((K.length : Int) != (K.length : Int)) = false := by simp
      go_wp2_with fail
      refine HSO.out.mono ?_
      rintro _ W5 ⟨hb5, v5, rfl, hr5⟩
      obtain ⟨o5, c5, rfl, _⟩ := ownsRow_shapeQ hr5
      have HB5 := Lib.hid (below_step HB.out hb5)
      have HSC := Lib.hid (sched_any W5 (pickJ J K) S o5 os c5 cs (row_jobs hr5) (HS.out.later HB5.out) (pick_valid HV.out HKB.out hkl))
      clear hb5 hr5 HSO HJA
      go_wp2_with fail
      refine HSC.out.mono ?_
      rintro _ W6 hso
      obtain ⟨hb6, AL, OB, L6, P, rfl, _⟩ := hso.good HFE.out
      have HB6 := Lib.hid (below_step HB5.out hb6)
      clear hb6 hso HSC
      go_wp2
      go_ret
      exact ⟨rfl, below_alloc HB6.out _⟩
end Go.Proofs.Ythgkfdhkmkbioaa
