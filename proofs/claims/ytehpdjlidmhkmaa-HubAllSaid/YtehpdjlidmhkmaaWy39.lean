/- Chapter 39: HubAll. -/
import Derived.Test.YtehpdjlidmhkmaaWu39
import Derived.Test.YtehpdjlidmhkmaaPlainG39
import Derived.Test.YtehpdjlidmhkmaaMap
namespace Go.Proofs.Ytehpdjlidmhkmaa
open Go.RowKit
attribute [local go_sem] Oper.semAt_some

theorem pairT : PairT Try.prog 38 39 4 3 := ⟨⟨Try.underlying39, by kernel_rfl, by kernel_rfl, by kernel_rfl⟩, Try.underlying3, ⟨Try.prog.types.size - 1, by kernel_rfl⟩, Try.underlying38⟩
def setF (S : Int → Int → Bool) : Int → Int → Option Value := fun a c => if S a c = true then some (.bool true) else none
theorem setF_put (S : Int → Int → Bool) (a c : Int) : putF (setF S) a c (.bool true) = setF (insS S a c) := by
  funext a' c'
  unfold putF setF insS
  by_cases h : a' = a ∧ c' = c <;> simp [h]
theorem setF_none : (fun _ _ => none : Int → Int → Option Value) = setF (fun _ _ => false) := by
  funext a c
  simp [setF]
@[reducible] def SMap (w : World) (b n : Nat) (S : Int → Int → Bool) : Prop := PMap Try.prog 39 w b n (setF S)
theorem SMap.look {w : World} {b n : Nat} {S : Int → Int → Bool} (h : SMap w b n S) {a c : Int} (ha : InR a) (hc : InR c) :
    (Instr.lookup 38 (.map (some b)) (.agg #[.int .i64 a, .int .i64 c]) false).run Try.prog w = .ok (.bool (S a c)) w := by
  have := PMap.look pairT h (z := .bool false) (by kernel_rfl) ha hc
  rw [this]
  unfold setF
  cases S a c <;> rfl

section
variable {w w' : World} {o : Option Addr} {b n : Nat} {f : Int → Int → Option Value}
theorem cell_turn {t : TypeId} (hg : w.grownBy w' (some b)) (hm : PMap Try.prog t w b n f) {q i : Nat} {v : Value} (h : w.cell? ⟨q, i, none⟩ = some v) : w'.cell? ⟨q, i, none⟩ = some v := by
  have hne := hm.notCells h rfl
  have hk : w'.heap[q]? = w.heap[q]? := hg.block q (cell_lt h) (fun e => hne (by injection e))
  exact (World.cell?_of_block (a := ⟨q, i, none⟩) hk).trans h
theorem Msgs.turn {t : TypeId} (hg : w.grownBy w' (some b)) (hm : PMap Try.prog t w b n f) {l : List Msg} (h : Msgs w o l) : Msgs w' o l := fun i hi => by
  obtain ⟨q, off, ho, c0, c1, c2⟩ := h i hi
  exact ⟨q, off, ho, cell_turn hg hm c0, cell_turn hg hm c1, cell_turn hg hm c2⟩
theorem Bxs.turn {t : TypeId} (hg : w.grownBy w' (some b)) (hm : PMap Try.prog t w b n f) {l : List Bx} (h : Bxs w o l) : Bxs w' o l := fun i hi => by
  obtain ⟨q, off, ho, oo, cp, h1, h2, h3, c0, c1, c2⟩ := h i hi
  exact ⟨q, off, ho, oo, cp, h1, h2, h3.turn hg hm, cell_turn hg hm c0, cell_turn hg hm c1, cell_turn hg hm c2⟩
end
theorem below_turn {W w w' : World} {b : Nat} (h : Below W.heap.size W w) (hg : w.grownBy w' (some b)) (hb : W.heap.size ≤ b) : Below W.heap.size W w' := h.grown hg h.size (fun k e => by cases e; exact hb)

/-- The loop of HubAll. -/
def AllRel (W : World) (B : Nat) (N : Nat) (up bx i : Value) (wr : World) : Prop :=
  ∃ (k : Nat) (oB : Option Addr) (cB : Nat) (lB : List Bx) (T O : Int → Int → Bool), k ≤ N ∧ i = .int .i64 k ∧ up = .bool true ∧ bx = .slice oB lB.length cB ∧ lB.length ≤ 64 ∧ Bxs wr oB lB ∧ AllAt lB T O ∧ SMap wr B k T ∧ SMap wr (B + 1) (66 * k) O ∧ Below W.heap.size W wr
/-- The loop over what is handed over. -/
def OvRel (W : World) (B k N : Nat) (oa : Option Addr) (LA : List Bx) (ox : Option Addr) (LX : List Msg) (T O : Int → Int → Bool) (j : Value) (wr : World) : Prop :=
  ∃ i : Nat, i ≤ LX.length ∧ j = .int .i64 i ∧ Bxs wr oa LA ∧ Msgs wr ox LX ∧ SMap wr B N T ∧ SMap wr (B + 1) (66 * k + i) (insL O (LX.take i)) ∧ Below W.heap.size W wr
/-- The loop over the numbers. -/
def NumRel (W : World) (x : Int) (up c : Value) (w2 : World) : Prop := up = .bool true ∧ w2 = W ∧ ∃ n : Int, 1 ≤ n ∧ n ≤ x ∧ c = .int .i64 n
theorem msgs_take {l : List Msg} {i : Nat} (h : i < l.length) : l.take (i + 1) = l.take i ++ [getM l i] := by
  rw [List.take_succ_eq_append_getElem h]
  simp [getM, h]

set_option maxRecDepth 100000 in
set_option maxHeartbeats 16000000 in
theorem all_walk (o : Option Addr) (cap : Nat) (l : List Msg) (w : World) (hr : Msgs w o l) (hl : l.length ≤ 9223372036854775807) : Calls Try.prog 5 #[.slice o l.length cap] w (Ret (.bool true) w) := by
  have HR := Lib.hid hr
  clear hr
  have hmm := @run_makeMap Try.prog
  go_enter Try.func5, Try.ntmps5
  go_wp2_with fail
  refine (head_any _).mono ?_
  rintro e x1 ⟨rfl, hb⟩
  have HW := Lib.hid hb
  clear hb
  by_cases h150 : 150 < l.length
  · have hd : decide ((150 : Int) < (l.length : Int)) = true := by rw [decide_eq_true_eq]; omega
    go_wp2
    go_ret
    exact ⟨rfl, HW.out⟩
  have hd : decide ((150 : Int) < (l.length : Int)) = false := by rw [decide_eq_false_iff_not]; omega
  go_wp2
  clear hd
  have HM5 := Lib.hid (show SMap ((x1.alloc (.map #[] 0)).alloc (.map #[] 0)) x1.heap.size 0 (fun _ _ => false) from by
    have := (PMap.made Try.prog 39 x1).later (below_alloc (Below.refl _ _) (.map #[] 0))
    rwa [setF_none] at this)
  have HM6 := Lib.hid (show SMap ((x1.alloc (.map #[] 0)).alloc (.map #[] 0)) (x1.heap.size + 1) (66 * 0) (fun _ _ => false) from by
    have := PMap.made Try.prog 39 (x1.alloc (.map #[] 0))
    rw [setF_none, World.size_alloc] at this
    exact this)
  have HB0 := Lib.hid (below_alloc (below_alloc (Below.refl x1.heap.size x1) (.map #[] 0)) (.map #[] 0))
  obtain ⟨B, hB⟩ : ∃ B, x1.heap.size = B := ⟨_, rfl⟩
  obtain ⟨W0, hW0⟩ : ∃ W0, W0 = (x1.alloc (.map #[] 0)).alloc (.map #[] 0) := ⟨_, rfl⟩
  rw [← hW0] at HM5 HM6 HB0 ⊢
  clear hW0
  have hBx : x1.heap.size ≤ B := by omega
  rw [hB] at HM5 HM6 ⊢
  clear hB
  clear hmm
  go_loopw [3, 4, 7] (AllRel x1 B l.length) (fun _ _ i _ => l.length - (intOf i).toNat)
  case atStart => exact ⟨0, none, 0, [], _, _, Nat.zero_le _, rfl, rfl, rfl, by simp, Bxs.nil, AllAt.start, HM5.out, HM6.out, HB0.out⟩
  case round =>
    obtain ⟨k, oB, cB, lB, T, O, hk, rfl, rfl, rfl, hlB, hbx, hat, hm5, hm6, hb⟩ := hrel
    clear HM5 HM6 HB0
    have HBX := Lib.hid hbx
    have HAT := Lib.hid hat
    have HM5 := Lib.hid hm5
    have HM6 := Lib.hid hm6
    have HB := Lib.hid hb
    clear hbx hat hm5 hm6 hb
    by_cases hlt : k < l.length
    · obtain ⟨g, off, hgo, c0, c1, c2⟩ := (HR.out.later (below_step HW.out HB.out)) k hlt
      subst hgo
      obtain ⟨m, hm⟩ : ∃ m, getM l k = m := ⟨_, rfl⟩
      have HGM := Lib.hid hm
      rw [hm] at c0 c1 c2
      clear hm
      have z1 : (0 : Int) ≤ (k : Int) := by omega
      have z2 : (k : Int) < (l.length : Int) := by omega
      go_wp2_with fail
      have HC0 := Lib.hid c0
      have HC1 := Lib.hid c1
      clear c0 c1 c2
      refine (Receive_any oB cB lB m wr HBX.out (by omega)).mono ?_
      rintro e x4 ⟨hb, oa, ox, ca, cx, rfl, hx, hy⟩
      replace HB := Lib.hid (below_step HB.out hb)
      replace HM5 := Lib.hid (HM5.out.later hb)
      replace HM6 := Lib.hid (HM6.out.later hb)
      replace HBX := Lib.hid (HBX.out.later hb)
      replace HC0 := Lib.hid (cell_kept hb HC0.out)
      replace HC1 := Lib.hid (cell_kept hb HC1.out)
      have HA := Lib.hid hx
      have HX := Lib.hid hy
      clear hb hx hy
      have hla := outL_le lB m
      have hlx := outM_le lB m
      obtain ⟨LA, hLA⟩ : ∃ L, outL lB m = L := ⟨_, rfl⟩
      obtain ⟨LX, hLX⟩ : ∃ L, outM lB m = L := ⟨_, rfl⟩
      obtain ⟨E, hE⟩ : ∃ E, recvE lB m = E := ⟨_, rfl⟩
      have HLA := Lib.hid hLA
      have HLX := Lib.hid hLX
      have HE := Lib.hid hE
      rw [hLA] at HA hla
      rw [hLX] at HX hlx
      rw [hLA, hLX, hE]
      clear hLA hLX hE
      by_cases hE0 : E = 0
      rotate_left
      · have hEb : (E != 0) = true := by simpa using hE0
        clear hE0
        go_wp2
        go_roundw
        case rel => exact ⟨k + 1, oB, cB, lB, T, O, by omega, by go_num, rfl, rfl, hlB, HBX.out, HAT.out, HM5.out.mono (by omega), HM6.out.mono (by omega), HB.out⟩
        case measure => simp [intOf]; omega
      subst hE0
      have HTK := Lib.hid (took HE.out)
      have HLA2 := Lib.hid (show LA = recvL lB m by rw [← HLA.out, outL_zero HE.out])
      have HLX2 := Lib.hid (show LX = overOf lB m by rw [← HLX.out, outM_zero HE.out])
      have HNX := Lib.hid (show AllAt LA (insS T m.f m.n) (insL O LX) by rw [HLA2.out, HLX2.out]; exact HAT.out.step HTK.out)
      have HVM := Lib.hid (validM_iff.1 HTK.out.vm)
      have hmf := HVM.out.1
      have hmn := HVM.out.2.1
      have hla64 := (validL_iff.1 HNX.out.valid).1
      have hlx65 : LX.length ≤ 65 := by
        have h1 := HTK.out.many
        have h2 := (validL_iff.1 HTK.out.vl).2.1
        rw [HLX2.out]
        omega
      have HKF := Lib.hid (fun (j : Nat) (hj : j < LX.length) => show InR (getM LX j).f ∧ InR (getM LX j).n from by
        have h1 := HTK.out.over
        have hj' : j < (ov (ofF lB m.f) m).length := by rw [← h1, ← HLX2.out]; exact hj
        obtain ⟨g1, g2, _⟩ := ov_at HTK.out.waits HTK.out.ge hj'
        have h3 := (validB_iff.1 HTK.out.box).2.1
        have e : getM LX j = getM (ov (ofF lB m.f) m) j := by rw [HLX2.out, h1]
        rw [e, g1, g2]
        exact ⟨⟨by omega, by omega⟩, ⟨by omega, by omega⟩⟩)
      have HIF := Lib.hid (show InR m.f from ⟨by omega, by omega⟩)
      have HIN := Lib.hid (show InR m.n from ⟨by omega, by omega⟩)
      clear HLA2 HLX2 HLA HLX HAT HTK HBX
      go_wp2_with fail
      refine wp_region_B 12 (fun w'' => Below x4.heap.size x4 w'') mixed (by kernel_rfl) (below_closed x4) (Below.refl _ _).drew ?_
      simp only [List.take_succ_cons, List.take_zero, List.drop_succ_cons, List.drop_zero]
      intro KR hR
      have HR := Lib.hid hR
      clear hR
      have HCC := Lib.hid (show ∀ w'', Below x4.heap.size x4 w'' → w''.cell? ⟨g, off + k * 3, none⟩ = some (.int .i64 m.f) ∧ w''.cell? ⟨g, off + k * 3 + 1, none⟩ = some (.int .i64 m.n) from fun w'' hw => ⟨cell_kept hw HC0.out, cell_kept hw HC1.out⟩)
      ((with_reducible refine wpB_move ?_ ?_); exact rfl; simp only [Act.put, List.setIfInBounds_toArray, List.set_cons_zero, List.set_cons_succ])
      ((with_reducible refine wpB_move ?_ ?_); exact rfl; simp only [Act.put, List.setIfInBounds_toArray, List.set_cons_zero, List.set_cons_succ])
      ((with_reducible refine wpB_move ?_ ?_); exact rfl; simp only [Act.put, List.setIfInBounds_toArray, List.set_cons_zero, List.set_cons_succ])
      apply wpB_val rfl
      · (intro w' hw'; go_simp; with_reducible rfl)
      simp only [Act.put, List.setIfInBounds_toArray, List.set_cons_zero, List.set_cons_succ]
      apply wpB_val rfl
      · (intro w' hw'; go_simp; with_reducible rfl)
      simp only [Act.put, List.setIfInBounds_toArray, List.set_cons_zero, List.set_cons_succ]
      apply wpB_val rfl
      · (intro w' hw'; obtain ⟨c0, c1⟩ := HCC.out w' hw'; go_simp; with_reducible rfl)
      simp only [Act.put, List.setIfInBounds_toArray, List.set_cons_zero, List.set_cons_succ]
      ((with_reducible refine wpB_move ?_ ?_); exact rfl; simp only [Act.put, List.setIfInBounds_toArray, List.set_cons_zero, List.set_cons_succ])
      ((with_reducible refine wpB_move ?_ ?_); exact rfl; simp only [Act.put, List.setIfInBounds_toArray, List.set_cons_zero, List.set_cons_succ])
      apply wpB_val rfl
      · (intro w' hw'; go_simp; with_reducible rfl)
      simp only [Act.put, List.setIfInBounds_toArray, List.set_cons_zero, List.set_cons_succ]
      apply wpB_val rfl
      · (intro w' hw'; go_simp; with_reducible rfl)
      simp only [Act.put, List.setIfInBounds_toArray, List.set_cons_zero, List.set_cons_succ]
      apply wpB_val rfl
      · (intro w' hw'; obtain ⟨c0, c1⟩ := HCC.out w' hw'; go_simp; with_reducible rfl)
      simp only [Act.put, List.setIfInBounds_toArray, List.set_cons_zero, List.set_cons_succ]
      apply wpB_val rfl
      · (intro w' hw'; go_simp; with_reducible rfl)
      simp only [Act.put, List.setIfInBounds_toArray, List.set_cons_zero, List.set_cons_succ]
      refine wpB_nil (HR.out _ (fun w2 hw2 => ?_))
      clear HR HCC
      refine wpList_pstore pairT (v := .bool true) (HM5.out.later hw2) (by unfold maxLen; omega) HIF.out HIN.out rfl _ _ _ rfl rfl rfl rfl ?_
      intro w3 hm3 hg3
      rw [setF_put] at hm3
      have HM5b := Lib.hid hm3
      have HM6b := Lib.hid (show SMap w3 (B + 1) (66 * k + 0) (insL O (LX.take 0)) from (HM6.out.later hw2).kept hg3 (fun e => by injection e with e; omega))
      have HAb := Lib.hid (Bxs.turn hg3 (HM5.out.later hw2) (HA.out.later hw2))
      have HXb := Lib.hid (Msgs.turn hg3 (HM5.out.later hw2) (HX.out.later hw2))
      have HC0b := Lib.hid (cell_turn hg3 (HM5.out.later hw2) (cell_kept hw2 HC0.out))
      have HBb := Lib.hid (below_turn (below_step HB.out hw2) hg3 hBx)
      clear hm3 hg3 hw2 HM5 HM6 HA HX HC0 HC1 HB
      go_wp2
      go_loopw [11] (OvRel x1 B k (k + 1) oa LA ox LX (insS T m.f m.n) O) (fun j _ => LX.length - (intOf j).toNat)
      case atStart => exact ⟨0, Nat.zero_le _, rfl, HAb.out, HXb.out, HM5b.out, HM6b.out, HBb.out⟩
      case round =>
        obtain ⟨i, hi, rfl, hbx, hms, hm5, hm6, hb⟩ := hrel
        clear HAb HXb HM5b HM6b HBb HC0b
        have HA := Lib.hid hbx
        have HX := Lib.hid hms
        have HM5 := Lib.hid hm5
        have HM6 := Lib.hid hm6
        have HB := Lib.hid hb
        clear hbx hms hm5 hm6 hb
        by_cases hj : i < LX.length
        · obtain ⟨h, oh, hho, d0, d1, _⟩ := HX.out i hj
          subst hho
          obtain ⟨hkf, hkn⟩ := HKF.out i hj
          have HTA := Lib.hid (msgs_take hj)
          obtain ⟨u, hu⟩ : ∃ u, getM LX i = u := ⟨_, rfl⟩
          rw [hu] at d0 d1 HTA hkf hkn
          clear hu
          have HD0 := Lib.hid d0
          have HD1 := Lib.hid d1
          have HIF2 := Lib.hid hkf
          have HIN2 := Lib.hid hkn
          clear d0 d1 hkf hkn
          have y1 : (0 : Int) ≤ (i : Int) := by omega
          have y2 : (i : Int) < (LX.length : Int) := by omega
          go_wp2_with fail
          refine wp_region_B 12 (fun w'' => Below wr.heap.size wr w'') mixed (by kernel_rfl) (below_closed wr) (Below.refl _ _).drew ?_
          simp only [List.take_succ_cons, List.take_zero, List.drop_succ_cons, List.drop_zero]
          intro KR hR
          have HR := Lib.hid hR
          clear hR
          have HCC := Lib.hid (show ∀ w'', Below wr.heap.size wr w'' → w''.cell? ⟨h, oh + i * 3, none⟩ = some (.int .i64 u.f) ∧ w''.cell? ⟨h, oh + i * 3 + 1, none⟩ = some (.int .i64 u.n) from fun w'' hw => ⟨cell_kept hw HD0.out, cell_kept hw HD1.out⟩)
          ((with_reducible refine wpB_move ?_ ?_); exact rfl; simp only [Act.put, List.setIfInBounds_toArray, List.set_cons_zero, List.set_cons_succ])
          ((with_reducible refine wpB_move ?_ ?_); exact rfl; simp only [Act.put, List.setIfInBounds_toArray, List.set_cons_zero, List.set_cons_succ])
          ((with_reducible refine wpB_move ?_ ?_); exact rfl; simp only [Act.put, List.setIfInBounds_toArray, List.set_cons_zero, List.set_cons_succ])
          apply wpB_val rfl
          · (intro w' hw'; go_simp; with_reducible rfl)
          simp only [Act.put, List.setIfInBounds_toArray, List.set_cons_zero, List.set_cons_succ]
          apply wpB_val rfl
          · (intro w' hw'; go_simp; with_reducible rfl)
          simp only [Act.put, List.setIfInBounds_toArray, List.set_cons_zero, List.set_cons_succ]
          apply wpB_val rfl
          · (intro w' hw'; obtain ⟨c0, c1⟩ := HCC.out w' hw'; go_simp; with_reducible rfl)
          simp only [Act.put, List.setIfInBounds_toArray, List.set_cons_zero, List.set_cons_succ]
          ((with_reducible refine wpB_move ?_ ?_); exact rfl; simp only [Act.put, List.setIfInBounds_toArray, List.set_cons_zero, List.set_cons_succ])
          ((with_reducible refine wpB_move ?_ ?_); exact rfl; simp only [Act.put, List.setIfInBounds_toArray, List.set_cons_zero, List.set_cons_succ])
          apply wpB_val rfl
          · (intro w' hw'; go_simp; with_reducible rfl)
          simp only [Act.put, List.setIfInBounds_toArray, List.set_cons_zero, List.set_cons_succ]
          apply wpB_val rfl
          · (intro w' hw'; go_simp; with_reducible rfl)
          simp only [Act.put, List.setIfInBounds_toArray, List.set_cons_zero, List.set_cons_succ]
          apply wpB_val rfl
          · (intro w' hw'; obtain ⟨c0, c1⟩ := HCC.out w' hw'; go_simp; with_reducible rfl)
          simp only [Act.put, List.setIfInBounds_toArray, List.set_cons_zero, List.set_cons_succ]
          apply wpB_val rfl
          · (intro w' hw'; go_simp; with_reducible rfl)
          simp only [Act.put, List.setIfInBounds_toArray, List.set_cons_zero, List.set_cons_succ]
          refine wpB_nil (HR.out _ (fun w2 hw2 => ?_))
          clear HR HCC
          refine wpList_pstore pairT (v := .bool true) (HM6.out.later hw2) (by unfold maxLen; omega) HIF2.out HIN2.out rfl _ _ _ rfl rfl rfl rfl ?_
          intro w3 hm3 hg3
          rw [setF_put, ← insL_snoc, ← HTA.out] at hm3
          have HM6b := Lib.hid hm3
          have HM5b := Lib.hid ((HM5.out.later hw2).kept hg3 (fun e => by injection e with e; omega))
          have HAb := Lib.hid (Bxs.turn hg3 (HM6.out.later hw2) (HA.out.later hw2))
          have HXb := Lib.hid (Msgs.turn hg3 (HM6.out.later hw2) (HX.out.later hw2))
          have HBb := Lib.hid (below_turn (below_step HB.out hw2) hg3 (by omega))
          clear hm3 hg3 hw2 HM5 HM6 HA HX HB
          go_wp2
          go_roundw
          case rel => exact ⟨i + 1, by omega, by go_num, HAb.out, HXb.out, HM5b.out, HM6b.out, HBb.out⟩
          case measure => simp [intOf]; omega
        · obtain rfl : i = LX.length := by omega
          rw [List.take_length] at HM6
          go_wp2
          obtain ⟨O2, hO2⟩ : ∃ O2, insL O LX = O2 := ⟨_, rfl⟩
          obtain ⟨T2, hT2⟩ : ∃ T2, insS T m.f m.n = T2 := ⟨_, rfl⟩
          rw [hO2, hT2] at HNX
          rw [hO2] at HM6
          rw [hT2] at HM5
          clear hO2 hT2
          have HX1 := Lib.hid (show 1 ≤ (ofF LA m.f).x from (validB_iff.1 (ofF_valid (f := m.f) hmf (validL_iff.1 HNX.out.valid).2.2)).2.1.1)
          go_loopw [3, 12] (NumRel wr (ofF LA m.f).x) (fun _ c _ => ((ofF LA m.f).x - intOf c).toNat)
          case atStart => exact ⟨rfl, rfl, 1, by omega, HX1.out, rfl⟩
          case round =>
            obtain ⟨rfl, rfl, n, hn1, hn2, rfl⟩ := hrel
            clear HX1
            have HNN := Lib.hid (fun h => HNX.out.next hmf hn1 hn2 h)
            have hx6 : (ofF LA m.f).x ≤ 1000001 := (validB_iff.1 (ofF_valid (f := m.f) hmf (validL_iff.1 HNX.out.valid).2.2)).2.1.2
            obtain ⟨g', off', hgo', c0, _, _⟩ := (HR.out.later (below_step HW.out HB.out)) k hlt
            obtain ⟨rfl, rfl⟩ : g = g' ∧ off = off' := by injection hgo' with h; injection h with h1 h2; exact ⟨h1, h2⟩
            rw [HGM.out] at c0
            clear hgo'
            have r1 := HM5.out.look HIF.out (show InR n from ⟨by omega, by omega⟩)
            obtain ⟨t, ht⟩ : ∃ t, T2 m.f n = t := ⟨_, rfl⟩
            rw [ht] at HNN r1
            clear ht
            cases t with
            | false =>
              go_wp2
              go_roundw
              case rel => exact ⟨k + 1, oa, ca, LA, T2, O2, by omega, by go_num, rfl, rfl, hla64, HA.out, HNX.out, HM5.out, HM6.out.mono (by omega), HB.out⟩
              case measure => simp [intOf]; omega
            | true =>
              obtain ⟨hO, hn3, _⟩ := HNN.out rfl
              have r2 := HM6.out.look HIF.out (show InR n from ⟨by omega, by omega⟩)
              rw [hO] at r2
              clear hO
              go_wp2
              go_roundw
              case rel => exact ⟨rfl, rfl, n + 1, by omega, by omega, rfl⟩
              case measure => simp [intOf]; omega
    · obtain rfl : k = l.length := by omega
      go_wp2
      go_ret
      exact ⟨rfl, below_step HW.out HB.out⟩
end Go.Proofs.Ytehpdjlidmhkmaa
