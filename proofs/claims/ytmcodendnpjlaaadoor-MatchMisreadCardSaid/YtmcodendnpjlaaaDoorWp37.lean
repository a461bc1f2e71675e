/- Chapter 37: MatchFar walked. -/
import Derived.Test.YtmcodendnpjlaaaDoorWn37
import Derived.Test.YtmcodendnpjlaaaDoorPhase
namespace Go.Proofs.YtmcodendnpjlaaaDoor
open Go.RowKit
attribute [local go_sem] Oper.semAt_some

/-- Of each pair that is found. -/
structure FarP (E X : List Ps) (a b : Int) (i j : Nat) : Prop where
  ea : a = (i : Int)
  eb : b = (j : Int)
  hi : i < E.length
  hj : j < X.length
  d1 : decide ((i : Int) < 0) = false
  d2 : decide ((E.length : Int) ≤ (i : Int)) = false
  d3 : decide ((j : Int) < 0) = false
  d4 : decide ((X.length : Int) ≤ (j : Int)) = false
  n2 : decide (E.length ≤ i) = false
  n4 : decide (X.length ≤ j) = false
  y1 : (0 : Int) ≤ (i : Int)
  y2 : (i : Int) < (E.length : Int)
  y3 : (0 : Int) ≤ (j : Int)
  y4 : (j : Int) < (X.length : Int)
  mn : decide ((X.getD j Ps.zero).mn ≤ (E.getD i Ps.zero).mn) = false
  vs : (validS (E.getD i Ps.zero).s && validS (X.getD j Ps.zero).s) = true
  far : decide ((10 : Int) < ((Go.Proofs.YtmcodendnpjlaaaDoor.E (bs (E.getD i Ps.zero).s) (bs (X.getD j Ps.zero).s) : Nat) : Int)) = false
theorem validFrom_mem : ∀ {l : List Ps} {b : Int} {i : Nat}, validFrom b l = true → i < l.length → validS (l.getD i Ps.zero).s = true
  | [], _, _, _, h => by simp at h
  | p :: l, b, 0, h, _ => by simp only [validFrom, Bool.and_eq_true] at h; exact h.1.1.1
  | p :: l, b, i + 1, h, hi => by
    simp only [validFrom, Bool.and_eq_true] at h
    exact validFrom_mem (i := i) h.2 (by simpa using hi)
theorem validP_mem {l : List Ps} {i : Nat} (h : validP l = true) (hi : i < l.length) : validS (l.getD i Ps.zero).s = true := by
  simp only [validP, Bool.and_eq_true] at h
  exact validFrom_mem h.2 hi
theorem far_of {EE X : List Ps} (hv : (validP EE && validP X) = true) {k : Nat} (hk : k < (best EE X).pairs.length) :
    ∃ i j, FarP EE X ((toI (best EE X).pairs).getD k (0, 0)).1 ((toI (best EE X).pairs).getD k (0, 0)).2 i j := by
  have hB := best_is EE X
  obtain ⟨q, hq⟩ : ∃ q, (best EE X).pairs[k] = q := ⟨_, rfl⟩
  have hm : q ∈ (best EE X).pairs := hq ▸ List.getElem_mem hk
  have h1 := VP.mem hB.valid hm
  have h2 := best_far hB hm
  have e : (toI (best EE X).pairs).getD k (0, 0) = ((q.1 : Int), (q.2 : Int)) := by simp [toI, hk, hq]
  rw [e]
  have hok := h1.2.2.2.2
  unfold okE at hok
  have hvs : (validS (EE.getD q.1 Ps.zero).s && validS (X.getD q.2 Ps.zero).s) = true := by rw [validP_mem (both_valid hv).1 h1.2.1, validP_mem (both_valid hv).2 h1.2.2.1]; rfl
  unfold dE dP at h2
  rw [if_pos hvs] at h2
  have := of_decide_eq_true hok
  have a1 := h1.2.1
  have a2 := h1.2.2.1
  exact ⟨q.1, q.2, rfl, rfl, a1, a2, decide_eq_false (by omega), decide_eq_false (by omega), decide_eq_false (by omega), decide_eq_false (by omega), decide_eq_false (by omega), decide_eq_false (by omega), by omega, by omega, by omega, by omega, decide_eq_false (by omega), hvs, decide_eq_false (by omega)⟩

set_option maxRecDepth 100000 in
set_option maxHeartbeats 16000000 in
theorem MatchFar_walk (w : World) (hT : Tab w) (oe : Option Addr) (ce : Nat) (E : List Ps) (he : Pss w oe E) (hle : E.length ≤ 6000000000000) (__hec : E.length ≤ ce) (ox : Option Addr) (cx : Nat) (X : List Ps) (hx : Pss w ox X) (hlx : X.length ≤ 6000000000000) (__hxc : X.length ≤ cx) :
    Calls Tryd.prog 10 #[.slice oe E.length ce, .slice ox X.length cx] w (Ret (.bool true) w) := by
  have HE := Lib.hid he
  have HX := Lib.hid hx
  have HT := Lib.hid hT
  clear he hx hT
  go_enter Tryd.func10, Tryd.ntmps10
  go_wp2_with fail
  refine (head_any w HT.out).mono ?_
  rintro _ W1 ⟨rfl, hb⟩
  have HB1 := Lib.hid hb
  clear hb
  go_wp2_with fail
  refine (Few_any oe ce E W1 (HE.out.later HB1.out) (by omega)).mono ?_
  rintro _ W2 ⟨rfl, hb⟩
  have HB2 := Lib.hid (below_step HB1.out hb)
  clear hb HB1
  cases hfe : fewP E with
  | false =>
    go_wp2
    go_ret
    exact ⟨rfl, HB2.out⟩
  | true =>
  go_wp2_with fail
  refine (Few_any ox cx X W2 (HX.out.later HB2.out) (by omega)).mono ?_
  rintro _ W3 ⟨rfl, hb⟩
  have HB3 := Lib.hid (below_step HB2.out hb)
  clear hb HB2
  cases hfx : fewP X with
  | false =>
    go_wp2
    go_ret
    exact ⟨rfl, HB3.out⟩
  | true =>
  go_wp2_with fail
  refine (Match_any oe ox ce cx E X W3 (HE.out.later HB3.out) (HX.out.later HB3.out) (HT.out.below HB3.out) (by omega) (by omega)).mono ?_
  rintro _ W4 ⟨hb, ⟨hv, oA, cA, rfl, hta⟩ | ⟨hv, rfl⟩⟩
  rotate_left
  · have HB4 := Lib.hid (below_step HB3.out hb)
    clear hb
    go_wp2
    go_ret
    exact ⟨rfl, HB4.out⟩
  have HB4 := Lib.hid (below_step HB3.out hb)
  have HA4 := Lib.hid hta
  have HV := Lib.hid hv
  clear hb hta hv HB3
  have HFAR := Lib.hid (fun k hk => far_of HV.out (k := k) hk)
  have HFO := Lib.hid (best_small HV.out)
  obtain ⟨F, hF⟩ : ∃ F, best E X = F := ⟨_, rfl⟩
  rw [hF] at HFAR HA4 HFO ⊢
  clear hF HV
  have hF8 := HFO.out.len
  go_wp2
  go_loopw [35] (fun i wr => ∃ k : Nat, k ≤ F.pairs.length ∧ i = .int .i64 k ∧ Below w.heap.size w wr ∧ Twos wr oA (toI F.pairs)) (fun i _ => F.pairs.length - (intOf i).toNat)
  case atStart => exact ⟨0, Nat.zero_le _, rfl, HB4.out, HA4.out⟩
  case round =>
    obtain ⟨k, hk, rfl, hb, hta⟩ := hrel
    have HB := Lib.hid hb
    have HA := Lib.hid hta
    clear hb hta HB4 HA4
    by_cases hlt : k < F.pairs.length
    · obtain ⟨i, j, hfp⟩ := HFAR.out k hlt
      have HFP := Lib.hid hfp
      clear hfp
      obtain ⟨gp, fp, hgo, c0, c1⟩ := HA.out k (by rw [toI_length]; exact hlt)
      subst hgo
      rw [HFP.out.ea] at c0
      rw [HFP.out.eb] at c1
      have HK1 := Lib.hid (show k + 1 ≤ F.pairs.length from hlt)
      have y1 : (0 : Int) ≤ (k : Int) := Int.natCast_nonneg k
      have y2 : (k : Int) < (F.pairs.length : Int) := Int.ofNat_lt.2 hlt
      go_upto_region 10 with (fail)
      obtain ⟨W8, hW8⟩ : ∃ W8, W8 = wr.alloc (.cells #[.int .i64 (i : Int), .int .i64 (j : Int)] 48) := ⟨_, rfl⟩
      have HP8 := Lib.hid (show Blk W8 wr.heap.size 48 #[.int .i64 (i : Int), .int .i64 (j : Int)] by rw [hW8]; exact Blk.new _ _ _)
      have HBb := Lib.hid (show Below wr.heap.size wr W8 by rw [hW8]; exact below_alloc (Below.refl _ _) _)
      rw [← hW8]
      clear hW8 c0 c1
      have HB8 := Lib.hid (below_step HB.out HBb.out)
      have HA8 := Lib.hid (HA.out.later HBb.out)
      obtain ⟨PB, hPB⟩ : ∃ B, wr.heap.size = B := ⟨_, rfl⟩
      rw [hPB] at HP8 ⊢
      clear hPB HB HA HBb
      obtain ⟨ge, fe, hgo, e0, e1⟩ := (HE.out.later HB8.out) i HFP.out.hi
      subst hgo
      obtain ⟨gx, fx, hgo, x0, x1⟩ := (HX.out.later HB8.out) j HFP.out.hj
      subst hgo
      have d1 := HFP.out.d1
      have d2 := HFP.out.d2
      have d3 := HFP.out.d3
      have d4 := HFP.out.d4
      have n2 := HFP.out.n2
      have n4 := HFP.out.n4
      have z1 := HFP.out.y1
      have z2 := HFP.out.y2
      have z3 := HFP.out.y3
      have z4 := HFP.out.y4
      have d5 := HFP.out.mn
      have HFR := Lib.hid HFP.out.far
      have HDV := Lib.hid (show distV (E.getD i Ps.zero).s (X.getD j Ps.zero).s = .tuple #[.int .i64 ((Go.Proofs.YtmcodendnpjlaaaDoor.E (bs (E.getD i Ps.zero).s) (bs (X.getD j Ps.zero).s) : Nat) : Int), .int .i64 0] from by unfold distV; rw [if_pos HFP.out.vs])
      obtain ⟨pe, hpe⟩ : ∃ p, E.getD i Ps.zero = p := ⟨_, rfl⟩
      obtain ⟨px, hpx⟩ : ∃ p, X.getD j Ps.zero = p := ⟨_, rfl⟩
      rw [hpe] at e0 e1 d5 HFR HDV
      rw [hpx] at x0 x1 d5 HFR HDV
      clear hpe hpx HFP
      obtain ⟨dd, hdd⟩ : ∃ d : Int, ((Go.Proofs.YtmcodendnpjlaaaDoor.E (bs pe.s) (bs px.s) : Nat) : Int) = d := ⟨_, rfl⟩
      rw [hdd] at HFR HDV
      clear hdd
      have p0 := HP8.out.cell 0
      have p1 := HP8.out.cell 1
      go_quiet (fail)
      generalize hW9 : W8.drewN _ = W9
      have HB9 := Lib.hid (show Below W8.heap.size W8 W9 by rw [← hW9]; exact below_drewN (Below.refl _ _) _)
      clear hW9 p0 p1 d1 d2 d3 d4 d5 n2 n4
      have HBn := Lib.hid (below_step HB8.out HB9.out)
      have HAn := Lib.hid (HA8.out.later HB9.out)
      have HC0 := Lib.hid (show W9.cell? ⟨PB, 0, none⟩ = some (.int .i64 (i : Int)) from cell_kept HB9.out (HP8.out.cell 0))
      have HC1 := Lib.hid (show W9.cell? ⟨PB, 1, none⟩ = some (.int .i64 (j : Int)) from cell_kept HB9.out (HP8.out.cell 1))
      have HE0 := Lib.hid (cell_kept HB9.out e0)
      have HX0 := Lib.hid (cell_kept HB9.out x0)
      have HTB := Lib.hid (HT.out.below HBn.out)
      clear e0 e1 x0 x1 HB8 HA8 HP8 HB9
      go_upto_region 12 with (fail)

      refine wp_region_B 18 (fun w'' => Below W9.heap.size W9 w'') mixed (by kernel_rfl) (below_closed W9) (Below.refl _ _).drew ?_
      simp only [List.take_succ_cons, List.take_zero, List.drop_succ_cons, List.drop_zero]
      intro KR hR
      have HR := Lib.hid hR
      clear hR
      have HCC := Lib.hid (show ∀ w'', Below W9.heap.size W9 w'' → w''.cell? ⟨PB, 0, none⟩ = some (.int .i64 (i : Int)) ∧ w''.cell? ⟨PB, 1, none⟩ = some (.int .i64 (j : Int)) ∧ w''.cell? ⟨ge, fe + i * 2, none⟩ = some (.string pe.s) ∧ w''.cell? ⟨gx, fx + j * 2, none⟩ = some (.string px.s) from fun w'' hw => ⟨cell_kept hw HC0.out, cell_kept hw HC1.out, cell_kept hw HE0.out, cell_kept hw HX0.out⟩)
      ((with_reducible refine wpB_move ?_ ?_); exact rfl; simp only [Act.put, List.setIfInBounds_toArray, List.set_cons_zero, List.set_cons_succ])
      apply wpB_val rfl
      · (intro w' hw'; go_simp; with_reducible rfl)
      simp only [Act.put, List.setIfInBounds_toArray, List.set_cons_zero, List.set_cons_succ]
      apply wpB_val rfl
      · (intro w' hw'; obtain ⟨c0, c1, c2, c3⟩ := HCC.out w' hw'; go_simp; with_reducible rfl)
      simp only [Act.put, List.setIfInBounds_toArray, List.set_cons_zero, List.set_cons_succ]
      apply wpB_val rfl
      · (intro w' hw'; go_simp; with_reducible rfl)
      simp only [Act.put, List.setIfInBounds_toArray, List.set_cons_zero, List.set_cons_succ]
      apply wpB_val rfl
      · (intro w' hw'; go_simp; with_reducible rfl)
      simp only [Act.put, List.setIfInBounds_toArray, List.set_cons_zero, List.set_cons_succ]
      apply wpB_val rfl
      · (intro w' hw'; obtain ⟨c0, c1, c2, c3⟩ := HCC.out w' hw'; go_simp; with_reducible rfl)
      simp only [Act.put, List.setIfInBounds_toArray, List.set_cons_zero, List.set_cons_succ]
      ((with_reducible refine wpB_move ?_ ?_); exact rfl; simp only [Act.put, List.setIfInBounds_toArray, List.set_cons_zero, List.set_cons_succ])
      apply wpB_val rfl
      · (intro w' hw'; go_simp; with_reducible rfl)
      simp only [Act.put, List.setIfInBounds_toArray, List.set_cons_zero, List.set_cons_succ]
      apply wpB_val rfl
      · (intro w' hw'; obtain ⟨c0, c1, c2, c3⟩ := HCC.out w' hw'; go_simp; with_reducible rfl)
      simp only [Act.put, List.setIfInBounds_toArray, List.set_cons_zero, List.set_cons_succ]
      apply wpB_val rfl
      · (intro w' hw'; go_simp; with_reducible rfl)
      simp only [Act.put, List.setIfInBounds_toArray, List.set_cons_zero, List.set_cons_succ]
      apply wpB_val rfl
      · (intro w' hw'; go_simp; with_reducible rfl)
      simp only [Act.put, List.setIfInBounds_toArray, List.set_cons_zero, List.set_cons_succ]
      apply wpB_val rfl
      · (intro w' hw'; obtain ⟨c0, c1, c2, c3⟩ := HCC.out w' hw'; go_simp; with_reducible rfl)
      simp only [Act.put, List.setIfInBounds_toArray, List.set_cons_zero, List.set_cons_succ]
      apply wpB_call 22 #[.string pe.s, .string px.s] rfl (v := .tuple #[.int .i64 dd, .int .i64 0])
      · (intro w'; go_simp)
      · exact fun w' hw' => (HDV.out ▸ Distance_any pe.s px.s w' (HTB.out.below hw'))
      simp only [Act.put, List.setIfInBounds_toArray, List.set_cons_zero, List.set_cons_succ]
      ((with_reducible refine wpB_move ?_ ?_); exact rfl; simp only [Act.put, List.setIfInBounds_toArray, List.set_cons_zero, List.set_cons_succ])
      apply wpB_val rfl
      · (intro w' hw'; go_simp; with_reducible rfl)
      simp only [Act.put, List.setIfInBounds_toArray, List.set_cons_zero, List.set_cons_succ]
      apply wpB_val rfl
      · (intro w' hw'; go_simp; with_reducible rfl)
      simp only [Act.put, List.setIfInBounds_toArray, List.set_cons_zero, List.set_cons_succ]
      apply wpB_val rfl
      · (intro w' hw'; go_simp; with_reducible rfl)
      simp only [Act.put, List.setIfInBounds_toArray, List.set_cons_zero, List.set_cons_succ]
      apply wpB_val rfl
      · (intro w' hw'; go_simp; with_reducible rfl)
      simp only [Act.put, List.setIfInBounds_toArray, List.set_cons_zero, List.set_cons_succ]
      refine wpB_nil (HR.out _ (fun w2 hw2 => ?_))
      clear HR HCC
      have HBf := Lib.hid (below_step HBn.out hw2)
      have HAf := Lib.hid (HAn.out.later hw2)
      clear hw2 HBn HAn HC0 HC1 HE0 HX0 HTB HDV
      have hfr := HFR.out
      go_wp2
      go_roundw
      case rel => exact ⟨k + 1, HK1.out, by go_num, HBf.out, HAf.out⟩
      case measure => simp [intOf]; omega
    · obtain rfl : k = F.pairs.length := by omega
      go_wp2
      go_ret
      exact ⟨rfl, HB.out⟩

end Go.Proofs.YtmcodendnpjlaaaDoor