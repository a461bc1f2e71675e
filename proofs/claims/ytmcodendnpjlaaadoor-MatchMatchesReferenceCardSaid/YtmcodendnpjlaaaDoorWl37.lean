/- Chapter 37: Cost. -/
import Derived.Test.YtmcodendnpjlaaaDoorWk37
import Derived.Deep.CutRange
import Derived.Deep.DeepCutAuto
namespace Go.Proofs.YtmcodendnpjlaaaDoor
open Go.RowKit
attribute [local go_sem] Oper.semAt_some

/-- What Cost finds. -/
def costO (E X : List Ps) (l : List (Int × Int)) : Option Int :=
  if validP E && validP X then costF E X (-1) (List.replicate 8 false) (5 * ((E.length : Int) + (X.length : Int))) l else none
@[reducible] def optV : Option Int → Value
  | some c => .tuple #[.int .i64 c, .int .i64 0]
  | none => .tuple #[.int .i64 0, .int .i64 1]
def bools (u : List Bool) : Array Value := (u.map Value.bool).toArray
theorem bools_get {u : List Bool} {j : Nat} (h : j < u.length) : (bools u)[j]? = some (.bool (u.getD j false)) := by simp [bools, h]
theorem bools_set (u : List Bool) (j : Nat) (b : Bool) : (bools u).setIfInBounds j (.bool b) = bools (u.set j b) := by
  apply Array.ext'
  simp [bools, List.map_set]

set_option maxRecDepth 100000 in
set_option maxHeartbeats 16000000 in
theorem CostM_any (oe ox op : Option Addr) (ce cx cp : Nat) (E X : List Ps) (l : List (Int × Int)) (w : World) (he : Pss w oe E) (hx : Pss w ox X) (hp : Twos w op l) (hT : Tab w) (hle : E.length ≤ 9000000000000000000) (hlx : X.length ≤ 9000000000000000000) (hlp : l.length ≤ 9000000000000000000) :
    Calls Tryd.prog 15 #[.slice oe E.length ce, .slice ox X.length cx, .slice op l.length cp] w (Ret (optV (costO E X l)) w) := by
  have HE := Lib.hid he
  have HX := Lib.hid hx
  have HP := Lib.hid hp
  have HT := Lib.hid hT
  clear he hx hp hT
  obtain ⟨V, hV⟩ : ∃ V, costO E X l = V := ⟨_, rfl⟩
  rw [hV]
  have HV := Lib.hid hV
  clear hV
  go_enter Tryd.func15, Tryd.ntmps15
  go_wp2_with fail
  refine (valid_any oe ce E w HE.out hle).mono ?_
  rintro _ W2 ⟨rfl, hb⟩
  have HB2 := Lib.hid hb
  clear hb
  cases hve : validP E with
  | false =>
    obtain rfl : none = V := by rw [← HV.out]; simp [costO, hve]
    clear hve
    go_wp2
    refine bodyPost_ret (results_tmp2 rfl _ _ _) rfl ?_
    exact ⟨rfl, HB2.out⟩
  | true =>
  go_wp2_with fail
  refine (valid_any ox cx X W2 (HX.out.later HB2.out) hlx).mono ?_
  rintro _ W3 ⟨rfl, hb⟩
  have HB3 := Lib.hid (below_step HB2.out hb)
  clear hb HB2
  cases hvx : validP X with
  | false =>
    obtain rfl : none = V := by rw [← HV.out]; simp [costO, hve, hvx]
    clear hve hvx
    go_wp2
    refine bodyPost_ret (results_tmp2 rfl _ _ _) rfl ?_
    exact ⟨rfl, HB3.out⟩
  | true =>
  have HC := Lib.hid (show costF E X (-1) (List.replicate 8 false) (5 * ((E.length : Int) + (X.length : Int))) (l.drop 0) = V by rw [← HV.out, List.drop_zero]; simp [costO, hve, hvx])
  have hE8 : E.length ≤ 8 := by unfold validP at hve; simp at hve; exact hve.1
  have hX8 : X.length ≤ 8 := by unfold validP at hvx; simp at hvx; exact hvx.1
  clear hve hvx HV
  go_upto_region 4 with (fail)
  obtain ⟨W4, hW4⟩ : ∃ W4, W4 = W3.alloc (.cells (bools (List.replicate 8 false)) 64) := ⟨_, rfl⟩
  have HU4 := Lib.hid (show Blk W4 W3.heap.size 64 (bools (List.replicate 8 false)) by rw [hW4]; exact Blk.new _ _ _)
  have HB4 := Lib.hid (below_step HB3.out (show Below W3.heap.size W3 W4 by rw [hW4]; exact below_alloc (Below.refl _ _) _))
  have HUB := Lib.hid (HB3.out.size)
  simp only [bools, List.replicate, List.map] at hW4
  rw [← hW4]
  clear hW4
  obtain ⟨UB, hUB⟩ : ∃ B, W3.heap.size = B := ⟨_, rfl⟩
  rw [hUB] at HU4 HUB ⊢
  clear hUB HB3
  go_wp2
  go_loopw [9, 10, 31] (fun b c i wr => ∃ (k : Nat) (Bf C : Int) (U : List Bool), k ≤ l.length ∧ i = .int .i64 k ∧ b = .int .i64 Bf ∧ c = .int .i64 C ∧ U.length = 8 ∧ Below w.heap.size w wr ∧ Blk wr UB 64 (bools U) ∧ costF E X Bf U C (l.drop k) = V ∧ (k : Int) ≤ Bf + 1 ∧ Bf + 1 ≤ 8 ∧ -1 ≤ Bf ∧ -10 * (k : Int) ≤ C ∧ C ≤ 80 + 10 * (k : Int)) (fun _ _ i _ => l.length - (intOf i).toNat)
  case atStart => exact ⟨0, -1, 5 * ((E.length : Int) + (X.length : Int)), List.replicate 8 false, Nat.zero_le _, rfl, rfl, rfl, rfl, HB4.out, HU4.out, HC.out, by omega, by omega, by omega, by omega, by omega⟩
  case round =>
    obtain ⟨k, Bf, C, U, hk, rfl, rfl, rfl, hU8, hb, hu, hz, hkB, hB8, hBm, hC1, hC2⟩ := hrel
    have HB := Lib.hid hb
    have HU := Lib.hid hu
    have HZ := Lib.hid hz
    clear hb hu hz HB4 HU4 HC
    by_cases hlt : k < l.length
    · obtain ⟨gp, fp, hgo, c0, c1⟩ := (HP.out.later HB.out) k hlt
      subst hgo
      obtain ⟨p, hp⟩ : ∃ p, l.getD k (0, 0) = p := ⟨_, rfl⟩
      rw [hp] at c0 c1
      have HE2 := Lib.hid (show costF E X Bf U C (p :: l.drop (k + 1)) = V by rw [← HZ.out, dropT hlt, hp])
      clear hp HZ
      have y1 : (0 : Int) ≤ (k : Int) := by omega
      have y2 : (k : Int) < (l.length : Int) := by omega
      go_upto_region 8 with (fail)
      obtain ⟨W8, hW8⟩ : ∃ W8, W8 = wr.alloc (.cells #[.int .i64 p.1, .int .i64 p.2] 48) := ⟨_, rfl⟩
      have HP8 := Lib.hid (show Blk W8 wr.heap.size 48 #[.int .i64 p.1, .int .i64 p.2] by rw [hW8]; exact Blk.new _ _ _)
      have HBb := Lib.hid (show Below wr.heap.size wr W8 by rw [hW8]; exact below_alloc (Below.refl _ _) _)
      rw [← hW8]
      clear hW8 c0 c1
      have HB8 := Lib.hid (below_step HB.out HBb.out)
      have HU8 := Lib.hid (HU.out.later HBb.out)
      have hUP : UB < wr.heap.size := HU.out.lt
      obtain ⟨PB, hPB⟩ : ∃ B, wr.heap.size = B := ⟨_, rfl⟩
      rw [hPB] at HP8 hUP ⊢
      have HPW := Lib.hid (show w.heap.size ≤ PB from hPB ▸ HB.out.size)
      clear hPB HB HU HBb
      have p0 := HP8.out.cell 0
      have p1 := HP8.out.cell 1
      by_cases h1 : p.1 ≤ Bf
      · have d1 : decide (p.1 ≤ Bf) = true := decide_eq_true h1
        obtain rfl : none = V := by rw [← HE2.out, costF_n1 h1]
        go_wp2
        refine bodyPost_ret (results_tmp2 rfl _ _ _) rfl ?_
        exact ⟨rfl, HB8.out⟩
      have d1 : decide (p.1 ≤ Bf) = false := decide_eq_false h1
      by_cases h2 : (E.length : Int) ≤ p.1
      · have d2 : decide ((E.length : Int) ≤ p.1) = true := decide_eq_true h2
        obtain rfl : none = V := by rw [← HE2.out, costF_n2 h2]
        go_wp2
        refine bodyPost_ret (results_tmp2 rfl _ _ _) rfl ?_
        exact ⟨rfl, HB8.out⟩
      have d2 : decide ((E.length : Int) ≤ p.1) = false := decide_eq_false h2
      by_cases h3 : p.2 < 0
      · have d3 : decide (p.2 < 0) = true := decide_eq_true h3
        obtain rfl : none = V := by rw [← HE2.out, costF_n3 h3]
        go_wp2
        refine bodyPost_ret (results_tmp2 rfl _ _ _) rfl ?_
        exact ⟨rfl, HB8.out⟩
      have d3 : decide (p.2 < 0) = false := decide_eq_false h3
      by_cases h4 : (X.length : Int) ≤ p.2
      · have d4 : decide ((X.length : Int) ≤ p.2) = true := decide_eq_true h4
        obtain rfl : none = V := by rw [← HE2.out, costF_n4 h4]
        go_wp2
        refine bodyPost_ret (results_tmp2 rfl _ _ _) rfl ?_
        exact ⟨rfl, HB8.out⟩
      have d4 : decide ((X.length : Int) ≤ p.2) = false := decide_eq_false h4
      obtain ⟨p1', p2'⟩ := p
      obtain ⟨i, rfl⟩ : ∃ i : Nat, p1' = (i : Int) := ⟨p1'.toNat, by simp only at h1; omega⟩
      obtain ⟨j, rfl⟩ : ∃ j : Nat, p2' = (j : Int) := ⟨p2'.toNat, by simp only at h3; omega⟩
      simp only at h1 h2 h3 h4 d1 d2 d3 d4 p0 p1
      have hi : i < E.length := by omega
      have hj : j < X.length := by omega
      have z1 : (0 : Int) ≤ (i : Int) := by omega
      have z2 : (i : Int) < (E.length : Int) := by omega
      have z3 : (0 : Int) ≤ (j : Int) := by omega
      have z4 : (j : Int) < (X.length : Int) := by omega
      have z5 : (j : Int) < 8 := by omega
      have u0 : W8.cell? ⟨UB, j, none⟩ = some (.bool (U.getD j false)) := (HU8.out.cell j).trans (bools_get (by omega))
      cases hbt : U.getD j false with
      | true =>
        obtain rfl : none = V := by rw [← HE2.out, costF_n5 hbt]
        rw [hbt] at u0
        go_wp2
        refine bodyPost_ret (results_tmp2 rfl _ _ _) rfl ?_
        exact ⟨rfl, HB8.out⟩
      | false =>
      rw [hbt] at u0
      go_upto_region 10 with (fail)
      clear u0
      obtain ⟨ge, fe, hgo, e0, e1⟩ := (HE.out.later HB8.out) i hi
      subst hgo
      obtain ⟨pe, hpe⟩ : ∃ p, E.getD i Ps.zero = p := ⟨_, rfl⟩
      rw [hpe] at e0 e1
      obtain ⟨gx, fx, hgo, x0, x1⟩ := (HX.out.later HB8.out) j hj
      subst hgo
      obtain ⟨px, hpx⟩ : ∃ p, X.getD j Ps.zero = p := ⟨_, rfl⟩
      rw [hpx] at x0 x1
      have HPE := Lib.hid hpe
      have HPX := Lib.hid hpx
      have HE0 := Lib.hid e0
      have HE1 := Lib.hid e1
      have HX0 := Lib.hid x0
      have HX1 := Lib.hid x1
      clear hpe hpx e0 e1 x0 x1 p0 p1
      go_cut [13, 14] (fun a b wx => ∃ H1 H2, a = .pointer (some ⟨H1, 0, none⟩) ∧ b = .pointer (some ⟨H2, 0, none⟩) ∧ Below W8.heap.size W8 wx ∧ Blk wx H1 35 #[.string pe.s, .int .i64 pe.mn] ∧ Blk wx H2 35 #[.string px.s, .int .i64 px.mn] ∧ W8.heap.size ≤ H1 ∧ W8.heap.size ≤ H2)
      case first =>
        have HP8C0 := Lib.hid (show W8.cell? ⟨PB, 0, none⟩ = some (.int .i64 (i : Int)) from HP8.out.cell 0)
        have HP8C1 := Lib.hid (show W8.cell? ⟨PB, 1, none⟩ = some (.int .i64 (j : Int)) from HP8.out.cell 1)
        refine wp_region_maskF [10, 11, 12, 13] [true, true, true, true, true, true, true, true, true, true, false, false, false, false] (fun w'' => w''.cell? ⟨PB, 0, none⟩ = some (.int .i64 (i : Int)) ∧ w''.cell? ⟨PB, 1, none⟩ = some (.int .i64 (j : Int)) ∧ w''.cell? ⟨ge, fe + i * 2, none⟩ = some (.string pe.s) ∧ w''.cell? ⟨ge, fe + i * 2 + 1, none⟩ = some (.int .i64 pe.mn) ∧ w''.cell? ⟨gx, fx + j * 2, none⟩ = some (.string px.s) ∧ w''.cell? ⟨gx, fx + j * 2 + 1, none⟩ = some (.int .i64 px.mn)) mixed (by kernel_rfl) ?_
        intro KR hR
        have HR := Lib.hid hR
        clear hR
        simp only [marked]
        ((with_reducible refine wpM_move ?_ ?_); exact rfl; simp only [Act.put, List.setIfInBounds_toArray, List.set_cons_zero, List.set_cons_succ])
        apply wpM_val rfl
        · (intro w' hw'; go_simp; with_reducible rfl)
        simp only [Act.put, List.setIfInBounds_toArray, List.set_cons_zero, List.set_cons_succ]
        apply wpM_val rfl
        · (intro w' hw'; obtain ⟨c0, c1, c2, c3, c4, c5⟩ := hw'; go_simp; with_reducible rfl)
        simp only [Act.put, List.setIfInBounds_toArray, List.set_cons_zero, List.set_cons_succ]
        apply wpM_val rfl
        · (intro w' hw'; go_simp; with_reducible rfl)
        simp only [Act.put, List.setIfInBounds_toArray, List.set_cons_zero, List.set_cons_succ]
        apply wpM_val rfl
        · (intro w' hw'; obtain ⟨c0, c1, c2, c3, c4, c5⟩ := hw'; go_simp; with_reducible rfl)
        simp only [Act.put, List.setIfInBounds_toArray, List.set_cons_zero, List.set_cons_succ]
        ((with_reducible refine wpM_move ?_ ?_); exact rfl; simp only [Act.put, List.setIfInBounds_toArray, List.set_cons_zero, List.set_cons_succ])
        apply wpM_val rfl
        · (intro w' hw'; go_simp; with_reducible rfl)
        simp only [Act.put, List.setIfInBounds_toArray, List.set_cons_zero, List.set_cons_succ]
        apply wpM_val rfl
        · (intro w' hw'; obtain ⟨c0, c1, c2, c3, c4, c5⟩ := hw'; go_simp; with_reducible rfl)
        simp only [Act.put, List.setIfInBounds_toArray, List.set_cons_zero, List.set_cons_succ]
        apply wpM_val rfl
        · (intro w' hw'; go_simp; with_reducible rfl)
        simp only [Act.put, List.setIfInBounds_toArray, List.set_cons_zero, List.set_cons_succ]
        apply wpM_val rfl
        · (intro w' hw'; obtain ⟨c0, c1, c2, c3, c4, c5⟩ := hw'; go_simp; with_reducible rfl)
        simp only [Act.put, List.setIfInBounds_toArray, List.set_cons_zero, List.set_cons_succ]
        refine wpM_nil (HR.out _ ?_)
        clear HR
        have HB9 := Lib.hid (show Below W8.heap.size W8 W8.drew from (Below.refl _ _).drew)
        generalize W8.drew = W9 at HB9 ⊢
        refine ⟨⟨cell_kept HB9.out HP8C0.out, cell_kept HB9.out HP8C1.out, cell_kept HB9.out HE0.out, cell_kept HB9.out HE1.out, cell_kept HB9.out HX0.out, cell_kept HB9.out HX1.out⟩, fun c hc hfree => ?_⟩
        simp only [List.mem_cons, List.not_mem_nil, or_false] at hc
        rcases hc with rfl | rfl | rfl | rfl
        · refine ⟨_, rfl, rfl, stepF_val (v := .pointer (some ⟨W9.heap.size, 0, none⟩)) (w' := W9.alloc (.cells #[.string ⟨#[]⟩, .int .i64 0] 35)) (by go_simp) ?_⟩
          simp only [List.getElem_toArray, List.getElem_cons_zero, List.getElem_cons_succ, Act.put, List.setIfInBounds_toArray, List.set_cons_zero, List.set_cons_succ]
          have HA := Lib.hid (show Blk (W9.alloc (.cells #[.string ⟨#[]⟩, .int .i64 0] 35)) W9.heap.size 35 #[.string ⟨#[]⟩, .int .i64 0] from Blk.new _ _ _)
          have HBa := Lib.hid (below_step HB9.out (below_alloc (Below.refl W9.heap.size W9) (.cells #[.string ⟨#[]⟩, .int .i64 0] 35)))
          have hs1 : (W9.alloc (.cells #[.string ⟨#[]⟩, .int .i64 0] 35)).heap.size = W9.heap.size + 1 := World.size_alloc _ _
          generalize W9.alloc (.cells #[.string ⟨#[]⟩, .int .i64 0] 35) = Wa at HA HBa hs1 ⊢
          have HS9 := Lib.hid HB9.out.size
          generalize W9.heap.size = H1 at HA hs1 HS9 ⊢
          refine ⟨⟨cell_kept HBa.out HP8C0.out, cell_kept HBa.out HP8C1.out, cell_kept HBa.out HE0.out, cell_kept HBa.out HE1.out, cell_kept HBa.out HX0.out, cell_kept HBa.out HX1.out⟩, fun c hc hfree => ?_⟩
          simp only [show ([10, 11, 12, 13] : List Nat).erase 10 = [11, 12, 13] from rfl, List.mem_cons, List.not_mem_nil, or_false] at hc
          rcases hc with rfl | rfl | rfl
          rotate_left
          · exact Bool.noConfusion (hfree.symm.trans (by kernel_rfl) : true = false)
          · exact Bool.noConfusion (hfree.symm.trans (by kernel_rfl) : true = false)
          refine ⟨_, rfl, rfl, stepF_val (v := .pointer (some ⟨Wa.heap.size, 0, none⟩)) (w' := Wa.alloc (.cells #[.string ⟨#[]⟩, .int .i64 0] 35)) (by go_simp) ?_⟩
          simp only [List.getElem_toArray, List.getElem_cons_zero, List.getElem_cons_succ, Act.put, List.setIfInBounds_toArray, List.set_cons_zero, List.set_cons_succ]
          have H2Z := Lib.hid (show Blk (Wa.alloc (.cells #[.string ⟨#[]⟩, .int .i64 0] 35)) Wa.heap.size 35 #[.string ⟨#[]⟩, .int .i64 0] from Blk.new _ _ _)
          have H1Z := Lib.hid (show Blk (Wa.alloc (.cells #[.string ⟨#[]⟩, .int .i64 0] 35)) H1 35 #[.string ⟨#[]⟩, .int .i64 0] from HA.out.later (below_alloc (Below.refl _ _) _))
          have HBb := Lib.hid (below_step HBa.out (below_alloc (Below.refl Wa.heap.size Wa) (.cells #[.string ⟨#[]⟩, .int .i64 0] 35)))
          have hne : H1 ≠ Wa.heap.size := by omega
          have HS1 := Lib.hid (show W8.heap.size ≤ H1 from HS9.out)
          have HS2 := Lib.hid (show W8.heap.size ≤ Wa.heap.size by rw [hs1]; have := HS9.out; omega)
          clear hs1 HA HBa HS9
          generalize Wa.alloc (.cells #[.string ⟨#[]⟩, .int .i64 0] 35) = Wb at H1Z H2Z HBb ⊢
          generalize Wa.heap.size = H2 at H1Z H2Z hne HS2 ⊢
          refine ⟨⟨cell_kept HBb.out HP8C0.out, cell_kept HBb.out HP8C1.out, cell_kept HBb.out HE0.out, cell_kept HBb.out HE1.out, cell_kept HBb.out HX0.out, cell_kept HBb.out HX1.out⟩, fun c hc hfree => ?_⟩
          obtain hc : c = 12 ∨ c = 13 := by simpa [show (([10, 11, 12, 13] : List Nat).erase 10).erase 11 = [12, 13] from rfl, show (([10, 11, 12, 13] : List Nat).erase 11).erase 10 = [12, 13] from rfl] using hc
          rcases hc with rfl | rfl
          rotate_left
          · exact Bool.noConfusion (hfree.symm.trans (by kernel_rfl) : true = false)
          have a0 := H1Z.out.cell 0
          have a1 := H1Z.out.cell 1
          have f0 := H1Z.out.frozen 0
          have f1 := H1Z.out.frozen 1
          refine ⟨_, rfl, rfl, stepF_skip (w' := (Wb.setCell ⟨H1, 0, none⟩ (.string pe.s)).setCell ⟨H1, 1, none⟩ (.int .i64 pe.mn)) (by go_simp) ?_⟩
          simp only [List.getElem_toArray, List.getElem_cons_zero, List.getElem_cons_succ, Act.put]
          have HB1 := Lib.hid ((HBb.out.setCell (p := ⟨H1, 0, none⟩) HS1.out (.string pe.s)).setCell (p := ⟨H1, 1, none⟩) HS1.out (.int .i64 pe.mn))
          have H1F := Lib.hid (show Blk ((Wb.setCell ⟨H1, 0, none⟩ (.string pe.s)).setCell ⟨H1, 1, none⟩ (.int .i64 pe.mn)) H1 35 #[.string pe.s, .int .i64 pe.mn] from by simpa using (H1Z.out.set 0 (.string pe.s)).set 1 (.int .i64 pe.mn))
          have H2F := Lib.hid ((H2Z.out.other (p := ⟨H1, 0, none⟩) hne.symm (.string pe.s)).other (p := ⟨H1, 1, none⟩) hne.symm (.int .i64 pe.mn))
          clear a0 a1 f0 f1 H1Z H2Z HBb
          generalize (Wb.setCell ⟨H1, 0, none⟩ (.string pe.s)).setCell ⟨H1, 1, none⟩ (.int .i64 pe.mn) = Wc at HB1 H1F H2F ⊢
          refine ⟨⟨cell_kept HB1.out HP8C0.out, cell_kept HB1.out HP8C1.out, cell_kept HB1.out HE0.out, cell_kept HB1.out HE1.out, cell_kept HB1.out HX0.out, cell_kept HB1.out HX1.out⟩, fun c hc hfree => ?_⟩
          obtain rfl : c = 13 := by simpa using hc
          have a0 := H2F.out.cell 0
          have a1 := H2F.out.cell 1
          have f0 := H2F.out.frozen 0
          have f1 := H2F.out.frozen 1
          refine ⟨_, rfl, rfl, stepF_skip (w' := (Wc.setCell ⟨H2, 0, none⟩ (.string px.s)).setCell ⟨H2, 1, none⟩ (.int .i64 px.mn)) (by go_simp) ?_⟩
          simp only [List.getElem_toArray, List.getElem_cons_zero, List.getElem_cons_succ, Act.put]
          have HB2 := Lib.hid ((HB1.out.setCell (p := ⟨H2, 0, none⟩) HS2.out (.string px.s)).setCell (p := ⟨H2, 1, none⟩) HS2.out (.int .i64 px.mn))
          have H2G := Lib.hid (show Blk ((Wc.setCell ⟨H2, 0, none⟩ (.string px.s)).setCell ⟨H2, 1, none⟩ (.int .i64 px.mn)) H2 35 #[.string px.s, .int .i64 px.mn] from by simpa using (H2F.out.set 0 (.string px.s)).set 1 (.int .i64 px.mn))
          have H1G := Lib.hid ((H1F.out.other (p := ⟨H2, 0, none⟩) hne (.string px.s)).other (p := ⟨H2, 1, none⟩) hne (.int .i64 px.mn))
          clear a0 a1 f0 f1 HB1 H1F H2F
          refine wpF_end ?_
          go_wp2_with fail
          go_meet
          case rel => exact ⟨H1, H2, rfl, rfl, HB2.out, H1G.out, H2G.out, HS1.out, HS2.out⟩
        · refine ⟨_, rfl, rfl, stepF_val (v := .pointer (some ⟨W9.heap.size, 0, none⟩)) (w' := W9.alloc (.cells #[.string ⟨#[]⟩, .int .i64 0] 35)) (by go_simp) ?_⟩
          simp only [List.getElem_toArray, List.getElem_cons_zero, List.getElem_cons_succ, Act.put, List.setIfInBounds_toArray, List.set_cons_zero, List.set_cons_succ]
          have HA := Lib.hid (show Blk (W9.alloc (.cells #[.string ⟨#[]⟩, .int .i64 0] 35)) W9.heap.size 35 #[.string ⟨#[]⟩, .int .i64 0] from Blk.new _ _ _)
          have HBa := Lib.hid (below_step HB9.out (below_alloc (Below.refl W9.heap.size W9) (.cells #[.string ⟨#[]⟩, .int .i64 0] 35)))
          have hs1 : (W9.alloc (.cells #[.string ⟨#[]⟩, .int .i64 0] 35)).heap.size = W9.heap.size + 1 := World.size_alloc _ _
          generalize W9.alloc (.cells #[.string ⟨#[]⟩, .int .i64 0] 35) = Wa at HA HBa hs1 ⊢
          have HS9 := Lib.hid HB9.out.size
          generalize W9.heap.size = H2 at HA hs1 HS9 ⊢
          refine ⟨⟨cell_kept HBa.out HP8C0.out, cell_kept HBa.out HP8C1.out, cell_kept HBa.out HE0.out, cell_kept HBa.out HE1.out, cell_kept HBa.out HX0.out, cell_kept HBa.out HX1.out⟩, fun c hc hfree => ?_⟩
          simp only [show ([10, 11, 12, 13] : List Nat).erase 11 = [10, 12, 13] from rfl, List.mem_cons, List.not_mem_nil, or_false] at hc
          rcases hc with rfl | rfl | rfl
          rotate_left
          · exact Bool.noConfusion (hfree.symm.trans (by kernel_rfl) : true = false)
          · exact Bool.noConfusion (hfree.symm.trans (by kernel_rfl) : true = false)
          refine ⟨_, rfl, rfl, stepF_val (v := .pointer (some ⟨Wa.heap.size, 0, none⟩)) (w' := Wa.alloc (.cells #[.string ⟨#[]⟩, .int .i64 0] 35)) (by go_simp) ?_⟩
          simp only [List.getElem_toArray, List.getElem_cons_zero, List.getElem_cons_succ, Act.put, List.setIfInBounds_toArray, List.set_cons_zero, List.set_cons_succ]
          have H1Z := Lib.hid (show Blk (Wa.alloc (.cells #[.string ⟨#[]⟩, .int .i64 0] 35)) Wa.heap.size 35 #[.string ⟨#[]⟩, .int .i64 0] from Blk.new _ _ _)
          have H2Z := Lib.hid (show Blk (Wa.alloc (.cells #[.string ⟨#[]⟩, .int .i64 0] 35)) H2 35 #[.string ⟨#[]⟩, .int .i64 0] from HA.out.later (below_alloc (Below.refl _ _) _))
          have HBb := Lib.hid (below_step HBa.out (below_alloc (Below.refl Wa.heap.size Wa) (.cells #[.string ⟨#[]⟩, .int .i64 0] 35)))
          have hne : H2 ≠ Wa.heap.size := by omega
          have HS1 := Lib.hid (show W8.heap.size ≤ H2 from HS9.out)
          have HS2 := Lib.hid (show W8.heap.size ≤ Wa.heap.size by rw [hs1]; have := HS9.out; omega)
          clear hs1 HA HBa HS9
          generalize Wa.alloc (.cells #[.string ⟨#[]⟩, .int .i64 0] 35) = Wb at H1Z H2Z HBb ⊢
          generalize Wa.heap.size = H1 at H1Z H2Z hne HS2 ⊢
          refine ⟨⟨cell_kept HBb.out HP8C0.out, cell_kept HBb.out HP8C1.out, cell_kept HBb.out HE0.out, cell_kept HBb.out HE1.out, cell_kept HBb.out HX0.out, cell_kept HBb.out HX1.out⟩, fun c hc hfree => ?_⟩
          obtain hc : c = 12 ∨ c = 13 := by simpa [show (([10, 11, 12, 13] : List Nat).erase 10).erase 11 = [12, 13] from rfl, show (([10, 11, 12, 13] : List Nat).erase 11).erase 10 = [12, 13] from rfl] using hc
          rcases hc with rfl | rfl
          rotate_left
          · exact Bool.noConfusion (hfree.symm.trans (by kernel_rfl) : true = false)
          have a0 := H1Z.out.cell 0
          have a1 := H1Z.out.cell 1
          have f0 := H1Z.out.frozen 0
          have f1 := H1Z.out.frozen 1
          refine ⟨_, rfl, rfl, stepF_skip (w' := (Wb.setCell ⟨H1, 0, none⟩ (.string pe.s)).setCell ⟨H1, 1, none⟩ (.int .i64 pe.mn)) (by go_simp) ?_⟩
          simp only [List.getElem_toArray, List.getElem_cons_zero, List.getElem_cons_succ, Act.put]
          have HB1 := Lib.hid ((HBb.out.setCell (p := ⟨H1, 0, none⟩) HS2.out (.string pe.s)).setCell (p := ⟨H1, 1, none⟩) HS2.out (.int .i64 pe.mn))
          have H1F := Lib.hid (show Blk ((Wb.setCell ⟨H1, 0, none⟩ (.string pe.s)).setCell ⟨H1, 1, none⟩ (.int .i64 pe.mn)) H1 35 #[.string pe.s, .int .i64 pe.mn] from by simpa using (H1Z.out.set 0 (.string pe.s)).set 1 (.int .i64 pe.mn))
          have H2F := Lib.hid ((H2Z.out.other (p := ⟨H1, 0, none⟩) hne.symm.symm (.string pe.s)).other (p := ⟨H1, 1, none⟩) hne.symm.symm (.int .i64 pe.mn))
          clear a0 a1 f0 f1 H1Z H2Z HBb
          generalize (Wb.setCell ⟨H1, 0, none⟩ (.string pe.s)).setCell ⟨H1, 1, none⟩ (.int .i64 pe.mn) = Wc at HB1 H1F H2F ⊢
          refine ⟨⟨cell_kept HB1.out HP8C0.out, cell_kept HB1.out HP8C1.out, cell_kept HB1.out HE0.out, cell_kept HB1.out HE1.out, cell_kept HB1.out HX0.out, cell_kept HB1.out HX1.out⟩, fun c hc hfree => ?_⟩
          obtain rfl : c = 13 := by simpa using hc
          have a0 := H2F.out.cell 0
          have a1 := H2F.out.cell 1
          have f0 := H2F.out.frozen 0
          have f1 := H2F.out.frozen 1
          refine ⟨_, rfl, rfl, stepF_skip (w' := (Wc.setCell ⟨H2, 0, none⟩ (.string px.s)).setCell ⟨H2, 1, none⟩ (.int .i64 px.mn)) (by go_simp) ?_⟩
          simp only [List.getElem_toArray, List.getElem_cons_zero, List.getElem_cons_succ, Act.put]
          have HB2 := Lib.hid ((HB1.out.setCell (p := ⟨H2, 0, none⟩) HS1.out (.string px.s)).setCell (p := ⟨H2, 1, none⟩) HS1.out (.int .i64 px.mn))
          have H2G := Lib.hid (show Blk ((Wc.setCell ⟨H2, 0, none⟩ (.string px.s)).setCell ⟨H2, 1, none⟩ (.int .i64 px.mn)) H2 35 #[.string px.s, .int .i64 px.mn] from by simpa using (H2F.out.set 0 (.string px.s)).set 1 (.int .i64 px.mn))
          have H1G := Lib.hid ((H1F.out.other (p := ⟨H2, 0, none⟩) hne.symm (.string px.s)).other (p := ⟨H2, 1, none⟩) hne.symm (.int .i64 px.mn))
          clear a0 a1 f0 f1 HB1 H1F H2F
          refine wpF_end ?_
          go_wp2_with fail
          go_meet
          case rel => exact ⟨H1, H2, rfl, rfl, HB2.out, H1G.out, H2G.out, HS2.out, HS1.out⟩
        · exact Bool.noConfusion (hfree.symm.trans (by kernel_rfl) : true = false)
        · exact Bool.noConfusion (hfree.symm.trans (by kernel_rfl) : true = false)
      case rest =>
        obtain ⟨H1, H2, rfl, rfl, hbx, hh1, hh2, hg1, hg2⟩ := hcut
        have HBX := Lib.hid (below_step HB8.out hbx)
        have HH1 := Lib.hid hh1
        have HH2 := Lib.hid hh2
        have HUX := Lib.hid (HU8.out.later hbx)
        have HPX2 := Lib.hid (HP8.out.later hbx)
        have hP8 := HP8.out.lt
        have HD1 := Lib.hid (show H1 ≠ UB by omega)
        have HD2 := Lib.hid (show H2 ≠ UB by omega)
        have HD3 := Lib.hid (show PB ≠ UB by omega)
        clear hbx hh1 hh2 hg1 hg2 hP8 HB8 HU8 HP8 HE0 HE1 HX0 HX1
        have m1 := HH1.out.cell 1
        have m2 := HH2.out.cell 1
        by_cases hmn : px.mn ≤ pe.mn
        · have hd : decide (px.mn ≤ pe.mn) = true := decide_eq_true hmn
          obtain rfl : none = V := by rw [← HE2.out, costF_n6 (by rw [HPE.out, HPX.out]; exact hmn)]
          go_wp2
          refine bodyPost_ret (results_tmp2 rfl _ _ _) rfl ?_
          exact ⟨rfl, HBX.out⟩
        have hd : decide (px.mn ≤ pe.mn) = false := decide_eq_false hmn
        have HN := Lib.hid (show costF E X i (U.set j true) (C + (dP pe px - 10)) (l.drop (k + 1)) = V by rw [← HE2.out, costF_ok (by omega) hi hj hbt (by rw [HPE.out, HPX.out]; omega), HPE.out, HPX.out])
        go_upto_region 13 with (fail)
        clear m1 m2
        have HPC0 := Lib.hid (show wc.cell? ⟨PB, 0, none⟩ = some (.int .i64 (i : Int)) from HPX2.out.cell 0)
        have HPC1 := Lib.hid (show wc.cell? ⟨PB, 1, none⟩ = some (.int .i64 (j : Int)) from HPX2.out.cell 1)
        refine wp_region_maskF [4, 6] [true, true, true, true, false, true, false] (fun w'' => w''.cell? ⟨PB, 0, none⟩ = some (.int .i64 (i : Int)) ∧ w''.cell? ⟨PB, 1, none⟩ = some (.int .i64 (j : Int))) mixed (by kernel_rfl) ?_
        intro KR hR
        have HR := Lib.hid hR
        clear hR
        simp only [marked]
        apply wpM_val rfl
        · (intro w' hw'; go_simp; with_reducible rfl)
        simp only [Act.put, List.setIfInBounds_toArray, List.set_cons_zero, List.set_cons_succ]
        apply wpM_val rfl
        · (intro w' hw'; obtain ⟨c0, c1⟩ := hw'; go_simp; with_reducible rfl)
        simp only [Act.put, List.setIfInBounds_toArray, List.set_cons_zero, List.set_cons_succ]
        apply wpM_val rfl
        · (intro w' hw'; go_simp; with_reducible rfl)
        simp only [Act.put, List.setIfInBounds_toArray, List.set_cons_zero, List.set_cons_succ]
        apply wpM_val rfl
        · (intro w' hw'; obtain ⟨c0, c1⟩ := hw'; go_simp; with_reducible rfl)
        simp only [Act.put, List.setIfInBounds_toArray, List.set_cons_zero, List.set_cons_succ]
        apply wpM_val rfl
        · (intro w' hw'; go_simp; with_reducible rfl)
        simp only [Act.put, List.setIfInBounds_toArray, List.set_cons_zero, List.set_cons_succ]
        refine wpM_nil (HR.out _ ?_)
        clear HR
        have HBd := Lib.hid (show Below wc.heap.size wc wc.drew from (Below.refl _ _).drew)
        have HUd := Lib.hid (HUX.out.later HBd.out)
        have HBw := Lib.hid (below_step HBX.out HBd.out)
        generalize wc.drew = wd at HBd HUd HBw ⊢
        refine ⟨⟨cell_kept HBd.out HPC0.out, cell_kept HBd.out HPC1.out⟩, fun c hc hfree => ?_⟩
        simp only [List.mem_cons, List.not_mem_nil, or_false] at hc
        rcases hc with rfl | rfl
        rotate_left
        · exact Bool.noConfusion (hfree.symm.trans (by kernel_rfl) : true = false)
        refine ⟨_, rfl, rfl, stepF_val (v := .int .i64 (i : Int)) (w' := wd) (by go_simp) ?_⟩
        simp only [List.getElem_toArray, List.getElem_cons_zero, List.getElem_cons_succ, Act.put, List.setIfInBounds_toArray, List.set_cons_zero, List.set_cons_succ]
        refine ⟨⟨cell_kept HBd.out HPC0.out, cell_kept HBd.out HPC1.out⟩, fun c hc hfree => ?_⟩
        obtain rfl : c = 6 := by simpa using hc
        have u0 : wd.cell? ⟨UB, j, none⟩ = some (.bool false) := ((HUd.out.cell j).trans (bools_get (by omega))).trans (by rw [hbt])
        have uf := HUd.out.frozen j
        refine ⟨_, rfl, rfl, stepF_skip (w' := wd.setCell ⟨UB, j, none⟩ (.bool true)) (by go_simp) ?_⟩
        simp only [List.getElem_toArray, List.getElem_cons_zero, List.getElem_cons_succ, Act.put]
        have HUn := Lib.hid (show Blk (wd.setCell ⟨UB, j, none⟩ (.bool true)) UB 64 (bools (U.set j true)) by rw [← bools_set]; exact HUd.out.set j (.bool true))
        have HBn := Lib.hid (HBw.out.setCell (p := ⟨UB, j, none⟩) HUB.out (.bool true))
        have HH1n := Lib.hid ((HH1.out.later HBd.out).other (p := ⟨UB, j, none⟩) HD1.out (.bool true))
        have HH2n := Lib.hid ((HH2.out.later HBd.out).other (p := ⟨UB, j, none⟩) HD2.out (.bool true))
        clear u0 uf HUd HBw HBd HUX HBX HH1 HH2 HPC0 HPC1 HPX2
        generalize wd.setCell ⟨UB, j, none⟩ (.bool true) = we at HUn HBn HH1n HH2n ⊢
        refine wpF_end ?_
        have s0 := HH1n.out.cell 0
        have s1 := HH1n.out.cell 1
        have t0 := HH2n.out.cell 0
        have t1 := HH2n.out.cell 1
        obtain ⟨dd, hdd⟩ : ∃ d, dP pe px = d := ⟨_, rfl⟩
        have hdd1 : 0 ≤ dd := hdd ▸ dP_pos pe px
        have hdd2 : dd ≤ 20 := hdd ▸ dP_le pe px
        have HDC := Lib.hid (hdd ▸ distance_any pe px we (HT.out.below HBn.out))
        rw [hdd] at HN
        clear hdd
        go_wp2_with fail
        refine HDC.out.mono ?_
        rintro _ wf ⟨rfl, hb⟩
        have HBf := Lib.hid (below_step HBn.out hb)
        have HUf := Lib.hid (HUn.out.later hb)
        clear hb HBn HUn s0 s1 t0 t1 HDC HH1n HH2n
        go_wp2
        go_roundw
        case rel => exact ⟨k + 1, i, C + (dd - 10), U.set j true, by omega, by go_num, rfl, by go_num, by rw [List.length_set]; exact hU8, HBf.out, HUf.out, HN.out, by omega, by omega, by omega, by omega, by omega⟩
        case measure => simp [intOf]; omega
    · obtain rfl : k = l.length := by omega
      obtain rfl : some C = V := by rw [← HZ.out, List.drop_length]; rfl
      go_wp2
      refine bodyPost_ret (results_tmp2 rfl _ _ _) rfl ?_
      exact ⟨rfl, HB.out⟩

end Go.Proofs.YtmcodendnpjlaaaDoor
