/- Chapter 37: turned. -/
import Derived.Test.YtmcodendnpjlaaaDoorPlainK37
import Derived.Test.YtmcodendnpjlaaaDoorWs37
namespace Go.Proofs.YtmcodendnpjlaaaDoor
open Go.RowKit
attribute [local go_sem] Oper.semAt_some

theorem elemPs : ElemI Tryd.prog 22 35 2 24 := ElemI.of Tryd.underlying22 (by kernel_rfl) (by decide)
theorem run_append1R {P : Program} {w2 wr : World} {tt ty e : TypeId} {size bytes : Nat} {v : Value} {n : Nat} {xs news : List Value} (hI : ElemI P tt e size bytes) (hG : Row w2 wr e size v n xs) (hn : n + 1 ≤ 1000000000) (hb : bytes ≤ 100000) (hlen : news.length = size) (h1 : ∀ u ∈ news, u.oneCell' = true) {g : Nat} (hcs : ∀ j u, news[j]? = some u → wr.cell? ⟨g, j, none⟩ = some u) :
    ∃ v' w', (Builtin.append_ #[tt, tt] ty #[v, .slice (some ⟨g, 0, none⟩) 1 1]).run P wr = .ok v' w' ∧ Row w2 w' e size v' (n + 1) (xs ++ news) := by
  obtain ⟨i, z, hi, hz, h2, h3, h4⟩ := hI.info
  obtain ⟨v', w', hr, hown, hgrow, _⟩ := run_append_own_at (P := P) wr w2.heap.size tt ty e i z size bytes hI.under hi hz h2 h3 h4 hI.pos v n xs hG.own ⟨g, 0, none⟩ 1 1 news (by rw [hlen, Nat.one_mul]) (by
    intro j u hj
    rw [Addr.add_lit, Nat.zero_add]
    exact hcs j u hj) h1 (by simp only [maxLen]; omega) (by have := Nat.mul_le_mul hn hb; omega) hG.below.size
  exact ⟨v', w', hr, hG.app hown hgrow⟩
theorem run_exec_append {P : Program} {a : Act} {o : Oper} {s x : Operand} {ts : Array TypeId} {v1 v2 v' : Value} {w w' : World} (hop : o.op = .call { callee := .builtin .append, args := #[s, x], argTypes := ts }) (hs : a.eval s = v1) (hx : a.eval x = v2) (hrun : (Builtin.append_ ts o.type #[v1, v2]).run P w = .ok v' w') : (execOp a.eval o).run P w = .ok (.value v') w' := by
  simp [execOp, hop, resolve, invoke, builtin, hs, hx, hrun, Result.andThen]
def psC (p : Ps) : List Value := [.string p.s, .int .i64 p.mn]
def flatPs (l : List Ps) : List Value := l.flatMap psC
theorem flatPs_get : ∀ (l : List Ps) (i j : Nat), i < l.length → j < 2 → (flatPs l)[i * 2 + j]? = (psC (l.getD i Ps.zero))[j]?
  | [], i, j, hi, hj => by simp at hi
  | x :: l, 0, j, hi, hj => by
    show (psC x ++ flatPs l)[_]? = _
    rw [List.getElem?_append_left (by simp [psC]; omega)]
    simp
  | x :: l, i + 1, j, hi, hj => by
    show (psC x ++ flatPs l)[_]? = _
    rw [List.getElem?_append_right (by simp [psC]; omega), show (i + 1) * 2 + j - (psC x).length = i * 2 + j by simp [psC]; omega, flatPs_get l i j (by simpa using hi) hj]
    simp
theorem flatPs_one (p : Ps) : ∀ u ∈ psC p, u.oneCell' = true := fun u hu => by
  simp [psC] at hu
  rcases hu with rfl | rfl <;> rfl
theorem Row.pss {w2 wr : World} {e : TypeId} {v : Value} {n cap : Nat} {o : Option Addr} {l : List Ps} (h : Row w2 wr e 2 v n (flatPs l)) (hv : v = .slice o n cap) : Pss wr o l := fun i hi => by
  obtain ⟨g, ho, _, c0⟩ := h.cell hv (j := i * 2) (u := .string (l.getD i Ps.zero).s) (by have := flatPs_get l i 0 hi (by omega); simpa [psC] using this)
  obtain ⟨g', ho', _, c1⟩ := h.cell hv (j := i * 2 + 1) (u := .int .i64 (l.getD i Ps.zero).mn) (by have := flatPs_get l i 1 hi (by omega); simpa [psC] using this)
  rw [ho] at ho'
  obtain rfl : g = g' := by injection ho' with h1; injection h1
  exact ⟨g, 0, ho, by simpa using c0, by simpa using c1⟩
/-- What is done when j passes are left. -/
def doneL (l : List Ps) (j : Nat) : List Ps := ((l.drop j).reverse).map tp
theorem doneL_next {l : List Ps} {j : Nat} (h : j < l.length) : doneL l j = doneL l (j + 1) ++ [tp (l.getD j Ps.zero)] := by
  unfold doneL
  rw [dropP h, List.reverse_cons, List.map_append]
  rfl
theorem doneL_len (l : List Ps) (j : Nat) : (doneL l j).length = l.length - j := by simp [doneL]
theorem doneL_all (l : List Ps) : doneL l 0 = turnL l := rfl
theorem doneL_none (l : List Ps) : doneL l l.length = [] := by simp [doneL]
theorem flatPs_snoc (l : List Ps) (p : Ps) : flatPs (l ++ [p]) = flatPs l ++ psC p := by simp [flatPs]
def TOut (l : List Ps) (w : World) (e : Ending) (w' : World) : Prop := ∃ o cap, e = .returned (.slice o l.length cap) ∧ Pss w' o (turnL l) ∧ Below w.heap.size w w' ∧ l.length ≤ cap

structure TurnI (l : List Ps) (j : Nat) (mn : Int) : Prop where
  wr : IntKind.i64.wrap (52560000 - mn) = 52560000 - mn
  y1 : (0 : Int) ≤ (j : Int)
  y2 : (j : Int) < (l.length : Int)
  w2 : IntKind.i64.wrap ((j : Int) - 1) = (j : Int) - 1
  w3 : wrap64 ((j : Int) - 1) = (j : Int) - 1
theorem turnI {l : List Ps} {j : Nat} {mn : Int} (hj : j < l.length) (h8 : l.length ≤ 8) (hm : 0 ≤ mn ∧ mn ≤ 52560000) : TurnI l j mn := ⟨IntWalk.i64_in _ (by omega), by omega, by omega, IntWalk.i64_in _ (by omega), by unfold wrap64; omega⟩

set_option maxRecDepth 100000 in
set_option maxHeartbeats 16000000 in
theorem turned_any (o : Option Addr) (cap : Nat) (l : List Ps) (w : World) (hr : Pss w o l) (h8 : l.length ≤ 8) (hm : ∀ p ∈ l, 0 ≤ p.mn ∧ p.mn ≤ 52560000) : Calls Tryd.prog 24 #[.slice o l.length cap] w (TOut l w) := by
  have HP := Lib.hid hr
  have HM := Lib.hid hm
  clear hr hm
  go_enter Tryd.func24, Tryd.ntmps24
  go_wp2
  go_loopw [3, 4] (fun v i wr => ∃ (j : Nat) (x : Int), j ≤ l.length ∧ i = .int .i64 x ∧ x = (j : Int) - 1 ∧ Row w wr 35 2 v (l.length - j) (flatPs (doneL l j))) (fun _ i _ => (intOf i + 1).toNat)
  case atStart => exact ⟨l.length, _, Nat.le_refl _, rfl, rfl, by rw [Nat.sub_self, doneL_none]; exact Row.nil w _ 2⟩
  case round =>
    obtain ⟨j, x, hj, rfl, hx, hrow⟩ := hrel
    cases j with
    | zero =>
      obtain rfl : x = -1 := by omega
      obtain ⟨oR, cR, rfl, hcap⟩ := hrow.shape
      have HO := Lib.hid (show Pss wr oR (turnL l) ∧ Below w.heap.size w wr ∧ l.length ≤ cR from ⟨Row.pss hrow rfl, hrow.below, hcap⟩)
      clear hrow hcap hx
      go_wp2
      go_ret
      exact ⟨oR, cR, rfl, HO.out.1, HO.out.2.1, HO.out.2.2⟩
    | succ j =>
      obtain rfl : x = (j : Int) := by omega
      have HROW := Lib.hid hrow
      clear hrow hx
      have HLT := Lib.hid (show j < l.length from hj)
      obtain ⟨g, off, hgo, c0, c1⟩ := HP.out j HLT.out
      subst hgo
      have HTI := Lib.hid (turnI HLT.out h8 (HM.out (l.getD j Ps.zero) (by rw [List.getD_eq_getElem?_getD, List.getElem?_eq_getElem HLT.out]; exact List.getElem_mem HLT.out)))
      have HNX := Lib.hid (show flatPs (doneL l j) = flatPs (doneL l (j + 1)) ++ psC (tp (l.getD j Ps.zero)) by rw [doneL_next HLT.out, flatPs_snoc])
      obtain ⟨p, hp⟩ : ∃ p, l.getD j Ps.zero = p := ⟨_, rfl⟩
      rw [hp] at c0 c1 HTI HNX
      clear hp
      have y1 := HTI.out.y1
      have y2 := HTI.out.y2
      have q1 := HTI.out.wr
      have HC0 := Lib.hid c0
      have HC1 := Lib.hid c1
      clear c0 c1
      have HNN := Lib.hid (show l.length - (j + 1) + 1 = l.length - j ∧ l.length - (j + 1) + 1 ≤ 1000000000 by have := HLT.out; omega)
      go_wp2_with fail
      refine wp_region_maskF [0, 13, 14, 15] [false, true, true, true, true, true, true, true, true, true, true, true, true, false, false, false] (fun w'' => w''.cell? ⟨g, off + j * 2, none⟩ = some (.string p.s) ∧ w''.cell? ⟨g, off + j * 2 + 1, none⟩ = some (.int .i64 p.mn)) mixed (by kernel_rfl) ?_
      intro KR hR
      have HR := Lib.hid hR
      clear hR
      simp only [marked]
      apply wpM_val rfl
      · (intro w' hw'; go_simp; with_reducible rfl)
      simp only [Act.put, List.setIfInBounds_toArray, List.set_cons_zero, List.set_cons_succ]
      apply wpM_val rfl
      · (intro w' hw'; go_simp; with_reducible rfl)
      simp only [Act.put, List.setIfInBounds_toArray, List.set_cons_zero, List.set_cons_succ]
      apply wpM_val rfl
      · (intro w' hw'; go_simp; with_reducible rfl)
      simp only [Act.put, List.setIfInBounds_toArray, List.set_cons_zero, List.set_cons_succ]
      apply wpM_val rfl
      · (intro w' hw'; go_simp; with_reducible rfl)
      simp only [Act.put, List.setIfInBounds_toArray, List.set_cons_zero, List.set_cons_succ]
      apply wpM_val rfl
      · (intro w' hw'; obtain ⟨c0, c1⟩ := hw'; go_simp; with_reducible rfl)
      simp only [Act.put, List.setIfInBounds_toArray, List.set_cons_zero, List.set_cons_succ]
      apply wpM_val rfl
      · (intro w' hw'; go_simp; with_reducible rfl)
      simp only [Act.put, List.setIfInBounds_toArray, List.set_cons_zero, List.set_cons_succ]
      apply wpM_val rfl
      · (intro w' hw'; go_simp; with_reducible rfl)
      simp only [Act.put, List.setIfInBounds_toArray, List.set_cons_zero, List.set_cons_succ]
      apply wpM_val rfl
      · (intro w' hw'; go_simp; with_reducible rfl)
      simp only [Act.put, List.setIfInBounds_toArray, List.set_cons_zero, List.set_cons_succ]
      apply wpM_val rfl
      · (intro w' hw'; go_simp; with_reducible rfl)
      simp only [Act.put, List.setIfInBounds_toArray, List.set_cons_zero, List.set_cons_succ]
      apply wpM_val rfl
      · (intro w' hw'; obtain ⟨c0, c1⟩ := hw'; go_simp; with_reducible rfl)
      simp only [Act.put, List.setIfInBounds_toArray, List.set_cons_zero, List.set_cons_succ]
      apply wpM_val rfl
      · (intro w' hw'; go_simp; with_reducible rfl)
      simp only [Act.put, List.setIfInBounds_toArray, List.set_cons_zero, List.set_cons_succ]
      apply wpM_val rfl
      · (intro w' hw'; go_simp; with_reducible rfl)
      simp only [Act.put, List.setIfInBounds_toArray, List.set_cons_zero, List.set_cons_succ]
      refine wpM_nil (HR.out _ ?_)
      clear HR
      have HR9 := Lib.hid (HROW.out.later (Below.refl _ _).drew)
      generalize wr.drew = W9 at HR9 ⊢
      have HB9 := Lib.hid HR9.out.below
      refine ⟨⟨cell_kept HB9.out HC0.out, cell_kept HB9.out HC1.out⟩, fun c hc hfree => ?_⟩
      simp only [List.mem_cons, List.not_mem_nil, or_false] at hc
      rcases hc with rfl | rfl | rfl | rfl
      · refine ⟨_, rfl, rfl, stepF_val (v := u3) (w' := W9) (by go_simp) ?_⟩
        simp only [List.getElem_toArray, List.getElem_cons_zero, Act.put, List.setIfInBounds_toArray, List.set_cons_zero, List.set_cons_succ]
        refine ⟨⟨cell_kept HB9.out HC0.out, cell_kept HB9.out HC1.out⟩, fun c hc hfree => ?_⟩
        simp only [List.erase_cons_head, List.mem_cons, List.not_mem_nil, or_false] at hc
        rcases hc with rfl | rfl | rfl
        rotate_left
        · exact Bool.noConfusion (hfree.symm.trans (by kernel_rfl) : true = false)
        · exact Bool.noConfusion (hfree.symm.trans (by kernel_rfl) : true = false)
        refine ⟨_, rfl, rfl, stepF_val (v := .slice (some ⟨W9.heap.size, 0, none⟩) 1 1) (w' := W9.alloc (.cells #[.string p.s, .int .i64 (52560000 - p.mn)] 35)) (by go_simp) ?_⟩
        simp only [List.getElem_toArray, List.getElem_cons_zero, List.getElem_cons_succ, Act.put, List.setIfInBounds_toArray, List.set_cons_zero, List.set_cons_succ]
        have HRB := Lib.hid (show Row w (W9.alloc (.cells #[.string p.s, .int .i64 (52560000 - p.mn)] 35)) 35 2 u3 (l.length - (j + 1)) (flatPs (doneL l (j + 1))) from HR9.out.alloc _)
        have HCS := Lib.hid (show ∀ i u, (psC (tp p))[i]? = some u → (W9.alloc (.cells #[.string p.s, .int .i64 (52560000 - p.mn)] 35)).cell? ⟨W9.heap.size, i, none⟩ = some u from fun i u hi => ((Blk.new W9 35 #[.string p.s, .int .i64 (52560000 - p.mn)]).cell i).trans (by simpa [psC, tp] using hi))
        have HBB := Lib.hid HRB.out.below
        generalize W9.alloc (.cells #[.string p.s, .int .i64 (52560000 - p.mn)] 35) = Wb at HRB HCS HBB ⊢
        generalize W9.heap.size = GB at HCS ⊢
        refine ⟨⟨cell_kept HBB.out HC0.out, cell_kept HBB.out HC1.out⟩, fun c hc hfree => ?_⟩
        obtain hc : c = 14 ∨ c = 15 := by simpa [show (([0, 13, 14, 15] : List Nat).erase 0).erase 13 = [14, 15] from rfl, show (([0, 13, 14, 15] : List Nat).erase 13).erase 0 = [14, 15] from rfl] using hc
        rcases hc with rfl | rfl
        rotate_left
        · exact Bool.noConfusion (hfree.symm.trans (by kernel_rfl) : true = false)
        obtain ⟨v6, w6, hrun, hrow6⟩ := run_append1R (P := Tryd.prog) (tt := 22) (ty := 22) (news := psC (tp p)) elemPs HRB.out HNN.out.2 (by decide) rfl (flatPs_one _) HCS.out
        refine ⟨_, rfl, rfl, stepF_val (v := v6) (w' := w6) (run_exec_append rfl rfl rfl hrun) ?_⟩
        simp only [List.getElem_toArray, List.getElem_cons_zero, List.getElem_cons_succ, Act.put, List.setIfInBounds_toArray, List.set_cons_zero, List.set_cons_succ]
        have HR6 := Lib.hid hrow6
        clear hrow6 hrun
        have HB6 := Lib.hid HR6.out.below
        refine ⟨⟨cell_kept HB6.out HC0.out, cell_kept HB6.out HC1.out⟩, fun c hc hfree => ?_⟩
        obtain rfl : c = 15 := by simpa using hc
        refine ⟨_, rfl, rfl, stepF_val (v := v6) (w' := w6) (by go_simp) ?_⟩
        simp only [List.getElem_toArray, List.getElem_cons_zero, List.getElem_cons_succ, Act.put, List.setIfInBounds_toArray, List.set_cons_zero, List.set_cons_succ]
        refine wpF_end ?_
        go_wp2
        go_roundw
        case rel => exact ⟨j, (j : Int) - 1, Nat.le_of_lt HLT.out, by go_num, rfl, by rw [HNX.out]; exact HR6.out.cast HNN.out.1 rfl⟩
        case measure => simp [intOf]
      · refine ⟨_, rfl, rfl, stepF_val (v := .slice (some ⟨W9.heap.size, 0, none⟩) 1 1) (w' := W9.alloc (.cells #[.string p.s, .int .i64 (52560000 - p.mn)] 35)) (by go_simp) ?_⟩
        simp only [List.getElem_toArray, List.getElem_cons_zero, List.getElem_cons_succ, Act.put, List.setIfInBounds_toArray, List.set_cons_zero, List.set_cons_succ]
        have HRB := Lib.hid (show Row w (W9.alloc (.cells #[.string p.s, .int .i64 (52560000 - p.mn)] 35)) 35 2 u3 (l.length - (j + 1)) (flatPs (doneL l (j + 1))) from HR9.out.alloc _)
        have HCS := Lib.hid (show ∀ i u, (psC (tp p))[i]? = some u → (W9.alloc (.cells #[.string p.s, .int .i64 (52560000 - p.mn)] 35)).cell? ⟨W9.heap.size, i, none⟩ = some u from fun i u hi => ((Blk.new W9 35 #[.string p.s, .int .i64 (52560000 - p.mn)]).cell i).trans (by simpa [psC, tp] using hi))
        have HBB := Lib.hid HRB.out.below
        generalize W9.alloc (.cells #[.string p.s, .int .i64 (52560000 - p.mn)] 35) = Wb at HRB HCS HBB ⊢
        generalize W9.heap.size = GB at HCS ⊢
        refine ⟨⟨cell_kept HBB.out HC0.out, cell_kept HBB.out HC1.out⟩, fun c hc hfree => ?_⟩
        simp only [show ([0, 13, 14, 15] : List Nat).erase 13 = [0, 14, 15] from rfl, List.mem_cons, List.not_mem_nil, or_false] at hc
        rcases hc with rfl | rfl | rfl
        rotate_left
        · exact Bool.noConfusion (hfree.symm.trans (by kernel_rfl) : true = false)
        · exact Bool.noConfusion (hfree.symm.trans (by kernel_rfl) : true = false)
        refine ⟨_, rfl, rfl, stepF_val (v := u3) (w' := Wb) (by go_simp) ?_⟩
        simp only [List.getElem_toArray, List.getElem_cons_zero, Act.put, List.setIfInBounds_toArray, List.set_cons_zero, List.set_cons_succ]
        refine ⟨⟨cell_kept HBB.out HC0.out, cell_kept HBB.out HC1.out⟩, fun c hc hfree => ?_⟩
        obtain hc : c = 14 ∨ c = 15 := by simpa [show (([0, 13, 14, 15] : List Nat).erase 0).erase 13 = [14, 15] from rfl, show (([0, 13, 14, 15] : List Nat).erase 13).erase 0 = [14, 15] from rfl] using hc
        rcases hc with rfl | rfl
        rotate_left
        · exact Bool.noConfusion (hfree.symm.trans (by kernel_rfl) : true = false)
        obtain ⟨v6, w6, hrun, hrow6⟩ := run_append1R (P := Tryd.prog) (tt := 22) (ty := 22) (news := psC (tp p)) elemPs HRB.out HNN.out.2 (by decide) rfl (flatPs_one _) HCS.out
        refine ⟨_, rfl, rfl, stepF_val (v := v6) (w' := w6) (run_exec_append rfl rfl rfl hrun) ?_⟩
        simp only [List.getElem_toArray, List.getElem_cons_zero, List.getElem_cons_succ, Act.put, List.setIfInBounds_toArray, List.set_cons_zero, List.set_cons_succ]
        have HR6 := Lib.hid hrow6
        clear hrow6 hrun
        have HB6 := Lib.hid HR6.out.below
        refine ⟨⟨cell_kept HB6.out HC0.out, cell_kept HB6.out HC1.out⟩, fun c hc hfree => ?_⟩
        obtain rfl : c = 15 := by simpa using hc
        refine ⟨_, rfl, rfl, stepF_val (v := v6) (w' := w6) (by go_simp) ?_⟩
        simp only [List.getElem_toArray, List.getElem_cons_zero, List.getElem_cons_succ, Act.put, List.setIfInBounds_toArray, List.set_cons_zero, List.set_cons_succ]
        refine wpF_end ?_
        go_wp2
        go_roundw
        case rel => exact ⟨j, (j : Int) - 1, Nat.le_of_lt HLT.out, by go_num, rfl, by rw [HNX.out]; exact HR6.out.cast HNN.out.1 rfl⟩
        case measure => simp [intOf]
      · exact Bool.noConfusion (hfree.symm.trans (by kernel_rfl) : true = false)
      · exact Bool.noConfusion (hfree.symm.trans (by kernel_rfl) : true = false)

end Go.Proofs.YtmcodendnpjlaaaDoor