/- Package auditor: derive$1. -/
import Derived.Test.YtkfmmiekajgdjaaGreatWn43
namespace Go.Proofs.YtkfmmiekajgdjaaGreat
open Go.RowKit
attribute [local go_sem] Oper.semAt_some

/-- What adding an energy in a minute does to the end and the slices. -/
def addP (m en : Int) (st : Int × List (Int × Int)) : Int × List (Int × Int) :=
  if en = 0 then st
  else if 0 < st.2.length ∧ (st.2.getD (st.2.length - 1) (0, 0)).1 = m then (st.1, st.2.set (st.2.length - 1) (m, (st.2.getD (st.2.length - 1) (0, 0)).2 + en))
  else (m + 1, st.2 ++ [(m, en)])
/-- A session that is made: its box, and its slices behind it. -/
def DBx (w2 W : World) (f t e : Int) (l : List (Int × Int)) : Prop :=
  ∃ o cap, Grow w2 W 50 2 35 #[.int .i64 f, .int .i64 t, .int .i64 e, .slice o l.length cap] (.slice o l.length cap) l.length (flatT l)
theorem Grow.rowSet {w2 wr : World} {e : TypeId} {size : Nat} {t : TypeId} {cs : Array Value} {g cap n : Nat} {xs : List Value} (h : Grow w2 wr e size t cs (.slice (some ⟨g, 0, none⟩) n cap) n xs) (j : Nat) (u : Value) : Grow w2 (wr.setCell ⟨g, j, none⟩ u) e size t cs (.slice (some ⟨g, 0, none⟩) n cap) n (xs.set j u) := by
  obtain ⟨h1, h2⟩ := h.own.stored j u
  exact h.app h1 h2
theorem flatT_set2 : ∀ (l : List (Int × Int)) (i : Nat) (a b : Int), i < l.length → (l.getD i (0, 0)).1 = a → (flatT l).set (i * 2 + 1) (.int .i64 b) = flatT (l.set i (a, b))
  | x :: l, 0, a, b, _, h => by
    have h1 : x.1 = a := h
    subst h1
    simp [flatT, twoC]
  | x :: l, i + 1, a, b, hi, h => by
    have ih := flatT_set2 l i a b (by simpa using hi) (by simpa using h)
    rw [List.set_cons_succ, flatT_cons, flatT_cons, ← ih, List.set_append_right _ _ (by simp [twoC]; omega)]
    simp only [twoC, List.length_cons, List.length_nil]
    congr 2
    omega

set_option maxRecDepth 100000 in
set_option maxHeartbeats 16000000 in
theorem derive1_any (w2 W : World) (f t e m en : Int) (l : List (Int × Int)) (h : DBx w2 W f t e l) (hl : l.length ≤ 64) (hx : ∀ x ∈ l, 0 ≤ x.2 ∧ x.2 ≤ 64000000000) (he0 : 0 ≤ en) (he1 : en ≤ 1000000000) (hm0 : 0 ≤ m) (hm1 : m ≤ 52560000) : Calls Tryz.prog 76 #[.int .i64 m, .int .i64 en, .pointer (some ⟨w2.heap.size, 0, none⟩)] W (fun E W' => E = .returned (.tuple #[]) ∧ DBx w2 W' f t (addP m en (e, l)).1 (addP m en (e, l)).2) := by
  obtain ⟨o, cap, hg⟩ := h
  have HG := Lib.hid hg
  have HXB := Lib.hid hx
  clear hg hx
  have HOUT := Lib.hid (fun (W' : World) (h : DBx w2 W' f t (addP m en (e, l)).1 (addP m en (e, l)).2) => show (fun E W' => E = .returned (.tuple #[]) ∧ DBx w2 W' f t (addP m en (e, l)).1 (addP m en (e, l)).2) (Ending.returned (.tuple #[])) W' from ⟨rfl, h⟩)
  have HDEF := Lib.hid (show addP m en (e, l) = (if en = 0 then (e, l) else if 0 < l.length ∧ (l.getD (l.length - 1) (0, 0)).1 = m then (e, l.set (l.length - 1) (m, (l.getD (l.length - 1) (0, 0)).2 + en)) else (m + 1, l ++ [(m, en)])) from rfl)
  obtain ⟨R, hR⟩ : ∃ R, addP m en (e, l) = R := ⟨_, rfl⟩
  rw [hR] at HOUT HDEF ⊢
  clear hR
  obtain ⟨OUT, hOUT⟩ : ∃ O, (fun E W' => E = Ending.returned (.tuple #[]) ∧ DBx w2 W' f t R.1 R.2) = O := ⟨_, rfl⟩
  rw [hOUT] at HOUT ⊢
  clear hOUT
  have c0 := HG.out.blk.cell 0
  have c1 := HG.out.blk.cell 1
  have c2 : W.cell? ⟨w2.heap.size, 2, none⟩ = some (.int .i64 e) := HG.out.blk.cell 2
  have c3 : W.cell? ⟨w2.heap.size, 3, none⟩ = some (.slice o l.length cap) := HG.out.blk.cell 3
  obtain ⟨B, hB⟩ : ∃ B, w2.heap.size = B := ⟨_, rfl⟩
  have HBB := Lib.hid hB
  rw [hB] at c0 c1 c2 c3 ⊢
  clear hB c0 c1
  go_enter Tryz.func76, Tryz.ntmps76
  by_cases k0 : en = 0
  · subst k0
    have HR := Lib.hid (show R = (e, l) from HDEF.out.trans (if_pos rfl))
    go_wp2
    go_end0
    exact HOUT.out _ (by rw [HR.out]; exact ⟨o, cap, HG.out⟩)
  have d0 : (en == 0) = false := by simpa using k0
  have HD2 := Lib.hid (HDEF.out.trans (if_neg k0))
  clear k0 HDEF
  by_cases kl : 0 < l.length
  rotate_left
  · have HR := Lib.hid (show R = (m + 1, l ++ [(m, en)]) from HD2.out.trans (if_neg (by omega)))
    obtain ⟨N, hN⟩ : ∃ N, l.length = N := ⟨_, rfl⟩
    have HN := Lib.hid hN
    rw [hN] at HG c3 hl
    have dl : decide ((0 : Int) < (N : Int)) = false := decide_eq_false (by omega)
    have dl2 : decide (0 < N) = false := decide_eq_false (by omega)
    clear kl hN
    go_wp2_with (at_builtin; refine wp_append1G (news := [.int .i64 m, .int .i64 en]) elemS HG.out (by omega) (by decide) rfl (oneI2 _ _) rfl _ _ rfl rfl rfl rfl ?_)
    intro v2 w4 hg4
    obtain ⟨o2, cp2, hv2, _⟩ := hg4.row.shape
    subst hv2
    have HG4 := Lib.hid (hg4.cast rfl rfl (show flatT l ++ [.int .i64 m, .int .i64 en] = flatT (l ++ [(m, en)]) from flatT_snoc l (m, en)))
    clear hg4
    have HG5 := Lib.hid (HG4.out.store 3 (.slice o2 (N + 1) cp2))
    have HG6 := Lib.hid (HG5.out.store 2 (.int .i64 (m + 1)))
    have g3 : w4.cell? ⟨B, 3, none⟩ = some (.slice o N cap) := by rw [← HBB.out]; exact HG4.out.blk.cell 3
    have f3 : w4.frozen? ⟨B, 3, none⟩ = false := by rw [← HBB.out]; exact HG4.out.blk.frozen 3
    have g2 : w4.cell? ⟨B, 2, none⟩ = some (.int .i64 e) := by rw [← HBB.out]; exact HG4.out.blk.cell 2
    have f2 : w4.frozen? ⟨B, 2, none⟩ = false := by rw [← HBB.out]; exact HG4.out.blk.frozen 2
    rw [HBB.out] at HG5 HG6
    go_wp2
    go_end0
    have HF := Lib.hid (show Grow w2 _ 50 2 35 #[.int .i64 f, .int .i64 t, .int .i64 (m + 1), .slice o2 (l ++ [(m, en)]).length cp2] (.slice o2 (l ++ [(m, en)]).length cp2) (l ++ [(m, en)]).length (flatT (l ++ [(m, en)])) by rw [List.length_append, HN.out]; exact HG6.out.cast (by simp) rfl rfl)
    exact HOUT.out _ (by rw [HR.out]; exact ⟨_, _, HF.out⟩)
  obtain ⟨gr, cp, hv, hgb, hc⟩ := HG.out.row.some_of kl
  injection hv with hv1 hv2 hv3
  subst hv1 hv3
  have hln : (flatT l).length = l.length * 2 := flatT_len l
  have y0 : W.cell? ⟨gr, (l.length - 1) * 2, none⟩ = some (.int .i64 (l.getD (l.length - 1) (0, 0)).1) := by
    rw [HG.out.row.cellAt _ (by omega)]; have := flatT_get l (l.length - 1) 0 (by omega) (by omega); simpa [twoC] using this
  have y1 : W.cell? ⟨gr, (l.length - 1) * 2 + 1, none⟩ = some (.int .i64 (l.getD (l.length - 1) (0, 0)).2) := by
    rw [HG.out.row.cellAt _ (by omega)]; have := flatT_get l (l.length - 1) 1 (by omega) (by omega); simpa [twoC] using this
  have HXL := Lib.hid (HXB.out _ (getD_memP (show l.length - 1 < l.length by omega)))
  have HST := Lib.hid (fun b h => flatT_set2 l (l.length - 1) m b (by omega) h)
  obtain ⟨x, hx⟩ : ∃ x, l.getD (l.length - 1) (0, 0) = x := ⟨_, rfl⟩
  rw [hx] at y0 y1 HXL HST HD2
  clear hx hln
  obtain ⟨q, hq⟩ : ∃ q, l.length - 1 = q := ⟨_, rfl⟩
  have hq2 : (l.length : Int) - 1 = (q : Int) := by omega
  have hqn : q < l.length := by omega
  have hqw : IntKind.i64.wrap ((l.length : Int) - 1) = (q : Int) := by rw [hq2]; exact IntWalk.i64_in _ (by omega)
  have z1 : (0 : Int) ≤ (q : Int) := by omega
  have z2 : (q : Int) < (l.length : Int) := by omega
  rw [hq] at y0 y1 HST HD2
  clear hq
  by_cases km : x.1 = m
  · have dm : (x.1 == m) = true := by simpa using km
    have HR := Lib.hid (show R = (e, l.set q (m, x.2 + en)) from HD2.out.trans (if_pos ⟨kl, km⟩))
    replace HST := Lib.hid (HST.out (x.2 + en) km)
    clear km
    have e0 : 0 ≤ x.2 := HXL.out.1
    have e1 : x.2 ≤ 64000000000 := HXL.out.2
    have HGS := Lib.hid ((HG.out.rowSet (q * 2 + 1) (.int .i64 (x.2 + en))).cast rfl rfl HST.out)
    have f0 := HG.out.row.frozenAt (q * 2 + 1)
    have hne : ¬ gr = B := by have := HBB.out; have := (HG.out.own.lt gr rfl).1; omega
    go_wp2
    go_end0
    have HF := Lib.hid (show Grow w2 _ 50 2 35 #[.int .i64 f, .int .i64 t, .int .i64 e, .slice (some ⟨gr, 0, none⟩) (l.set q (m, x.2 + en)).length cap] (.slice (some ⟨gr, 0, none⟩) (l.set q (m, x.2 + en)).length cap) (l.set q (m, x.2 + en)).length (flatT (l.set q (m, x.2 + en))) by rw [List.length_set]; exact HGS.out)
    exact HOUT.out _ (by rw [HR.out]; exact ⟨_, _, HF.out⟩)
  · have dm : (x.1 == m) = false := by simpa using km
    have HR := Lib.hid (show R = (m + 1, l ++ [(m, en)]) from HD2.out.trans (if_neg (fun h => km h.2)))
    clear km
    go_wp2_with (at_builtin; refine wp_append1G (news := [.int .i64 m, .int .i64 en]) elemS HG.out (by omega) (by decide) rfl (oneI2 _ _) rfl _ _ rfl rfl rfl rfl ?_)
    intro v2 w4 hg4
    obtain ⟨o2, cp2, hv2, _⟩ := hg4.row.shape
    subst hv2
    have HG4 := Lib.hid (hg4.cast rfl rfl (show flatT l ++ [.int .i64 m, .int .i64 en] = flatT (l ++ [(m, en)]) from flatT_snoc l (m, en)))
    clear hg4
    have HG5 := Lib.hid (HG4.out.store 3 (.slice o2 (l.length + 1) cp2))
    have HG6 := Lib.hid (HG5.out.store 2 (.int .i64 (m + 1)))
    have g3 : w4.cell? ⟨B, 3, none⟩ = some (.slice (some ⟨gr, 0, none⟩) l.length cap) := by rw [← HBB.out]; exact HG4.out.blk.cell 3
    have f3 : w4.frozen? ⟨B, 3, none⟩ = false := by rw [← HBB.out]; exact HG4.out.blk.frozen 3
    have g2 : w4.cell? ⟨B, 2, none⟩ = some (.int .i64 e) := by rw [← HBB.out]; exact HG4.out.blk.cell 2
    have f2 : w4.frozen? ⟨B, 2, none⟩ = false := by rw [← HBB.out]; exact HG4.out.blk.frozen 2
    rw [HBB.out] at HG5 HG6
    go_wp2
    go_end0
    have HF := Lib.hid (show Grow w2 _ 50 2 35 #[.int .i64 f, .int .i64 t, .int .i64 (m + 1), .slice o2 (l ++ [(m, en)]).length cp2] (.slice o2 (l ++ [(m, en)]).length cp2) (l ++ [(m, en)]).length (flatT (l ++ [(m, en)])) by rw [List.length_append]; exact HG6.out.cast (by simp) rfl rfl)
    exact HOUT.out _ (by rw [HR.out]; exact ⟨_, _, HF.out⟩)
end Go.Proofs.YtkfmmiekajgdjaaGreat