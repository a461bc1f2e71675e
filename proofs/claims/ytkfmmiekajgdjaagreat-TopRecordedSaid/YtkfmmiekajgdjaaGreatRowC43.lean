/- Arguments that came in, opened: a claim. No statement about the program. -/
import Derived.Test.YtkfmmiekajgdjaaGreatRowT43
namespace Go.Proofs.YtkfmmiekajgdjaaGreat
open Go.ChangeShapes Go.WideShapes Go.ChangeAt Go.RowKit Go.Deep Go.Joins
set_option maxRecDepth 100000

section
variable {H : Type} {enc : TypeId × Value → H} {w : World}
theorem cU64 : Tryz.prog.cellsOf 29 = 1 := by kernel_rfl
theorem cTar : Tryz.prog.cellsOf 24 = 2 := by kernel_rfl
theorem cCal : Tryz.prog.cellsOf 28 = 3 := by kernel_rfl
theorem cSes : Tryz.prog.cellsOf 35 = 4 := by kernel_rfl
theorem cBil : Tryz.prog.cellsOf 39 = 4 := by kernel_rfl
theorem cRds : Tryz.prog.cellsOf 36 = 1 := by kernel_rfl
theorem cSls : Tryz.prog.cellsOf 33 = 1 := by kernel_rfl
theorem cLns : Tryz.prog.cellsOf 37 = 1 := by kernel_rfl
theorem u64_at {n : Nat} {c : Value} {y : DataW H × List MemPlace} (h : DataW.trod enc Tryz.prog w 0 (fun _ => true) true n 29 [c] = some y) : ∃ k : Nat, c = .int .u64 (k : Nat) ∧ k < 18446744073709551616 := by
  obtain ⟨x, rfl, hw⟩ := fld_int Tryz.underlying29 h
  have hb := bounds_u64 hw
  obtain ⟨m, rfl⟩ : ∃ m : Nat, x = m := ⟨x.toNat, by omega⟩
  exact ⟨m, rfl, by omega⟩
instance : Inhabited Rd := ⟨⟨0, 0, 0, 0, 0, by decide⟩⟩
theorem rdg_cells {cs : List Value} {n : Nat} {z : DataW H × List MemPlace} (hl : cs.length = 5) (h : DataW.trod enc Tryz.prog w 0 (fun _ => true) true n 55 cs = some z) : ∃ x : Rd, cs[0]? = some (.int .i64 x.s) ∧ cs[1]? = some (.int .i64 x.n) ∧ cs[2]? = some (.int .i64 x.m) ∧ cs[3]? = some (.int .i64 x.r) ∧ cs[4]? = some (.int .u64 (x.k : Nat)) := by
  obtain ⟨xs, m, _, _, _, hxl, hg⟩ := DataW.trod_struct Tryz.underlying55 h
  match cs, hl with
  | [c0, c1, c2, c3, c4], _ =>
    obtain ⟨z0, h0⟩ := fld_at hxl hg 0 _ rfl
    simp only [List.getElem_toArray, List.getElem_cons_zero] at h0
    rw [cInt] at h0
    obtain ⟨x0, q0, _⟩ := int_at (c := c0) h0
    obtain ⟨z1, h1⟩ := fld_at hxl hg 1 _ rfl
    simp only [List.getElem_toArray, List.getElem_cons_zero, List.getElem_cons_succ] at h1
    rw [cInt] at h1
    obtain ⟨x1, q1, _⟩ := int_at (c := c1) h1
    obtain ⟨z2, h2⟩ := fld_at hxl hg 2 _ rfl
    simp only [List.getElem_toArray, List.getElem_cons_zero, List.getElem_cons_succ] at h2
    rw [cInt] at h2
    obtain ⟨x2, q2, _⟩ := int_at (c := c2) h2
    obtain ⟨z3, h3⟩ := fld_at hxl hg 3 _ rfl
    simp only [List.getElem_toArray, List.getElem_cons_zero, List.getElem_cons_succ] at h3
    rw [cInt] at h3
    obtain ⟨x3, q3, _⟩ := int_at (c := c3) h3
    obtain ⟨z4, h4⟩ := fld_at hxl hg 4 _ rfl
    simp only [List.getElem_toArray, List.getElem_cons_zero, List.getElem_cons_succ] at h4
    rw [cU64] at h4
    obtain ⟨x4, q4, w4⟩ := u64_at (c := c4) h4
    exact ⟨⟨x0, x1, x2, x3, x4, w4⟩, by rw [q0]; rfl, by rw [q1]; rfl, by rw [q2]; rfl, by rw [q3]; rfl, by rw [q4]; rfl⟩
theorem rdgs_of {n : Nat} {v : Value} {y : DataW H × List MemPlace} (h : DataW.trod enc Tryz.prog w 0 (fun _ => true) true n 36 [v] = some y) : ∃ (o : Option Addr) (cap : Nat) (l : List Rd), v = .slice o l.length cap ∧ l.length ≤ 9223372036854775807 ∧ Rds w o l := by
  obtain ⟨o, cap, l, h1, h2, h3⟩ := sl_of (m := 5) (fun g (x : Rd) => g 0 = some (.int .i64 x.s) ∧ g 1 = some (.int .i64 x.n) ∧ g 2 = some (.int .i64 x.m) ∧ g 3 = some (.int .i64 x.r) ∧ g 4 = some (.int .u64 (x.k : Nat))) (default : Rd) Tryz.underlying36 (by kernel_rfl) (by decide)
    (fun g g' x hg ⟨a0, a1, a2, a3, a4⟩ => ⟨(hg 0 (by decide)) ▸ a0, (hg 1 (by decide)) ▸ a1, (hg 2 (by decide)) ▸ a2, (hg 3 (by decide)) ▸ a3, (hg 4 (by decide)) ▸ a4⟩) (fun cs k z hl hz => rdg_cells hl hz) h
  refine ⟨o, cap, l, h1, h2, fun i hi => ?_⟩
  obtain ⟨b, off, ho, c0, c1, c2, c3, c4⟩ := h3 i hi
  have e : l.getD i (default : Rd) = getR l i := by unfold getR; rw [List.getD_eq_getElem?_getD, List.getD_eq_getElem?_getD, List.getElem?_eq_getElem hi]; rfl
  rw [e] at c0 c1 c2 c3 c4
  exact ⟨b, off, ho, c0, c1, c2, c3, c4⟩
theorem ses_cells {cs : List Value} {n : Nat} {z : DataW H × List MemPlace} (hl : cs.length = 4) (h : DataW.trod enc Tryz.prog w 0 (fun _ => true) true n 35 cs = some z) : ∃ s : SesA, cs = [.int .i64 s.f, .int .i64 s.t, .int .i64 s.e, .slice s.o s.l.length s.cap] ∧ Twos w s.o s.l := by
  obtain ⟨xs, m, _, _, _, hxl, hg⟩ := DataW.trod_struct Tryz.underlying35 h
  match cs, hl with
  | [c0, c1, c2, c3], _ =>
    obtain ⟨z0, h0⟩ := fld_at hxl hg 0 _ rfl
    simp only [List.getElem_toArray, List.getElem_cons_zero] at h0
    rw [cInt] at h0
    obtain ⟨x0, q0, _⟩ := int_at (c := c0) h0
    obtain ⟨z1, h1⟩ := fld_at hxl hg 1 _ rfl
    simp only [List.getElem_toArray, List.getElem_cons_zero, List.getElem_cons_succ] at h1
    rw [cInt] at h1
    obtain ⟨x1, q1, _⟩ := int_at (c := c1) h1
    obtain ⟨z2, h2⟩ := fld_at hxl hg 2 _ rfl
    simp only [List.getElem_toArray, List.getElem_cons_zero, List.getElem_cons_succ] at h2
    rw [cInt] at h2
    obtain ⟨x2, q2, _⟩ := int_at (c := c2) h2
    obtain ⟨z3, h3⟩ := fld_at hxl hg 3 _ rfl
    simp only [List.getElem_toArray, List.getElem_cons_zero, List.getElem_cons_succ] at h3
    rw [cSls] at h3
    obtain ⟨o, cap, l, q3, _, hT⟩ := slcs_of (v := c3) h3
    exact ⟨⟨x0, x1, x2, o, cap, l⟩, by rw [q0, q1, q2, q3], hT⟩
theorem bil_cells {cs : List Value} {n : Nat} {z : DataW H × List MemPlace} (hl : cs.length = 4) (h : DataW.trod enc Tryz.prog w 0 (fun _ => true) true n 39 cs = some z) : ∃ b : BilA, cs = [.slice b.o b.l.length b.cap, .int .i64 b.net, .int .i64 b.tax, .int .i64 b.tot] ∧ Twos w b.o b.l := by
  obtain ⟨xs, m, _, _, _, hxl, hg⟩ := DataW.trod_struct Tryz.underlying39 h
  match cs, hl with
  | [c0, c1, c2, c3], _ =>
    obtain ⟨z0, h0⟩ := fld_at hxl hg 0 _ rfl
    simp only [List.getElem_toArray, List.getElem_cons_zero] at h0
    rw [cLns] at h0
    obtain ⟨z1, h1⟩ := fld_at hxl hg 1 _ rfl
    simp only [List.getElem_toArray, List.getElem_cons_zero, List.getElem_cons_succ] at h1
    rw [cInt] at h1
    obtain ⟨x1, q1, _⟩ := int_at (c := c1) h1
    obtain ⟨z2, h2⟩ := fld_at hxl hg 2 _ rfl
    simp only [List.getElem_toArray, List.getElem_cons_zero, List.getElem_cons_succ] at h2
    rw [cInt] at h2
    obtain ⟨x2, q2, _⟩ := int_at (c := c2) h2
    obtain ⟨z3, h3⟩ := fld_at hxl hg 3 _ rfl
    simp only [List.getElem_toArray, List.getElem_cons_zero, List.getElem_cons_succ] at h3
    rw [cInt] at h3
    obtain ⟨x3, q3, _⟩ := int_at (c := c3) h3
    obtain ⟨o, cap, l, q0, _, hT⟩ := lins_of (v := c0) h0
    exact ⟨⟨o, cap, l, x1, x2, x3⟩, by rw [q0, q1, q2, q3], hT⟩
/-- What a claim that came in reads as. -/
structure ClIn (w : World) (c : ClA) : Prop where
  seed : c.seed < 18446744073709551616
  arts : Arts w c.oa c.arts
  chg : Twos w c.oc c.chg
  hol : Ints w c.oh c.hol
  rds : Rds w c.od c.rds
  sls : Twos w c.s.o c.s.l
  lns : Twos w c.b.o c.b.l
theorem clm_cells {cs : List Value} {n : Nat} {z : DataW H × List MemPlace} (hl : cs.length = 15) (h : DataW.trod enc Tryz.prog w 0 (fun _ => true) true n 41 cs = some z) : ∃ c : ClA, cs = clL c ∧ ClIn w c := by
  obtain ⟨xs, m, _, _, _, hxl, hg⟩ := DataW.trod_struct Tryz.underlying41 h
  match cs, hl with
  | [c0, c1, c2, c3, c4, c5, c6, c7, c8, c9, c10, c11, c12, c13, c14], _ =>
    obtain ⟨z0, h0⟩ := fld_at hxl hg 0 _ rfl
    simp only [List.getElem_toArray, List.getElem_cons_zero] at h0
    rw [cTar] at h0
    obtain ⟨z1, h1⟩ := fld_at hxl hg 1 _ rfl
    simp only [List.getElem_toArray, List.getElem_cons_zero, List.getElem_cons_succ] at h1
    rw [cCal] at h1
    obtain ⟨z2, h2⟩ := fld_at hxl hg 2 _ rfl
    simp only [List.getElem_toArray, List.getElem_cons_zero, List.getElem_cons_succ] at h2
    rw [cRds] at h2
    obtain ⟨z3, h3⟩ := fld_at hxl hg 3 _ rfl
    simp only [List.getElem_toArray, List.getElem_cons_zero, List.getElem_cons_succ] at h3
    rw [cU64] at h3
    obtain ⟨z4, h4⟩ := fld_at hxl hg 4 _ rfl
    simp only [List.getElem_toArray, List.getElem_cons_zero, List.getElem_cons_succ] at h4
    rw [cSes] at h4
    obtain ⟨z5, h5⟩ := fld_at hxl hg 5 _ rfl
    simp only [List.getElem_toArray, List.getElem_cons_zero, List.getElem_cons_succ] at h5
    rw [cBil] at h5
    obtain ⟨nm, oa, ca, arts, e0, _, _, hA⟩ := tar_cells (cs := [c0, c1]) rfl h0
    obtain ⟨off, oc, cc, chg, oh, ch, hol, e1, _, _, hT, hI⟩ := cal_cells (cs := [c2, c3, c4]) rfl h1
    obtain ⟨od, cd, rds, e2, _, hR⟩ := rdgs_of (v := c5) h2
    obtain ⟨seed, e3, hs⟩ := u64_at (c := c6) h3
    obtain ⟨s, e4, hS⟩ := ses_cells (cs := [c7, c8, c9, c10]) rfl h4
    obtain ⟨b, e5, hL⟩ := bil_cells (cs := [c11, c12, c13, c14]) rfl h5
    simp only [List.cons.injEq, and_true] at e0 e1 e4 e5
    obtain ⟨rfl, rfl⟩ := e0
    obtain ⟨rfl, rfl, rfl⟩ := e1
    obtain ⟨rfl, rfl, rfl, rfl⟩ := e4
    obtain ⟨rfl, rfl, rfl, rfl⟩ := e5
    subst e2 e3
    exact ⟨⟨nm, oa, ca, arts, off, oc, cc, chg, oh, ch, hol, od, cd, rds, seed, s, b⟩, rfl, ⟨hs, hA, hT, hI, hR, hS, hL⟩⟩
theorem clmP_of {r : Reach} {b0 : Nat} {v : Value} {d : DataW H} {q : List MemPlace} (hv : Value.okWide Tryz.prog w r b0 41 v) (h : DataW.Trod enc Tryz.prog w 0 (fun _ => true) true 41 v d q) : ∃ c : ClA, v = .agg (clL c).toArray ∧ ClIn w c := by
  obtain ⟨cs, n, rfl, hl, hf⟩ := structP (k := 15) Tryz.underlying41 (by kernel_rfl) hv h
  obtain ⟨c, rfl, h1⟩ := clm_cells hl hf
  exact ⟨c, rfl, h1⟩
end
end Go.Proofs.YtkfmmiekajgdjaaGreat