/- Chapter 40: arguments that came in, opened: a reading, a slice of readings. No statement about the program. -/
import Derived.Test.YtddbobphmakmmaaRowK
import Derived.Test.YtddbobphmakmmaaWc40
namespace Go.Proofs.Ytddbobphmakmmaa
open Go.ChangeShapes Go.WideShapes Go.ChangeAt Go.RowKit Go.Deep Go.Joins

section
variable {H : Type} {enc : TypeId × Value → H} {P : Program} {w : World}

/-- A slice of structs of one-cell fields. -/
theorem aggs_of {t e : TypeId} {fs : Array Field} {n : Nat} {v : Value} {y : DataW H × List MemPlace} (ht : P.underlying t = some (.slice e)) (hs : P.underlying e = some (.struct fs)) (hone : oneCellFields P fs = true) (hC : P.cellsOf e = fs.size)
    (h : DataW.trod enc P w 0 (fun _ => true) true n t [v] = some y) :
    v = .slice none 0 0 ∨ ∃ (a : Addr) (len cap : Nat), v = .slice (some a) len cap ∧ len ≤ maxLen ∧ len ≤ cap ∧ ∀ i, i < len → ∃ (cs : List Value) (k : Nat), cs.length = fs.size ∧ (∀ j, j < fs.size → w.cell? (a.add (i * fs.size + j)) = cs[j]?) ∧
      ∀ (j : Nat) (f : Field), fs[j]? = some f → ∃ c z, cs[j]? = some c ∧ DataW.trod enc P w 0 (fun _ => true) true k f.type [c] = some z := by
  rcases open_slice ht h with ⟨h0, _⟩ | ⟨a, len, cap, m, n', D, Pl, hcs, _, hl, hm, hmm, _, hx⟩
  · simp only [List.cons.injEq, and_true] at h0
    exact .inl h0
  · simp only [List.cons.injEq, and_true] at hcs
    refine .inr ⟨a, len, cap, hcs, by omega, hl, fun i hi => ?_⟩
    have hlm : len ≤ m := by rw [hmm]; simp; exact hl
    obtain ⟨cs', h1, h2⟩ := hx i (by omega)
    rw [hC] at h1
    obtain ⟨_, hlen, hcell⟩ := World.cells?_some h1
    obtain ⟨xs, k, _, _, _, hxl, hf⟩ := DataW.trod_struct hs h2
    refine ⟨cs', k, hlen, fun j hj => ?_, fun j f hj => ?_⟩
    · rw [← add_add]
      exact hcell j hj
    · obtain ⟨ho, hk⟩ := hone_of hone j f hj
      have hjl : j < fs.size := (Array.getElem?_eq_some_iff.1 hj).1
      have hjc : j < cs'.length := by omega
      have h3 := hf j f hj
      rw [ho, hk, List.drop_eq_getElem_cons hjc, List.take_succ_cons, List.take_zero] at h3
      exact ⟨_, _, List.getElem?_eq_getElem hjc, h3.trans (List.getElem?_eq_getElem (by omega))⟩
end

section
variable {H : Type} {enc : TypeId × Value → H} {w : World}
theorem rd_cells {cs : List Value} {k : Nat} {fs : Array Field} (hf : fs.map (·.type) = #[3, 3, 3, 3, 22])
    (h : ∀ (j : Nat) (f : Field), fs[j]? = some f → ∃ c z, cs[j]? = some c ∧ DataW.trod enc Try.prog w 0 (fun _ => true) true k f.type [c] = some z) :
    ∃ x : Rd, cs[0]? = some (.int .i64 x.s) ∧ cs[1]? = some (.int .i64 x.n) ∧ cs[2]? = some (.int .i64 x.m) ∧ cs[3]? = some (.int .i64 x.r) ∧ cs[4]? = some (.int .u64 x.k) := by
  have hsz : fs.size = 5 := by have := congrArg Array.size hf; simpa using this
  have ht : ∀ j (hj : j < 5), (fs[j]'(by omega)).type = #[3, 3, 3, 3, 22][j]'(by simpa using hj) := fun j hj => by
    have := congrArg (fun z : Array TypeId => z[j]?) hf
    simp [hsz, hj] at this
    simpa [hj] using this
  have g : ∀ j (hj : j < 5), ∃ c z, cs[j]? = some c ∧ DataW.trod enc Try.prog w 0 (fun _ => true) true k (#[3, 3, 3, 3, 22][j]'(by simpa using hj)) [c] = some z := fun j hj => by
    obtain ⟨c, z, h1, h2⟩ := h j _ (Array.getElem?_eq_getElem (by omega))
    rw [ht j hj] at h2
    exact ⟨c, z, h1, h2⟩
  obtain ⟨c0, _, a0, b0⟩ := g 0 (by omega)
  obtain ⟨c1, _, a1, b1⟩ := g 1 (by omega)
  obtain ⟨c2, _, a2, b2⟩ := g 2 (by omega)
  obtain ⟨c3, _, a3, b3⟩ := g 3 (by omega)
  obtain ⟨c4, _, a4, b4⟩ := g 4 (by omega)
  obtain ⟨x0, rfl, _⟩ := fld_int Try.underlying3 b0
  obtain ⟨x1, rfl, _⟩ := fld_int Try.underlying3 b1
  obtain ⟨x2, rfl, _⟩ := fld_int Try.underlying3 b2
  obtain ⟨x3, rfl, _⟩ := fld_int Try.underlying3 b3
  obtain ⟨x4, rfl, w4⟩ := fld_int Try.underlying22 b4
  have hb := bounds_u64 w4
  obtain ⟨n4, rfl⟩ : ∃ n : Nat, x4 = n := ⟨x4.toNat, by omega⟩
  exact ⟨⟨x0, x1, x2, x3, n4, by omega⟩, a0, a1, a2, a3, a4⟩

/-- A parameter that is a reading. -/
theorem rdP_of {r : Reach} {b0 : Nat} {v : Value} {d : DataW H} {p : List MemPlace} (hv : Value.okWide Try.prog w r b0 45 v) (h : DataW.Trod enc Try.prog w 0 (fun _ => true) true 45 v d p) : ∃ x : Rd, v = rdV x := by
  obtain ⟨cs, n, rfl, hl, hf⟩ := agg_of Try.underlying45 (by kernel_rfl) (by kernel_rfl) hv h
  obtain ⟨x, h0, h1, h2, h3, h4⟩ := rd_cells (by simp) hf
  refine ⟨x, ?_⟩
  have hl5 : cs.length = 5 := hl
  match cs, hl5 with
  | [a, b, c, d, e], _ =>
    simp at h0 h1 h2 h3 h4
    rw [h0, h1, h2, h3, h4]

/-- A parameter that is a slice of readings. -/
theorem rdsP_of {r : Reach} {b0 : Nat} {v : Value} {d : DataW H} {p : List MemPlace} (hv : Value.okWide Try.prog w r b0 26 v) (h : DataW.Trod enc Try.prog w 0 (fun _ => true) true 26 v d p) :
    ∃ (o : Option Addr) (cap : Nat) (l : List Rd), v = .slice o l.length cap ∧ Rds w o l ∧ l.length ≤ 9223372036854775807 ∧ l.length ≤ cap := by
  obtain ⟨a', len', cap', rfl⟩ := okWide_slice Try.underlying26 hv
  obtain ⟨n, hn⟩ := h
  rcases aggs_of (v := .slice a' len' cap') Try.underlying26 Try.underlying45 (by kernel_rfl) (by kernel_rfl) hn with e0 | ⟨a, len, cap, e0, hm, hlc, hx⟩
  · exact ⟨none, 0, [], e0, Rds.nil, by simp, by simp⟩
  · have hx' : ∀ i, i < len → ∃ x : Rd, w.cell? (a.add (i * 5)) = some (.int .i64 x.s) ∧ w.cell? (a.add (i * 5 + 1)) = some (.int .i64 x.n) ∧ w.cell? (a.add (i * 5 + 2)) = some (.int .i64 x.m) ∧ w.cell? (a.add (i * 5 + 3)) = some (.int .i64 x.r) ∧ w.cell? (a.add (i * 5 + 4)) = some (.int .u64 x.k) := fun i hi => by
      obtain ⟨cs, k, _, hc, hf⟩ := hx i hi
      obtain ⟨x, h0, h1, h2, h3, h4⟩ := rd_cells (by simp) hf
      exact ⟨x, (hc 0 (by decide)).trans h0, (hc 1 (by decide)).trans h1, (hc 2 (by decide)).trans h2, (hc 3 (by decide)).trans h3, (hc 4 (by decide)).trans h4⟩
    obtain ⟨f, hf⟩ := choose_lt hx'
    refine ⟨some a, cap, (List.range len).map f, by rw [e0]; simp, fun i hi => ?_, by simp [maxLen] at hm ⊢; omega, by simpa using hlc⟩
    have hi' : i < len := by simpa using hi
    obtain ⟨b, off, spot⟩ := a
    have hspot : spot = none := by simpa [Addr.add] using World.cell?_spot (hf 0 (by omega)).1
    subst hspot
    refine ⟨b, off, rfl, ?_⟩
    have e : getR ((List.range len).map f) i = f i := by simp [getR, hi']
    rw [e]
    obtain ⟨h0, h1, h2, h3, h4⟩ := hf i hi'
    simp only [Addr.add_lit, ← Nat.add_assoc] at h0 h1 h2 h3 h4
    exact ⟨h0, h1, h2, h3, h4⟩
end

end Go.Proofs.Ytddbobphmakmmaa
