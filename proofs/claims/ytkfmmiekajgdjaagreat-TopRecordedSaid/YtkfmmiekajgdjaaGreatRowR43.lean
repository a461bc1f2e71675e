/- Arguments that came in, opened: a record, four keys. No statement about the program. -/
import Derived.Test.YtkfmmiekajgdjaaGreatRowC43
import Derived.Test.YtkfmmiekajgdjaaGreatT41
import Derived.Laws.IdiomArrays
namespace Go.Proofs.YtkfmmiekajgdjaaGreat
open Go.ChangeShapes Go.WideShapes Go.ChangeAt Go.RowKit Go.Deep Go.Joins

set_option maxRecDepth 100000

section
variable {H : Type} {enc : TypeId × Value → H} {w : World}

theorem u64_of {n : Nat} {c : Value} {y : DataW H × List MemPlace} (h : DataW.trod enc Tryz.prog w 0 (fun _ => true) true n 29 [c] = some y) : ∃ k : Nat, c = .int .u64 (k : Nat) ∧ k < 18446744073709551616 := by
  obtain ⟨x, rfl, hw⟩ := fld_int Tryz.underlying29 h
  have hb := bounds_u64 hw
  obtain ⟨m, rfl⟩ : ∃ m : Nat, x = m := ⟨x.toNat, by omega⟩
  exact ⟨m, rfl, by omega⟩

theorem arr4_of {n : Nat} {cs : List Value} {y : DataW H × List MemPlace} (hl : cs.length = 4) (h : DataW.trod enc Tryz.prog w 0 (fun _ => true) true n 60 cs = some y) :
    ∃ k : K4, cs = [.int .u64 (k.k0 : Nat), .int .u64 (k.k1 : Nat), .int .u64 (k.k2 : Nat), .int .u64 (k.k3 : Nat)] := by
  match cs, hl with
  | [a, b, c, d], _ =>
    obtain ⟨y0, y1, y2, y3, m, _, h0, h1, h2, h3⟩ := trod_array4 Tryz.underlying60 (by kernel_rfl) h
    obtain ⟨k0, rfl, l0⟩ := u64_of h0
    obtain ⟨k1, rfl, l1⟩ := u64_of h1
    obtain ⟨k2, rfl, l2⟩ := u64_of h2
    obtain ⟨k3, rfl, l3⟩ := u64_of h3
    exact ⟨⟨k0, k1, k2, k3, l0, l1, l2, l3⟩, rfl⟩

theorem okWide_array {P : Program} {r : Reach} {b0 : Nat} {v : Value} {t : TypeId} {n : Nat} {e : TypeId} (ht : P.underlying t = some (.array n e)) (h : Value.okWide P w r b0 t v) : ∃ cs, v = .agg cs ∧ cs.size = P.cellsOf t := by
  simp only [Value.okWide, ht] at h
  obtain ⟨cs, h1, h2, _⟩ := h
  exact ⟨cs, h1, h2⟩

/-- A parameter that is four keys. -/
theorem keysP_of {r : Reach} {b0 : Nat} {v : Value} {d : DataW H} {p : List MemPlace} (hv : Value.okWide Tryz.prog w r b0 60 v) (h : DataW.Trod enc Tryz.prog w 0 (fun _ => true) true 60 v d p) : ∃ k : K4, v = keyV k := by
  obtain ⟨cs, rfl, hsz⟩ := okWide_array Tryz.underlying60 hv
  obtain ⟨fuel, hf⟩ := h
  obtain ⟨k, hk⟩ := arr4_of (cs := cs.toList) (by rw [Array.length_toList, hsz]; kernel_rfl) hf
  refine ⟨k, ?_⟩
  have : cs = #[.int .u64 (k.k0 : Nat), .int .u64 (k.k1 : Nat), .int .u64 (k.k2 : Nat), .int .u64 (k.k3 : Nat)] := by
    apply Array.toList_inj.1
    exact hk
  rw [this]

theorem cellsInt : Tryz.prog.cellsOf 3 = 1 := by kernel_rfl
theorem cellsArr : Tryz.prog.cellsOf 60 = 4 := by kernel_rfl

/-- A parameter that is a record. -/
theorem recP_of {r : Reach} {b0 : Nat} {v : Value} {d : DataW H} {p : List MemPlace} (hv : Value.okWide Tryz.prog w r b0 62 v) (h : DataW.Trod enc Tryz.prog w 0 (fun _ => true) true 62 v d p) : ∃ x : Rc, v = recV x ∧ x.g0 < 18446744073709551616 ∧ x.g1 < 18446744073709551616 ∧ x.g2 < 18446744073709551616 ∧ x.g3 < 18446744073709551616 := by
  obtain ⟨cs, rfl, hsz⟩ := okWide_struct Tryz.underlying62 hv
  obtain ⟨fuel, hf⟩ := h
  obtain ⟨xs, n, _, _, _, hxl, hg⟩ := DataW.trod_struct Tryz.underlying62 hf
  have hl : cs.toList.length = 13 := by rw [Array.length_toList, hsz]; kernel_rfl
  obtain ⟨L, rfl⟩ : ∃ L : List Value, cs = L.toArray := ⟨cs.toList, by simp⟩
  have hl' : L.length = 13 := by simpa using hl
  have hx : ∀ i, i < 10 → ∃ y, xs[i]? = some y := fun i hi => ⟨_, List.getElem?_eq_getElem (by rw [hxl]; exact hi)⟩
  match L, hl' with
  | [c0, c1, c2, c3, c4, c5, c6, c7, c8, c9, c10, c11, c12], _ =>
    obtain ⟨y0, e0⟩ := hx 0 (by decide)
    have h0 := hg 0 _ rfl
    rw [e0] at h0
    simp only [List.getElem_toArray, List.getElem_cons_zero] at h0

    rw [cellsInt] at h0
    obtain ⟨x0, q0, _⟩ := fld_int (c := c0) Tryz.underlying3 h0
    subst q0
    obtain ⟨y1, e1⟩ := hx 1 (by decide)
    have h1 := hg 1 _ rfl
    rw [e1] at h1
    simp only [List.getElem_toArray, List.getElem_cons_zero, List.getElem_cons_succ] at h1

    rw [cellsInt] at h1
    obtain ⟨x1, q1, _⟩ := fld_int (c := c1) Tryz.underlying3 h1
    subst q1
    obtain ⟨y2, e2⟩ := hx 2 (by decide)
    have h2 := hg 2 _ rfl
    rw [e2] at h2
    simp only [List.getElem_toArray, List.getElem_cons_zero, List.getElem_cons_succ] at h2

    rw [cellsInt] at h2
    obtain ⟨x2, q2, _⟩ := fld_int (c := c2) Tryz.underlying3 h2
    subst q2
    obtain ⟨y3, e3⟩ := hx 3 (by decide)
    have h3 := hg 3 _ rfl
    rw [e3] at h3
    simp only [List.getElem_toArray, List.getElem_cons_zero, List.getElem_cons_succ] at h3

    rw [cellsInt] at h3
    obtain ⟨x3, q3, _⟩ := fld_int (c := c3) Tryz.underlying3 h3
    subst q3
    obtain ⟨y4, e4⟩ := hx 4 (by decide)
    have h4 := hg 4 _ rfl
    rw [e4] at h4
    simp only [List.getElem_toArray, List.getElem_cons_zero, List.getElem_cons_succ] at h4

    rw [cellsInt] at h4
    obtain ⟨x4, q4, _⟩ := fld_int (c := c4) Tryz.underlying3 h4
    subst q4
    obtain ⟨y5, e5⟩ := hx 5 (by decide)
    have h5 := hg 5 _ rfl
    rw [e5] at h5
    simp only [List.getElem_toArray, List.getElem_cons_zero, List.getElem_cons_succ] at h5

    rw [cellsInt] at h5
    obtain ⟨x5, q5, _⟩ := fld_int (c := c5) Tryz.underlying3 h5
    subst q5
    obtain ⟨y6, e6⟩ := hx 6 (by decide)
    have h6 := hg 6 _ rfl
    rw [e6] at h6
    simp only [List.getElem_toArray, List.getElem_cons_zero, List.getElem_cons_succ] at h6

    rw [cellsInt] at h6
    obtain ⟨x6, q6, _⟩ := fld_int (c := c6) Tryz.underlying3 h6
    subst q6
    obtain ⟨y7, e7⟩ := hx 7 (by decide)
    have h7 := hg 7 _ rfl
    rw [e7] at h7
    simp only [List.getElem_toArray, List.getElem_cons_zero, List.getElem_cons_succ] at h7

    rw [cellsInt] at h7
    obtain ⟨x7, q7, _⟩ := fld_int (c := c7) Tryz.underlying3 h7
    subst q7
    obtain ⟨y8, e8⟩ := hx 8 (by decide)
    have h8 := hg 8 _ rfl
    rw [e8] at h8
    simp only [List.getElem_toArray, List.getElem_cons_zero, List.getElem_cons_succ] at h8

    rw [cellsInt] at h8
    obtain ⟨x8, q8, _⟩ := fld_int (c := c8) Tryz.underlying3 h8
    subst q8
    obtain ⟨y9, e9⟩ := hx 9 (by decide)
    have h9 := hg 9 _ rfl
    rw [e9] at h9
    simp only [List.getElem_toArray, List.getElem_cons_zero, List.getElem_cons_succ] at h9

    rw [cellsArr] at h9
    obtain ⟨k, hk⟩ := arr4_of (cs := [c9, c10, c11, c12]) rfl h9
    simp only [List.cons.injEq, and_true] at hk
    obtain ⟨rfl, rfl, rfl, rfl⟩ := hk
    exact ⟨⟨x0, x1, x2, x3, x4, x5, x6, x7, x8, k.k0, k.k1, k.k2, k.k3⟩, rfl, k.h0, k.h1, k.h2, k.h3⟩
end
end Go.Proofs.YtkfmmiekajgdjaaGreat
