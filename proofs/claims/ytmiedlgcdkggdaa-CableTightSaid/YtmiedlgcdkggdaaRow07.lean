/- Chapter 07: a cable that came in, opened. -/
import Derived.Test.YtmiedlgcdkggdaaRowK
import Derived.Test.YtmiedlgcdkggdaaWb07
namespace Go.Proofs.Ytmiedlgcdkggdaa
open Go.ChangeShapes Go.WideShapes Go.ChangeAt Go.RowKit Go.Deep Go.Joins

theorem cab_of {H : Type} {enc : TypeId × Value → H} {W : World} {base : Nat} {v : Value} {d : DataW H} {p : List MemPlace} (hv : Value.okWide Try.prog W .any base 23 v)
    (h : DataW.Trod enc Try.prog W 0 (fun _ => true) true 23 v d p) : ∃ a m g l d : Int, v = cabV a m g l d := by
  obtain ⟨cs, n, rfl, hl, hf⟩ := agg_of Try.underlying23 (by kernel_rfl) (by kernel_rfl) hv h
  obtain ⟨c0, y0, h0, t0⟩ := hf 0 _ rfl
  obtain ⟨c1, y1, h1, t1⟩ := hf 1 _ rfl
  obtain ⟨c2, y2, h2, t2⟩ := hf 2 _ rfl
  obtain ⟨c3, y3, h3, t3⟩ := hf 3 _ rfl
  obtain ⟨c4, y4, h4, t4⟩ := hf 4 _ rfl
  obtain ⟨a, rfl, _⟩ := fld_int Try.underlying3 t0
  obtain ⟨m, rfl, _⟩ := fld_int Try.underlying3 t1
  obtain ⟨g, rfl, _⟩ := fld_int Try.underlying3 t2
  obtain ⟨l, rfl, _⟩ := fld_int Try.underlying3 t3
  obtain ⟨d, rfl, _⟩ := fld_int Try.underlying3 t4
  match cs, hl with
  | [x0, x1, x2, x3, x4], _ =>
    simp only [List.getElem?_cons_zero, List.getElem?_cons_succ, Option.some.injEq] at h0 h1 h2 h3 h4
    subst h0 h1 h2 h3 h4
    exact ⟨a, m, g, l, d, rfl⟩

end Go.Proofs.Ytmiedlgcdkggdaa
