/- The table of confusable signs, out of what the rows list; the witness's world. -/
import Derived.Test.YtmcodendnpjlaaaDoorCards
import Derived.Test.YtmcodendnpjlaaaDoorTie
import Derived.Test.YtmcodendnpjlaaaDoorWb36
import Derived.ProofKit
import Derived.OpenShut
import Derived.Deep.DeepHandedRow
import Derived.Lib.LaidTab
namespace Go.Proofs.YtmcodendnpjlaaaDoor
open Go.ChangeShapes Go.WideShapes Go.ChangeAt Go.RowKit

theorem own : ownKnob Tryd.prog.godebug = none := by kernel_rfl
theorem gTab : Tryd.prog.globalNamed "chargepark/plate.confusable" = some 0 := by kernel_rfl
theorem gTabType : (Tryd.prog.globals[0]?).map (·.type) = some 72 := by kernel_rfl
theorem cellsTab : Tryd.prog.cellsOf 72 = 10 := by kernel_rfl
theorem cellsPair : Tryd.prog.cellsOf 71 = 2 := by kernel_rfl
theorem cellsRune : Tryd.prog.cellsOf 21 = 1 := by kernel_rfl

def laidList : List (String × DataW Unit) := [("chargepark/plate.confusable", Rows.laid_chargepark_plate_confusable)]

theorem pair_cells {W : World} {m : Nat} {cs : List Value} {x y : Int} {p : List MemPlace} {enc : TypeId × Value → Unit} {base : Nat} {sp : Nat → Bool} {held : Bool}
    (h : DataW.trod enc Tryd.prog W base sp held m 71 cs = some (.agg [.lit (.int .i32 x), .lit (.int .i32 y)], p)) : cs = [.int .i32 x, .int .i32 y] :=
  Lib.cells_of_tab (zs := [x, y]) Tryd.underlying71 Tryd.underlying21 cellsRune cellsPair h

theorem table {W : World} (h : laidMetH Tryd.prog laidList W) : Tab W := by
  have h' : laidMet Tryd.prog laidList W := h
  obtain ⟨ps, ⟨g', t', cs, fuel, p, q, hg', ht', hvar, hd, _, _⟩, _⟩ := h'
  obtain rfl := Option.some.inj (gTab.symm.trans hg')
  obtain rfl := Option.some.inj (gTabType.symm.trans ht')
  obtain ⟨xs, m, _, hx, hl, hn, hat⟩ := DataW.trod_array Tryd.underlying72 hd
  rw [cellsTab] at hl
  rw [cellsPair] at hat
  have hx1 := congrArg Prod.fst hx
  simp only [Rows.laid_chargepark_plate_confusable, DataW.agg.injEq] at hx1
  match xs, hn with
  | [x0, x1, x2, x3, x4], _ =>
    simp only [List.map_cons, List.map_nil, List.cons.injEq, and_true] at hx1
    obtain ⟨e0, e1, e2, e3, e4⟩ := hx1
    have q0 := hat 0 (by decide)
    have q1 := hat 1 (by decide)
    have q2 := hat 2 (by decide)
    have q3 := hat 3 (by decide)
    have q4 := hat 4 (by decide)
    obtain ⟨x0, p0⟩ := x0; obtain ⟨x1, p1⟩ := x1; obtain ⟨x2, p2⟩ := x2; obtain ⟨x3, p3⟩ := x3; obtain ⟨x4, p4⟩ := x4
    simp only at e0 e1 e2 e3 e4
    subst e0 e1 e2 e3 e4
    have r0 := pair_cells q0
    have r1 := pair_cells q1
    have r2 := pair_cells q2
    have r3 := pair_cells q3
    have r4 := pair_cells q4
    have hcs : cs = tabCells := by
      obtain ⟨l⟩ := cs
      simp only at hl r0 r1 r2 r3 r4
      match l, hl with
      | [c0, c1, c2, c3, c4, c5, c6, c7, c8, c9], _ =>
        simp at r0 r1 r2 r3 r4
        obtain ⟨rfl, rfl⟩ := r0
        obtain ⟨rfl, rfl⟩ := r1
        obtain ⟨rfl, rfl⟩ := r2
        obtain ⟨rfl, rfl⟩ := r3
        obtain ⟨rfl, rfl⟩ := r4
        rfl
    subst hcs
    unfold World.var? at hvar
    rw [gTab] at hvar
    simp only [Option.bind_some] at hvar
    split at hvar
    · rename_i c t fr hh
      obtain rfl := Option.some.inj hvar
      exact ⟨(Array.getElem?_eq_some_iff.1 hh).1, t, fr, hh⟩
    · cases hvar

/-- A world for the witness: the settled one, the table as its initialiser lays it. -/
noncomputable def laidWorld (os : Os) : World :=
  { World.holding Tryd.prog os ⟨#[], #[], []⟩ with heap := (World.holding Tryd.prog os ⟨#[], #[], []⟩).heap.modify 0 fun
      | .cells _ t frozen => .cells tabCells t frozen
      | o => o }

end Go.Proofs.YtmcodendnpjlaaaDoor
