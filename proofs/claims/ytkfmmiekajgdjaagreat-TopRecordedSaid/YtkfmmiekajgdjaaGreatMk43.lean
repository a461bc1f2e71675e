/- Package settle: a map that is empty. -/
import Derived.Test.YtkfmmiekajgdjaaGreatTBase
import Derived.Carry
import Derived.MapKept
namespace Go.Proofs.YtkfmmiekajgdjaaGreat
open Go.RowKit
attribute [local go_sem] Oper.semAt_some

theorem key_check (e : Bool) (a c : Int) (w : World) : (Instr.checkKey e 10000 98 (.agg #[.int .i64 a, .int .i64 c])).run Tryz.prog w = .ok () w := by kernel_rfl
theorem key_find (a c : Int) (w : World) : (Instr.findKey 98 (.agg #[.int .i64 a, .int .i64 c]) []).run Tryz.prog w = .ok none w := by kernel_rfl
theorem zero_bool (w : World) : (zeroValue 4).run Tryz.prog w = .ok (.bool false) w := by kernel_rfl
theorem look_empty (b : Nat) (a c : Int) (w : World) (h : w.heap[b]? = some (.map #[] 0)) : (Instr.lookup 96 (.map (some b)) (.agg #[.int .i64 a, .int .i64 c]) false).run Tryz.prog w = .ok (.bool false) w := by
  have h1 := key_check true a c w
  have h2 := key_find a c w
  have h3 := zero_bool w
  have h4 : (getObj b).run Tryz.prog w = .ok (.map #[] 0) w := MapKept.run_getObj_map h
  unfold Instr.lookup
  simp [go_sem, h1, h2, h3, h4]
theorem put_empty (b : Nat) (a c : Int) (w : World) (h : w.heap[b]? = some (.map #[] 0)) : ∃ o : Obj, (Instr.mapUpdate 96 (.map (some b)) (.agg #[.int .i64 a, .int .i64 c]) (.bool true)).run Tryz.prog w = .ok () { w with heap := w.heap.setIfInBounds b o } := by
  have h1 := key_check false a c w
  have h2 := key_find a c w
  have h4 : (getObj b).run Tryz.prog w = .ok (.map #[] 0) w := MapKept.run_getObj_map h
  refine ⟨Obj.map #[{ key := .agg #[.int .i64 a, .int .i64 c], val := .bool true, born := 0 }] 1, ?_⟩
  have h5 := MapKept.run_setObj_map (P := Tryz.prog) (Obj.map #[{ key := .agg #[.int .i64 a, .int .i64 c], val := .bool true, born := 0 }] 1) h
  unfold Instr.mapUpdate
  simp [go_sem, h1, h2, h4, h5]
theorem set_other {w : World} {b g : Nat} {t : TypeId} {cs : Array Value} {o : Obj} (h : Blk w g t cs) (hne : g ≠ b) : Blk { w with heap := w.heap.setIfInBounds b o } g t cs := by
  unfold Blk at h ⊢
  show (w.heap.setIfInBounds b o)[g]? = _
  rw [Array.getElem?_setIfInBounds_ne (Ne.symm hne)]
  exact h
theorem set_agr {w : World} {b : Nat} {o : Obj} : Agr w { w with heap := w.heap.setIfInBounds b o } [b] :=
  ⟨rfl, rfl, rfl, by show w.heap.size ≤ (w.heap.setIfInBounds b o).size; simp, fun k _ hS => by
    show (w.heap.setIfInBounds b o)[k]? = _
    exact Array.getElem?_setIfInBounds_ne (fun e => hS (by simp [e]))⟩
end Go.Proofs.YtkfmmiekajgdjaaGreat
