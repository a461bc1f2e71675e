/- Package flow: a network in memory; small functions. -/
import Derived.Test.YthgkfdhkmkbioaaUBase
import Derived.Test.YthgkfdhkmkbioaaPf21
import Derived.BigQuiet
import Derived.BigRegion
import Derived.Deep.Cut
import Derived.Deep.CutRange
import Derived.Deep.DeepCutAuto
import Derived.Deep.RegionWith
import Derived.Deep.QuietTactic
import Derived.WalkMore
namespace Go.Proofs.Ythgkfdhkmkbioaa
open Go.RowKit
attribute [local go_sem] Oper.semAt_some

theorem mixed : Try.prog.follows .mixedOrders = true := by kernel_rfl
theorem wpC_skipN {P : Program} {ops : Array Oper} {J : World → Prop} {Q : Exit → Act → World → Prop} {V : Act} {w w' : World} {o : Oper} {i : Nat} {C : List Nat} (ho : ops[i]? = some o) (hg : o.guard = none) (hd : o.dst = none) (hJ : J w) (hr : (execOp V.eval o).run P w = .ok .skip w') (h : wpC P ops J Q C V w') : wpC P ops J Q (i :: C) V w :=
  wpC_skip ho hg hJ hr (by rw [hd]; exact h)
/-- Edges in memory, none of them in the blocks of S. -/
def EdsS (S : List Nat) (w : World) (o : Option Addr) (E : List Ed) : Prop :=
  ∀ i, i < E.length → ∃ b off, o = some ⟨b, off, none⟩ ∧ b ∉ S ∧ w.cell? ⟨b, off + i * 3, none⟩ = some (.int .i64 ((getE E i).f : Nat)) ∧ w.cell? ⟨b, off + i * 3 + 1, none⟩ = some (.int .i64 ((getE E i).t : Nat)) ∧ w.cell? ⟨b, off + i * 3 + 2, none⟩ = some (.int .i64 (getE E i).c)
theorem EdsS.agr {S S' : List Nat} {w w' : World} {o : Option Addr} {E : List Ed} (h : EdsS S w o E) (ha : Agr w w' S') (hs : ∀ b ∈ S', b ∈ S) : EdsS S w' o E := fun i hi => by
  obtain ⟨b, off, h1, h2, h3, h4, h5⟩ := h i hi
  have hb : b ∉ S' := fun h => h2 (hs b h)
  exact ⟨b, off, h1, h2, ha.cell h3 hb, ha.cell h4 hb, ha.cell h5 hb⟩
theorem EdsS.later {S : List Nat} {w w' : World} {o : Option Addr} {E : List Ed} (h : EdsS S w o E) (hb : Below w.heap.size w w') : EdsS S w' o E := h.agr (Agr.of_below (S := []) hb) (fun _ h => by cases h)
theorem EdsS.of {S S' : List Nat} {w : World} {o : Option Addr} {E : List Ed} (h : EdsS S w o E) (hs : ∀ b ∈ S', b ∈ S ∨ w.heap.size ≤ b) : EdsS S' w o E := fun i hi => by
  obtain ⟨b, off, h1, h2, h3, h4, h5⟩ := h i hi
  exact ⟨b, off, h1, fun hb => (hs b hb).elim h2 (fun hl => by have : b < w.heap.size := cell_lt h3; omega), h3, h4, h5⟩
/-- The numbers of the edges at a node. -/
def incL (E : List Ed) (v : Nat) : List Nat := (List.range E.length).filter fun i => (getE E i).f == v || (getE E i).t == v
theorem incL_mem {E : List Ed} {v i : Nat} : i ∈ incL E v ↔ i < E.length ∧ ((getE E i).f = v ∨ (getE E i).t = v) := by
  unfold incL
  simp [List.mem_filter]
def natI (l : List Nat) : List Int := l.map fun i => ((i : Nat) : Int)
/-- A row of slices of integers: one list for each. -/
def RowsS (S : List Nat) (w : World) (b : Nat) (L : List (List Int)) : Prop :=
  ∀ v, v < L.length → ∃ o cap, w.cell? ⟨b, v, none⟩ = some (.slice o (L.getD v []).length cap) ∧ IntsS S w o (L.getD v [])
/-- A network in memory, but for its flow in block FB. -/
structure NetW (w : World) (N : Nat) (E : List Ed) (NB FB AB : Nat) (eo : Option Addr) (ec : Nat) : Prop where
  nb : Blk w NB 86 #[.int .i64 (N : Nat), .slice eo E.length ec, .slice (some ⟨FB, 0, none⟩) E.length E.length, .slice (some ⟨AB, 0, none⟩) N N]
  n1 : NB ≠ FB
  n2 : AB ≠ FB
  ab : AB < w.heap.size
  eds : EdsS [FB] w eo E
  rows : ∀ v, v < N → ∃ o cap, w.cell? ⟨AB, v, none⟩ = some (.slice o (incL E v).length cap) ∧ IntsS [FB] w o (natI (incL E v))
  inN : ∀ e ∈ E, e.f < N ∧ e.t < N
  cap : ∀ e ∈ E, 0 ≤ e.c ∧ e.c ≤ 1000000
  n64 : N ≤ 64
  e512 : E.length ≤ 512
theorem NetW.agr {w w' : World} {N : Nat} {E : List Ed} {NB FB AB : Nat} {eo : Option Addr} {ec : Nat} {S : List Nat} (h : NetW w N E NB FB AB eo ec) (ha : Agr w w' S) (hS : ∀ b ∈ S, b = FB) : NetW w' N E NB FB AB eo ec :=
  have hs : ∀ b ∈ S, b ∈ [FB] := fun b hb => by rw [hS b hb]; simp
  ⟨ha.blk h.nb (fun hm => h.n1 (hS _ hm)), h.n1, h.n2, Nat.lt_of_lt_of_le h.ab ha.size, h.eds.agr ha hs, fun v hv => by
    obtain ⟨o, cap, c, hi⟩ := h.rows v hv
    exact ⟨o, cap, ha.cell c (fun hm => h.n2 (hS _ hm)), hi.agr ha hs⟩, h.inN, h.cap, h.n64, h.e512⟩
theorem NetW.later {w w' : World} {N : Nat} {E : List Ed} {NB FB AB : Nat} {eo : Option Addr} {ec : Nat} (h : NetW w N E NB FB AB eo ec) (hb : Below w.heap.size w w') : NetW w' N E NB FB AB eo ec := h.agr (Agr.of_below (S := []) hb) (fun _ h => by cases h)
theorem getE_mem {E : List Ed} {i : Nat} (h : i < E.length) : getE E i ∈ E := by
  unfold getE
  rw [List.getD_eq_getElem?_getD, List.getElem?_eq_getElem h]
  exact List.getElem_mem h

/-! ### Small functions -/
theorem pinside_any (n a b : Int) (w : World) : Calls Try.prog 24 #[.int .i64 n, .int .i64 a, .int .i64 b] w (fun e w' => e = .returned (.bool (decide (a ≤ n) && decide (n ≤ b))) ∧ w = w') := by
  go_enter Try.func24, Try.ntmps24
  by_cases h1 : a ≤ n
  · have d1 : decide (n ≥ a) = true := decide_eq_true h1
    have d1' : decide (a ≤ n) = true := decide_eq_true h1
    go_wp2
    go_ret
    exact ⟨by rw [d1', Bool.true_and]; rfl, rfl⟩
  · have d1 : decide (a ≤ n) = false := decide_eq_false h1
    go_wp2
    go_ret
    exact ⟨rfl, rfl⟩
theorem jobNode_any (i : Int) (h0 : 0 ≤ i) (h1 : i ≤ 1000) (w : World) : Calls Try.prog 17 #[.int .i64 i] w (fun e w' => e = .returned (.int .i64 (2 + i)) ∧ w = w') := by
  have e1 : IntKind.i64.wrap (2 + i) = 2 + i := IntWalk.i64_in _ (by omega)
  go_enter Try.func17, Try.ntmps17
  go_wp2
  go_ret
  exact ⟨rfl, rfl⟩
theorem slotNode_any (i : Int) (b : Nat) (o : Option Addr) (J cap : Nat) (h0 : 0 ≤ i) (h1 : i ≤ 1000) (hJ : J ≤ 1000) (w : World) (hb : w.cell? ⟨b, 0, none⟩ = some (.slice o J cap)) : Calls Try.prog 18 #[.int .i64 i, .pointer (some ⟨b, 0, none⟩)] w (fun e w' => e = .returned (.int .i64 (2 + (J : Int) + i)) ∧ w = w') := by
  have e1 : IntKind.i64.wrap (2 + (J : Int)) = 2 + (J : Int) := IntWalk.i64_in _ (by omega)
  have e2 : IntKind.i64.wrap (2 + (J : Int) + i) = 2 + (J : Int) + i := IntWalk.i64_in _ (by omega)
  go_enter Try.func18, Try.ntmps18
  go_wp2
  go_ret
  exact ⟨rfl, rfl⟩
theorem slots_any (f t e r k : Int) (w : World) : Calls Try.prog 20 #[.agg #[.int .i64 f, .int .i64 t, .int .i64 e, .int .i64 r, .int .i64 k]] w (fun e' w' => e' = .returned (.func (.func 35) #[] #[.pointer (some ⟨w.heap.size, 0, none⟩)]) ∧ w' = w.alloc (.cells #[.int .i64 f, .int .i64 t, .int .i64 e, .int .i64 r, .int .i64 k] 27)) := by
  go_enter Try.func20, Try.ntmps20
  go_wp2
  go_ret
  exact ⟨rfl, rfl⟩
theorem steps_any (nb : Nat) (v : Int) (w : World) : Calls Try.prog 54 #[.pointer (some ⟨nb, 0, none⟩), .int .i64 v] w (fun e' w' => e' = .returned (.func (.func 72) #[] #[.pointer (some ⟨w.heap.size, 0, none⟩), .pointer (some ⟨w.heap.size + 1, 0, none⟩)]) ∧ w' = (w.alloc (.cells #[.pointer (some ⟨nb, 0, none⟩)] 80)).alloc (.cells #[.int .i64 v] 3)) := by
  go_enter Try.func54, Try.ntmps54
  go_wp2
  go_ret
  exact ⟨rfl, rfl⟩
end Go.Proofs.Ythgkfdhkmkbioaa
