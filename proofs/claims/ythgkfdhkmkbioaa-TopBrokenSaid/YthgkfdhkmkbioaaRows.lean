/-
  No cell of these rows narrows 'for every input' (looked for: loops, veiled, ifaces, maps, wideKeys, modest, calm, conditions, laid).
  DERIVED. THE GIVEN ROWS OF THIS SEAT. 3 by the template 'for every input the law returns true; each argument reads behind the call as it read before'; 0 by the template 'total and deterministic' (their statements: YthgkfdhkmkbioaaTotals.lean).
  GIVEN WITH THE SEED: the statements are not yours to turn. If you find one false, say at which input.
  Laid BY PROGRAM, IN A SANDBOX (cutbox-rows.mjs): the forced cells as the released guide's own fill.sh prints them over the translation 94dc50ee2f4a3808… (all of the seat's roots in one cut). By AI agents, Wed Nov 11 2026. No macro, syntax, notation, axiom, sorry.
-/
import Derived.Test.YthgkfdhkmkbioaaChecked
import GoSem.Claim
import GoSem.ClaimJoined
import GoSem.ClaimMapViews
import Derived.JoinedTies
import Derived.KernelRfl
namespace Go.Proofs.Ythgkfdhkmkbioaa
/- THE CELL 'sum', in the pinned program and in every row, IS THE sha256 OF THE DUMP (.gsa) THAT YthgkfdhkmkbioaaProg.lean LOADS. Nothing in Lean hashes anything: it is a label: what it is worth is what the hold of that sum in a sandbox is worth. -/
noncomputable def Try.pinned : Pinned := { name := "ythgkfdhkmkbioaa", sum := "94dc50ee2f4a3808f24eb841be455de660e9feb87452f3afe78da06f3c0d65ba", checked := Try.checked }
namespace Rows
def none {H : Type} : Left H := { results := [], args := [] }

/-- 'chargeparktop.TopHall': WHATEVER THE INPUT: true; the input reads as it did. -/
def topHallSpec : ChangeSpec := { name := "topHall", fn := fun _ => fun
  | [d1, d2] => { results := [.lit (.bool true)], args := [d1, d2] }
  | _ => none }
def topHallRow : OpenClaim := { program := "ythgkfdhkmkbioaa", sum := "94dc50ee2f4a3808f24eb841be455de660e9feb87452f3afe78da06f3c0d65ba", func := "chargepark/chargeparktop.TopHall", spec := "topHall", unfollowed := true, recurses := true, apart := false }
def TopHallSaid : Prop := topHallRow.holds Try.pinned (OpenSpec.ofChange topHallSpec)

/-- ITS FALSE NEIGHBOUR: 'it returns false'. Refute it at one input. -/
def topHallWrong : ChangeSpec := { name := "topHall", fn := fun _ => fun
  | [d1, d2] => { results := [.lit (.bool false)], args := [d1, d2] }
  | _ => none }
def TopHallWrongFalsely : Prop := topHallRow.holds Try.pinned (OpenSpec.ofChange topHallWrong)

/-- 'chargeparktop.TopPromises': WHATEVER THE INPUT: true; the input reads as it did. -/
def topPromisesSpec : ChangeSpec := { name := "topPromises", fn := fun _ => fun
  | [d1, d2] => { results := [.lit (.bool true)], args := [d1, d2] }
  | _ => none }
def topPromisesRow : OpenClaim := { program := "ythgkfdhkmkbioaa", sum := "94dc50ee2f4a3808f24eb841be455de660e9feb87452f3afe78da06f3c0d65ba", func := "chargepark/chargeparktop.TopPromises", spec := "topPromises", unfollowed := true, recurses := true, apart := false }
def TopPromisesSaid : Prop := topPromisesRow.holds Try.pinned (OpenSpec.ofChange topPromisesSpec)

/-- ITS FALSE NEIGHBOUR: 'it returns false'. Refute it at one input. -/
def topPromisesWrong : ChangeSpec := { name := "topPromises", fn := fun _ => fun
  | [d1, d2] => { results := [.lit (.bool false)], args := [d1, d2] }
  | _ => none }
def TopPromisesWrongFalsely : Prop := topPromisesRow.holds Try.pinned (OpenSpec.ofChange topPromisesWrong)

/-- 'chargeparktop.TopBroken': WHATEVER THE INPUT: true; the input reads as it did. -/
def topBrokenSpec : ChangeSpec := { name := "topBroken", fn := fun _ => fun
  | [d1, d2, d3, d4] => { results := [.lit (.bool true)], args := [d1, d2, d3, d4] }
  | _ => none }
def topBrokenRow : OpenClaim := { program := "ythgkfdhkmkbioaa", sum := "94dc50ee2f4a3808f24eb841be455de660e9feb87452f3afe78da06f3c0d65ba", func := "chargepark/chargeparktop.TopBroken", spec := "topBroken", unfollowed := true, recurses := true, apart := false }
def TopBrokenSaid : Prop := topBrokenRow.holds Try.pinned (OpenSpec.ofChange topBrokenSpec)

/-- ITS FALSE NEIGHBOUR: 'it returns false'. Refute it at one input. -/
def topBrokenWrong : ChangeSpec := { name := "topBroken", fn := fun _ => fun
  | [d1, d2, d3, d4] => { results := [.lit (.bool false)], args := [d1, d2, d3, d4] }
  | _ => none }
def TopBrokenWrongFalsely : Prop := topBrokenRow.holds Try.pinned (OpenSpec.ofChange topBrokenWrong)

/- THE SECOND FORM. 'bulk': how many values and letters a reading holds, each counted each time it is reached (what is shared counts as often as it is met; a slice's spare places count too). A statement '..UptoSaid' is the law's where the arguments, and the package variables that the reading takes, are together of bulk at most 1048576: NARROWER than '..Said'. Prove '..Said' where nothing that the law and all that it calls make is longer than what came in: it says more and counts as full. Else prove '..UptoSaid'. A law counts once. -/
mutual
def uptoBulk {H : Type} : DataW H → Nat
  | .lit (.string bytes) => bytes.length + 1
  | .lit _ => 1
  | .nil => 1
  | .ptr d => uptoBulk d + 1
  | .slice elems spare => uptoBulkAll elems + uptoBulkAll spare + 1
  | .agg parts => uptoBulkAll parts + 1
  | .iface _ d => uptoBulk d + 1
  | .map entries => uptoBulkEntries entries + 1
  | .held _ => 1
def uptoBulkAll {H : Type} : List (DataW H) → Nat
  | [] => 0
  | d :: r => uptoBulk d + uptoBulkAll r
def uptoBulkEntries {H : Type} : List (Lit × DataW H) → Nat
  | [] => 0
  | x :: r => uptoBulkEntry x + uptoBulkEntries r
def uptoBulkEntry {H : Type} : Lit × DataW H → Nat
  | (.string bytes, d) => bytes.length + uptoBulk d + 1
  | (_, d) => uptoBulk d + 1
 end
def uptoSmall : (H : Type) → List (DataW H) → Bool := fun _ ds => decide (uptoBulkAll ds ≤ 1048576)
def OpenSpec.upto (s : _root_.Go.ChangeSpec) : _root_.Go.OpenSpec := { _root_.Go.OpenSpec.ofChange s with cond := some uptoSmall }

/-- 'chargeparktop.TopHall', WHERE WHAT IT READS IS OF BULK AT MOST 1048576: true; the input reads as it did. -/
def topHallUptoRow : OpenClaim := { program := "ythgkfdhkmkbioaa", sum := "94dc50ee2f4a3808f24eb841be455de660e9feb87452f3afe78da06f3c0d65ba", func := "chargepark/chargeparktop.TopHall", spec := "topHall", unfollowed := true, recurses := true, apart := false, narrowed := true }
def TopHallUptoSaid : Prop := topHallUptoRow.holds Try.pinned (OpenSpec.upto topHallSpec)

/-- 'chargeparktop.TopPromises', WHERE WHAT IT READS IS OF BULK AT MOST 1048576: true; the input reads as it did. -/
def topPromisesUptoRow : OpenClaim := { program := "ythgkfdhkmkbioaa", sum := "94dc50ee2f4a3808f24eb841be455de660e9feb87452f3afe78da06f3c0d65ba", func := "chargepark/chargeparktop.TopPromises", spec := "topPromises", unfollowed := true, recurses := true, apart := false, narrowed := true }
def TopPromisesUptoSaid : Prop := topPromisesUptoRow.holds Try.pinned (OpenSpec.upto topPromisesSpec)

/-- 'chargeparktop.TopBroken', WHERE WHAT IT READS IS OF BULK AT MOST 1048576: true; the input reads as it did. -/
def topBrokenUptoRow : OpenClaim := { program := "ythgkfdhkmkbioaa", sum := "94dc50ee2f4a3808f24eb841be455de660e9feb87452f3afe78da06f3c0d65ba", func := "chargepark/chargeparktop.TopBroken", spec := "topBroken", unfollowed := true, recurses := true, apart := false, narrowed := true }
def TopBrokenUptoSaid : Prop := topBrokenUptoRow.holds Try.pinned (OpenSpec.upto topBrokenSpec)

end Rows
end Go.Proofs.Ythgkfdhkmkbioaa
