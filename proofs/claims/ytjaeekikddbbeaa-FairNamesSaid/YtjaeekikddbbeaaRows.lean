/-
  No cell of these rows narrows 'for every input' (looked for: loops, veiled, ifaces, maps, wideKeys, modest, calm, conditions, laid).
  DERIVED. THE GIVEN ROWS OF THIS SEAT. 6 by the template 'for every input the law returns true; each argument reads behind the call as it read before'; 0 by the template 'total and deterministic' (their statements: YtjaeekikddbbeaaTotals.lean).
  GIVEN WITH THE SEED: the statements are not yours to turn. If you find one false, say at which input.
  Laid BY PROGRAM, IN A SANDBOX (cutbox-rows.mjs): the forced cells as the released guide's own fill.sh prints them over the translation 5f0374f365d23699… (all of the seat's roots in one cut). By AI agents, Wed Nov 11 2026. No macro, syntax, notation, axiom, sorry.
-/
import Derived.Test.YtjaeekikddbbeaaChecked
import GoSem.Claim
import GoSem.ClaimJoined
import GoSem.ClaimMapViews
import Derived.JoinedTies
import Derived.KernelRfl
namespace Go.Proofs.Ytjaeekikddbbeaa
/- THE CELL 'sum', in the pinned program and in every row, IS THE sha256 OF THE DUMP (.gsa) THAT YtjaeekikddbbeaaProg.lean LOADS. Nothing in Lean hashes anything: it is a label: what it is worth is what the hold of that sum in a sandbox is worth. -/
noncomputable def Try.pinned : Pinned := { name := "ytjaeekikddbbeaa", sum := "5f0374f365d236995ea2a192eb3d6522ebc6f3f4e79e6d8f54a295157836d002", checked := Try.checked }
namespace Rows
def none {H : Type} : Left H := { results := [], args := [] }

/-- 'chargeparklaw22.FairFits': WHATEVER THE INPUT: true; the input reads as it did. -/
def fairFitsSpec : ChangeSpec := { name := "fairFits", fn := fun _ => fun
  | [d1, d2, d3] => { results := [.lit (.bool true)], args := [d1, d2, d3] }
  | _ => none }
def fairFitsRow : OpenClaim := { program := "ytjaeekikddbbeaa", sum := "5f0374f365d236995ea2a192eb3d6522ebc6f3f4e79e6d8f54a295157836d002", func := "chargepark/chargeparklaw22.FairFits", spec := "fairFits", unfollowed := true, recurses := true, apart := false }
def FairFitsSaid : Prop := fairFitsRow.holds Try.pinned (OpenSpec.ofChange fairFitsSpec)

/-- ITS FALSE NEIGHBOUR: 'it returns false'. Refute it at one input. -/
def fairFitsWrong : ChangeSpec := { name := "fairFits", fn := fun _ => fun
  | [d1, d2, d3] => { results := [.lit (.bool false)], args := [d1, d2, d3] }
  | _ => none }
def FairFitsWrongFalsely : Prop := fairFitsRow.holds Try.pinned (OpenSpec.ofChange fairFitsWrong)

/-- 'chargeparklaw22.FairFairest': WHATEVER THE INPUT: true; the input reads as it did. -/
def fairFairestSpec : ChangeSpec := { name := "fairFairest", fn := fun _ => fun
  | [d1, d2, d3, d4] => { results := [.lit (.bool true)], args := [d1, d2, d3, d4] }
  | _ => none }
def fairFairestRow : OpenClaim := { program := "ytjaeekikddbbeaa", sum := "5f0374f365d236995ea2a192eb3d6522ebc6f3f4e79e6d8f54a295157836d002", func := "chargepark/chargeparklaw22.FairFairest", spec := "fairFairest", unfollowed := true, recurses := true, apart := false }
def FairFairestSaid : Prop := fairFairestRow.holds Try.pinned (OpenSpec.ofChange fairFairestSpec)

/-- ITS FALSE NEIGHBOUR: 'it returns false'. Refute it at one input. -/
def fairFairestWrong : ChangeSpec := { name := "fairFairest", fn := fun _ => fun
  | [d1, d2, d3, d4] => { results := [.lit (.bool false)], args := [d1, d2, d3, d4] }
  | _ => none }
def FairFairestWrongFalsely : Prop := fairFairestRow.holds Try.pinned (OpenSpec.ofChange fairFairestWrong)

/-- 'chargeparklaw22.FairNothingLeft': WHATEVER THE INPUT: true; the input reads as it did. -/
def fairNothingLeftSpec : ChangeSpec := { name := "fairNothingLeft", fn := fun _ => fun
  | [d1, d2, d3] => { results := [.lit (.bool true)], args := [d1, d2, d3] }
  | _ => none }
def fairNothingLeftRow : OpenClaim := { program := "ytjaeekikddbbeaa", sum := "5f0374f365d236995ea2a192eb3d6522ebc6f3f4e79e6d8f54a295157836d002", func := "chargepark/chargeparklaw22.FairNothingLeft", spec := "fairNothingLeft", unfollowed := true, recurses := true, apart := false }
def FairNothingLeftSaid : Prop := fairNothingLeftRow.holds Try.pinned (OpenSpec.ofChange fairNothingLeftSpec)

/-- ITS FALSE NEIGHBOUR: 'it returns false'. Refute it at one input. -/
def fairNothingLeftWrong : ChangeSpec := { name := "fairNothingLeft", fn := fun _ => fun
  | [d1, d2, d3] => { results := [.lit (.bool false)], args := [d1, d2, d3] }
  | _ => none }
def FairNothingLeftWrongFalsely : Prop := fairNothingLeftRow.holds Try.pinned (OpenSpec.ofChange fairNothingLeftWrong)

/-- 'chargeparklaw22.FairEquals': WHATEVER THE INPUT: true; the input reads as it did. -/
def fairEqualsSpec : ChangeSpec := { name := "fairEquals", fn := fun _ => fun
  | [d1, d2, d3, d4, d5] => { results := [.lit (.bool true)], args := [d1, d2, d3, d4, d5] }
  | _ => none }
def fairEqualsRow : OpenClaim := { program := "ytjaeekikddbbeaa", sum := "5f0374f365d236995ea2a192eb3d6522ebc6f3f4e79e6d8f54a295157836d002", func := "chargepark/chargeparklaw22.FairEquals", spec := "fairEquals", unfollowed := true, recurses := true, apart := false }
def FairEqualsSaid : Prop := fairEqualsRow.holds Try.pinned (OpenSpec.ofChange fairEqualsSpec)

/-- ITS FALSE NEIGHBOUR: 'it returns false'. Refute it at one input. -/
def fairEqualsWrong : ChangeSpec := { name := "fairEquals", fn := fun _ => fun
  | [d1, d2, d3, d4, d5] => { results := [.lit (.bool false)], args := [d1, d2, d3, d4, d5] }
  | _ => none }
def FairEqualsWrongFalsely : Prop := fairEqualsRow.holds Try.pinned (OpenSpec.ofChange fairEqualsWrong)

/-- 'chargeparklaw22.FairRoom': WHATEVER THE INPUT: true; the input reads as it did. -/
def fairRoomSpec : ChangeSpec := { name := "fairRoom", fn := fun _ => fun
  | [d1, d2, d3, d4] => { results := [.lit (.bool true)], args := [d1, d2, d3, d4] }
  | _ => none }
def fairRoomRow : OpenClaim := { program := "ytjaeekikddbbeaa", sum := "5f0374f365d236995ea2a192eb3d6522ebc6f3f4e79e6d8f54a295157836d002", func := "chargepark/chargeparklaw22.FairRoom", spec := "fairRoom", unfollowed := true, recurses := true, apart := false }
def FairRoomSaid : Prop := fairRoomRow.holds Try.pinned (OpenSpec.ofChange fairRoomSpec)

/-- ITS FALSE NEIGHBOUR: 'it returns false'. Refute it at one input. -/
def fairRoomWrong : ChangeSpec := { name := "fairRoom", fn := fun _ => fun
  | [d1, d2, d3, d4] => { results := [.lit (.bool false)], args := [d1, d2, d3, d4] }
  | _ => none }
def FairRoomWrongFalsely : Prop := fairRoomRow.holds Try.pinned (OpenSpec.ofChange fairRoomWrong)

/-- 'chargeparklaw22.FairNames': WHATEVER THE INPUT: true; the input reads as it did. -/
def fairNamesSpec : ChangeSpec := { name := "fairNames", fn := fun _ => fun
  | [d1, d2, d3] => { results := [.lit (.bool true)], args := [d1, d2, d3] }
  | _ => none }
def fairNamesRow : OpenClaim := { program := "ytjaeekikddbbeaa", sum := "5f0374f365d236995ea2a192eb3d6522ebc6f3f4e79e6d8f54a295157836d002", func := "chargepark/chargeparklaw22.FairNames", spec := "fairNames", unfollowed := true, recurses := true, apart := false }
def FairNamesSaid : Prop := fairNamesRow.holds Try.pinned (OpenSpec.ofChange fairNamesSpec)

/-- ITS FALSE NEIGHBOUR: 'it returns false'. Refute it at one input. -/
def fairNamesWrong : ChangeSpec := { name := "fairNames", fn := fun _ => fun
  | [d1, d2, d3] => { results := [.lit (.bool false)], args := [d1, d2, d3] }
  | _ => none }
def FairNamesWrongFalsely : Prop := fairNamesRow.holds Try.pinned (OpenSpec.ofChange fairNamesWrong)

/- THE SECOND FORM. 'bulk': how many values and letters a reading holds, each counted each time it is reached (what is shared counts as often as it is met; a slice's spare places count too). A statement '..UptoSaid' is the law's where the arguments, and the package variables that the reading takes, are together of bulk at most 1048576: NARROWER than '..Said'. Prove '..Said' where nothing that the law and all that it calls make is longer than what came in: it says more and counts as full. Else prove '..UptoSaid'. A law counts once. -/
mutual
def uptoBulk {H : Type} : DataW H → Nat
  | .lit (.string bytes) => bytes.length + 1
  | .lit _ => 1
  | .nil => 1
  | .ptr d => uptoBulk d + 1
  | .slice elems spare => uptoBulkAll elems + uptoBulkAll spare + 1
  | .agg parts => uptoBulkAll parts + 1
  | .iface _ d => uptoBulk d + 1
  | .map entries => uptoBulkEntries entries + 1
  | .held _ => 1
def uptoBulkAll {H : Type} : List (DataW H) → Nat
  | [] => 0
  | d :: r => uptoBulk d + uptoBulkAll r
def uptoBulkEntries {H : Type} : List (Lit × DataW H) → Nat
  | [] => 0
  | x :: r => uptoBulkEntry x + uptoBulkEntries r
def uptoBulkEntry {H : Type} : Lit × DataW H → Nat
  | (.string bytes, d) => bytes.length + uptoBulk d + 1
  | (_, d) => uptoBulk d + 1
 end
def uptoSmall : (H : Type) → List (DataW H) → Bool := fun _ ds => decide (uptoBulkAll ds ≤ 1048576)
def OpenSpec.upto (s : _root_.Go.ChangeSpec) : _root_.Go.OpenSpec := { _root_.Go.OpenSpec.ofChange s with cond := some uptoSmall }

/-- 'chargeparklaw22.FairFits', WHERE WHAT IT READS IS OF BULK AT MOST 1048576: true; the input reads as it did. -/
def fairFitsUptoRow : OpenClaim := { program := "ytjaeekikddbbeaa", sum := "5f0374f365d236995ea2a192eb3d6522ebc6f3f4e79e6d8f54a295157836d002", func := "chargepark/chargeparklaw22.FairFits", spec := "fairFits", unfollowed := true, recurses := true, apart := false, narrowed := true }
def FairFitsUptoSaid : Prop := fairFitsUptoRow.holds Try.pinned (OpenSpec.upto fairFitsSpec)

/-- 'chargeparklaw22.FairFairest', WHERE WHAT IT READS IS OF BULK AT MOST 1048576: true; the input reads as it did. -/
def fairFairestUptoRow : OpenClaim := { program := "ytjaeekikddbbeaa", sum := "5f0374f365d236995ea2a192eb3d6522ebc6f3f4e79e6d8f54a295157836d002", func := "chargepark/chargeparklaw22.FairFairest", spec := "fairFairest", unfollowed := true, recurses := true, apart := false, narrowed := true }
def FairFairestUptoSaid : Prop := fairFairestUptoRow.holds Try.pinned (OpenSpec.upto fairFairestSpec)

/-- 'chargeparklaw22.FairNothingLeft', WHERE WHAT IT READS IS OF BULK AT MOST 1048576: true; the input reads as it did. -/
def fairNothingLeftUptoRow : OpenClaim := { program := "ytjaeekikddbbeaa", sum := "5f0374f365d236995ea2a192eb3d6522ebc6f3f4e79e6d8f54a295157836d002", func := "chargepark/chargeparklaw22.FairNothingLeft", spec := "fairNothingLeft", unfollowed := true, recurses := true, apart := false, narrowed := true }
def FairNothingLeftUptoSaid : Prop := fairNothingLeftUptoRow.holds Try.pinned (OpenSpec.upto fairNothingLeftSpec)

/-- 'chargeparklaw22.FairEquals', WHERE WHAT IT READS IS OF BULK AT MOST 1048576: true; the input reads as it did. -/
def fairEqualsUptoRow : OpenClaim := { program := "ytjaeekikddbbeaa", sum := "5f0374f365d236995ea2a192eb3d6522ebc6f3f4e79e6d8f54a295157836d002", func := "chargepark/chargeparklaw22.FairEquals", spec := "fairEquals", unfollowed := true, recurses := true, apart := false, narrowed := true }
def FairEqualsUptoSaid : Prop := fairEqualsUptoRow.holds Try.pinned (OpenSpec.upto fairEqualsSpec)

/-- 'chargeparklaw22.FairRoom', WHERE WHAT IT READS IS OF BULK AT MOST 1048576: true; the input reads as it did. -/
def fairRoomUptoRow : OpenClaim := { program := "ytjaeekikddbbeaa", sum := "5f0374f365d236995ea2a192eb3d6522ebc6f3f4e79e6d8f54a295157836d002", func := "chargepark/chargeparklaw22.FairRoom", spec := "fairRoom", unfollowed := true, recurses := true, apart := false, narrowed := true }
def FairRoomUptoSaid : Prop := fairRoomUptoRow.holds Try.pinned (OpenSpec.upto fairRoomSpec)

/-- 'chargeparklaw22.FairNames', WHERE WHAT IT READS IS OF BULK AT MOST 1048576: true; the input reads as it did. -/
def fairNamesUptoRow : OpenClaim := { program := "ytjaeekikddbbeaa", sum := "5f0374f365d236995ea2a192eb3d6522ebc6f3f4e79e6d8f54a295157836d002", func := "chargepark/chargeparklaw22.FairNames", spec := "fairNames", unfollowed := true, recurses := true, apart := false, narrowed := true }
def FairNamesUptoSaid : Prop := fairNamesUptoRow.holds Try.pinned (OpenSpec.upto fairNamesSpec)

end Rows
end Go.Proofs.Ytjaeekikddbbeaa
