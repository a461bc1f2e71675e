/-
  No cell of these rows narrows 'for every input' (looked for: loops, veiled, ifaces, maps, wideKeys, modest, calm, conditions, laid).
  DERIVED. THE GIVEN ROWS OF THIS SEAT. 6 by the template 'for every input the law returns true; each argument reads behind the call as it read before'; 0 by the template 'total and deterministic' (their statements: YtddbobphmakmmaaTotals.lean).
  GIVEN WITH THE SEED: the statements are not yours to turn. If you find one false, say at which input.
  Laid BY PROGRAM, IN A SANDBOX (cutbox-rows.mjs): the forced cells as the released guide's own fill.sh prints them over the translation 2ccd58156c6a04ef… (all of the seat's roots in one cut). By AI agents, Wed Nov 11 2026. No macro, syntax, notation, axiom, sorry.
-/
import Derived.Test.YtddbobphmakmmaaChecked
import GoSem.Claim
import GoSem.ClaimJoined
import GoSem.ClaimMapViews
import Derived.JoinedTies
import Derived.KernelRfl
namespace Go.Proofs.Ytddbobphmakmmaa
/- THE CELL 'sum', in the pinned program and in every row, IS THE sha256 OF THE DUMP (.gsa) THAT YtddbobphmakmmaaProg.lean LOADS. Nothing in Lean hashes anything: it is a label: what it is worth is what the hold of that sum in a sandbox is worth. -/
noncomputable def Try.pinned : Pinned := { name := "ytddbobphmakmmaa", sum := "2ccd58156c6a04efc18caca96545add8b936d0ccb77142f528a346e38253a2a1", checked := Try.checked }
namespace Rows
def none {H : Type} : Left H := { results := [], args := [] }

/-- 'chargeparklaw41.RecordMatchesReference': WHATEVER THE INPUT: true; the input reads as it did. -/
def recordMatchesReferenceSpec : ChangeSpec := { name := "recordMatchesReference", fn := fun _ => fun
  | [d1, d2, d3] => { results := [.lit (.bool true)], args := [d1, d2, d3] }
  | _ => none }
def recordMatchesReferenceRow : OpenClaim := { program := "ytddbobphmakmmaa", sum := "2ccd58156c6a04efc18caca96545add8b936d0ccb77142f528a346e38253a2a1", func := "chargepark/chargeparklaw41.RecordMatchesReference", spec := "recordMatchesReference", unfollowed := true, recurses := true, apart := false }
def RecordMatchesReferenceSaid : Prop := recordMatchesReferenceRow.holds Try.pinned (OpenSpec.ofChange recordMatchesReferenceSpec)

/-- ITS FALSE NEIGHBOUR: 'it returns false'. Refute it at one input. -/
def recordMatchesReferenceWrong : ChangeSpec := { name := "recordMatchesReference", fn := fun _ => fun
  | [d1, d2, d3] => { results := [.lit (.bool false)], args := [d1, d2, d3] }
  | _ => none }
def RecordMatchesReferenceWrongFalsely : Prop := recordMatchesReferenceRow.holds Try.pinned (OpenSpec.ofChange recordMatchesReferenceWrong)

/-- 'chargeparklaw41.RecordClosed': WHATEVER THE INPUT: true; the input reads as it did. -/
def recordClosedSpec : ChangeSpec := { name := "recordClosed", fn := fun _ => fun
  | [d1, d2, d3] => { results := [.lit (.bool true)], args := [d1, d2, d3] }
  | _ => none }
def recordClosedRow : OpenClaim := { program := "ytddbobphmakmmaa", sum := "2ccd58156c6a04efc18caca96545add8b936d0ccb77142f528a346e38253a2a1", func := "chargepark/chargeparklaw41.RecordClosed", spec := "recordClosed", unfollowed := true, recurses := true, apart := false }
def RecordClosedSaid : Prop := recordClosedRow.holds Try.pinned (OpenSpec.ofChange recordClosedSpec)

/-- ITS FALSE NEIGHBOUR: 'it returns false'. Refute it at one input. -/
def recordClosedWrong : ChangeSpec := { name := "recordClosed", fn := fun _ => fun
  | [d1, d2, d3] => { results := [.lit (.bool false)], args := [d1, d2, d3] }
  | _ => none }
def RecordClosedWrongFalsely : Prop := recordClosedRow.holds Try.pinned (OpenSpec.ofChange recordClosedWrong)

/-- 'chargeparklaw41.RecordChanged': WHATEVER THE INPUT: true; the input reads as it did. -/
def recordChangedSpec : ChangeSpec := { name := "recordChanged", fn := fun _ => fun
  | [d1, d2, d3, d4, d5] => { results := [.lit (.bool true)], args := [d1, d2, d3, d4, d5] }
  | _ => none }
def recordChangedRow : OpenClaim := { program := "ytddbobphmakmmaa", sum := "2ccd58156c6a04efc18caca96545add8b936d0ccb77142f528a346e38253a2a1", func := "chargepark/chargeparklaw41.RecordChanged", spec := "recordChanged", unfollowed := true, recurses := true, apart := false }
def RecordChangedSaid : Prop := recordChangedRow.holds Try.pinned (OpenSpec.ofChange recordChangedSpec)

/-- ITS FALSE NEIGHBOUR: 'it returns false'. Refute it at one input. -/
def recordChangedWrong : ChangeSpec := { name := "recordChanged", fn := fun _ => fun
  | [d1, d2, d3, d4, d5] => { results := [.lit (.bool false)], args := [d1, d2, d3, d4, d5] }
  | _ => none }
def RecordChangedWrongFalsely : Prop := recordChangedRow.holds Try.pinned (OpenSpec.ofChange recordChangedWrong)

/-- 'chargeparklaw41.RecordKeys': WHATEVER THE INPUT: true; the input reads as it did. -/
def recordKeysSpec : ChangeSpec := { name := "recordKeys", fn := fun _ => fun
  | [d1, d2, d3, d4] => { results := [.lit (.bool true)], args := [d1, d2, d3, d4] }
  | _ => none }
def recordKeysRow : OpenClaim := { program := "ytddbobphmakmmaa", sum := "2ccd58156c6a04efc18caca96545add8b936d0ccb77142f528a346e38253a2a1", func := "chargepark/chargeparklaw41.RecordKeys", spec := "recordKeys", unfollowed := true, recurses := true, apart := false }
def RecordKeysSaid : Prop := recordKeysRow.holds Try.pinned (OpenSpec.ofChange recordKeysSpec)

/-- ITS FALSE NEIGHBOUR: 'it returns false'. Refute it at one input. -/
def recordKeysWrong : ChangeSpec := { name := "recordKeys", fn := fun _ => fun
  | [d1, d2, d3, d4] => { results := [.lit (.bool false)], args := [d1, d2, d3, d4] }
  | _ => none }
def RecordKeysWrongFalsely : Prop := recordKeysRow.holds Try.pinned (OpenSpec.ofChange recordKeysWrong)

/-- 'chargeparklaw41.RecordSigns': WHATEVER THE INPUT: true; the input reads as it did. -/
def recordSignsSpec : ChangeSpec := { name := "recordSigns", fn := fun _ => fun
  | [d1, d2, d3] => { results := [.lit (.bool true)], args := [d1, d2, d3] }
  | _ => none }
def recordSignsRow : OpenClaim := { program := "ytddbobphmakmmaa", sum := "2ccd58156c6a04efc18caca96545add8b936d0ccb77142f528a346e38253a2a1", func := "chargepark/chargeparklaw41.RecordSigns", spec := "recordSigns", unfollowed := true, recurses := true, apart := false }
def RecordSignsSaid : Prop := recordSignsRow.holds Try.pinned (OpenSpec.ofChange recordSignsSpec)

/-- ITS FALSE NEIGHBOUR: 'it returns false'. Refute it at one input. -/
def recordSignsWrong : ChangeSpec := { name := "recordSigns", fn := fun _ => fun
  | [d1, d2, d3] => { results := [.lit (.bool false)], args := [d1, d2, d3] }
  | _ => none }
def RecordSignsWrongFalsely : Prop := recordSignsRow.holds Try.pinned (OpenSpec.ofChange recordSignsWrong)

/-- 'chargeparklaw41.RecordParts': WHATEVER THE INPUT: true; the input reads as it did. -/
def recordPartsSpec : ChangeSpec := { name := "recordParts", fn := fun _ => fun
  | [d1, d2, d3, d4, d5, d6] => { results := [.lit (.bool true)], args := [d1, d2, d3, d4, d5, d6] }
  | _ => none }
def recordPartsRow : OpenClaim := { program := "ytddbobphmakmmaa", sum := "2ccd58156c6a04efc18caca96545add8b936d0ccb77142f528a346e38253a2a1", func := "chargepark/chargeparklaw41.RecordParts", spec := "recordParts", unfollowed := true, recurses := true, apart := false }
def RecordPartsSaid : Prop := recordPartsRow.holds Try.pinned (OpenSpec.ofChange recordPartsSpec)

/-- ITS FALSE NEIGHBOUR: 'it returns false'. Refute it at one input. -/
def recordPartsWrong : ChangeSpec := { name := "recordParts", fn := fun _ => fun
  | [d1, d2, d3, d4, d5, d6] => { results := [.lit (.bool false)], args := [d1, d2, d3, d4, d5, d6] }
  | _ => none }
def RecordPartsWrongFalsely : Prop := recordPartsRow.holds Try.pinned (OpenSpec.ofChange recordPartsWrong)

/- THE SECOND FORM. 'bulk': how many values and letters a reading holds, each counted each time it is reached (what is shared counts as often as it is met; a slice's spare places count too). A statement '..UptoSaid' is the law's where the arguments, and the package variables that the reading takes, are together of bulk at most 1048576: NARROWER than '..Said'. Prove '..Said' where nothing that the law and all that it calls make is longer than what came in: it says more and counts as full. Else prove '..UptoSaid'. A law counts once. -/
mutual
def uptoBulk {H : Type} : DataW H → Nat
  | .lit (.string bytes) => bytes.length + 1
  | .lit _ => 1
  | .nil => 1
  | .ptr d => uptoBulk d + 1
  | .slice elems spare => uptoBulkAll elems + uptoBulkAll spare + 1
  | .agg parts => uptoBulkAll parts + 1
  | .iface _ d => uptoBulk d + 1
  | .map entries => uptoBulkEntries entries + 1
  | .held _ => 1
def uptoBulkAll {H : Type} : List (DataW H) → Nat
  | [] => 0
  | d :: r => uptoBulk d + uptoBulkAll r
def uptoBulkEntries {H : Type} : List (Lit × DataW H) → Nat
  | [] => 0
  | x :: r => uptoBulkEntry x + uptoBulkEntries r
def uptoBulkEntry {H : Type} : Lit × DataW H → Nat
  | (.string bytes, d) => bytes.length + uptoBulk d + 1
  | (_, d) => uptoBulk d + 1
 end
def uptoSmall : (H : Type) → List (DataW H) → Bool := fun _ ds => decide (uptoBulkAll ds ≤ 1048576)
def OpenSpec.upto (s : _root_.Go.ChangeSpec) : _root_.Go.OpenSpec := { _root_.Go.OpenSpec.ofChange s with cond := some uptoSmall }

/-- 'chargeparklaw41.RecordMatchesReference', WHERE WHAT IT READS IS OF BULK AT MOST 1048576: true; the input reads as it did. -/
def recordMatchesReferenceUptoRow : OpenClaim := { program := "ytddbobphmakmmaa", sum := "2ccd58156c6a04efc18caca96545add8b936d0ccb77142f528a346e38253a2a1", func := "chargepark/chargeparklaw41.RecordMatchesReference", spec := "recordMatchesReference", unfollowed := true, recurses := true, apart := false, narrowed := true }
def RecordMatchesReferenceUptoSaid : Prop := recordMatchesReferenceUptoRow.holds Try.pinned (OpenSpec.upto recordMatchesReferenceSpec)

/-- 'chargeparklaw41.RecordClosed', WHERE WHAT IT READS IS OF BULK AT MOST 1048576: true; the input reads as it did. -/
def recordClosedUptoRow : OpenClaim := { program := "ytddbobphmakmmaa", sum := "2ccd58156c6a04efc18caca96545add8b936d0ccb77142f528a346e38253a2a1", func := "chargepark/chargeparklaw41.RecordClosed", spec := "recordClosed", unfollowed := true, recurses := true, apart := false, narrowed := true }
def RecordClosedUptoSaid : Prop := recordClosedUptoRow.holds Try.pinned (OpenSpec.upto recordClosedSpec)

/-- 'chargeparklaw41.RecordChanged', WHERE WHAT IT READS IS OF BULK AT MOST 1048576: true; the input reads as it did. -/
def recordChangedUptoRow : OpenClaim := { program := "ytddbobphmakmmaa", sum := "2ccd58156c6a04efc18caca96545add8b936d0ccb77142f528a346e38253a2a1", func := "chargepark/chargeparklaw41.RecordChanged", spec := "recordChanged", unfollowed := true, recurses := true, apart := false, narrowed := true }
def RecordChangedUptoSaid : Prop := recordChangedUptoRow.holds Try.pinned (OpenSpec.upto recordChangedSpec)

/-- 'chargeparklaw41.RecordKeys', WHERE WHAT IT READS IS OF BULK AT MOST 1048576: true; the input reads as it did. -/
def recordKeysUptoRow : OpenClaim := { program := "ytddbobphmakmmaa", sum := "2ccd58156c6a04efc18caca96545add8b936d0ccb77142f528a346e38253a2a1", func := "chargepark/chargeparklaw41.RecordKeys", spec := "recordKeys", unfollowed := true, recurses := true, apart := false, narrowed := true }
def RecordKeysUptoSaid : Prop := recordKeysUptoRow.holds Try.pinned (OpenSpec.upto recordKeysSpec)

/-- 'chargeparklaw41.RecordSigns', WHERE WHAT IT READS IS OF BULK AT MOST 1048576: true; the input reads as it did. -/
def recordSignsUptoRow : OpenClaim := { program := "ytddbobphmakmmaa", sum := "2ccd58156c6a04efc18caca96545add8b936d0ccb77142f528a346e38253a2a1", func := "chargepark/chargeparklaw41.RecordSigns", spec := "recordSigns", unfollowed := true, recurses := true, apart := false, narrowed := true }
def RecordSignsUptoSaid : Prop := recordSignsUptoRow.holds Try.pinned (OpenSpec.upto recordSignsSpec)

/-- 'chargeparklaw41.RecordParts', WHERE WHAT IT READS IS OF BULK AT MOST 1048576: true; the input reads as it did. -/
def recordPartsUptoRow : OpenClaim := { program := "ytddbobphmakmmaa", sum := "2ccd58156c6a04efc18caca96545add8b936d0ccb77142f528a346e38253a2a1", func := "chargepark/chargeparklaw41.RecordParts", spec := "recordParts", unfollowed := true, recurses := true, apart := false, narrowed := true }
def RecordPartsUptoSaid : Prop := recordPartsUptoRow.holds Try.pinned (OpenSpec.upto recordPartsSpec)

end Rows
end Go.Proofs.Ytddbobphmakmmaa
