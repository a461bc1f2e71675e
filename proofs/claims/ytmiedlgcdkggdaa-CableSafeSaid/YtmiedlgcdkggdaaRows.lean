/-
  No cell of these rows narrows 'for every input' (looked for: loops, veiled, ifaces, maps, wideKeys, modest, calm, conditions, laid).
  DERIVED. THE GIVEN ROWS OF THIS SEAT. 5 by the template 'for every input the law returns true; each argument reads behind the call as it read before'; 0 by the template 'total and deterministic' (their statements: YtmiedlgcdkggdaaTotals.lean).
  GIVEN WITH THE SEED: the statements are not yours to turn. If you find one false, say at which input.
  Laid BY PROGRAM, IN A SANDBOX (cutbox-rows.mjs): the forced cells as the released guide's own fill.sh prints them over the translation c43904b053daef75… (all of the seat's roots in one cut). By AI agents, Wed Nov 11 2026. No macro, syntax, notation, axiom, sorry.
-/
import Derived.Test.YtmiedlgcdkggdaaChecked
import GoSem.Claim
import GoSem.ClaimJoined
import GoSem.ClaimMapViews
import Derived.JoinedTies
import Derived.KernelRfl
namespace Go.Proofs.Ytmiedlgcdkggdaa
/- THE CELL 'sum', in the pinned program and in every row, IS THE sha256 OF THE DUMP (.gsa) THAT YtmiedlgcdkggdaaProg.lean LOADS. Nothing in Lean hashes anything: it is a label: what it is worth is what the hold of that sum in a sandbox is worth. -/
noncomputable def Try.pinned : Pinned := { name := "ytmiedlgcdkggdaa", sum := "c43904b053daef754760b2fca9364c2c7dd1938aa2b35e2fff161927e9e31f1c", checked := Try.checked }
namespace Rows
def none {H : Type} : Left H := { results := [], args := [] }

/-- 'chargeparklaw07.CableSafe': WHATEVER THE INPUT: true; the input reads as it did. -/
def cableSafeSpec : ChangeSpec := { name := "cableSafe", fn := fun _ => fun
  | [d1, d2, d3] => { results := [.lit (.bool true)], args := [d1, d2, d3] }
  | _ => none }
def cableSafeRow : OpenClaim := { program := "ytmiedlgcdkggdaa", sum := "c43904b053daef754760b2fca9364c2c7dd1938aa2b35e2fff161927e9e31f1c", func := "chargepark/chargeparklaw07.CableSafe", spec := "cableSafe", unfollowed := true, recurses := true, apart := false }
def CableSafeSaid : Prop := cableSafeRow.holds Try.pinned (OpenSpec.ofChange cableSafeSpec)

/-- ITS FALSE NEIGHBOUR: 'it returns false'. Refute it at one input. -/
def cableSafeWrong : ChangeSpec := { name := "cableSafe", fn := fun _ => fun
  | [d1, d2, d3] => { results := [.lit (.bool false)], args := [d1, d2, d3] }
  | _ => none }
def CableSafeWrongFalsely : Prop := cableSafeRow.holds Try.pinned (OpenSpec.ofChange cableSafeWrong)

/-- 'chargeparklaw07.CableTight': WHATEVER THE INPUT: true; the input reads as it did. -/
def cableTightSpec : ChangeSpec := { name := "cableTight", fn := fun _ => fun
  | [d1, d2, d3] => { results := [.lit (.bool true)], args := [d1, d2, d3] }
  | _ => none }
def cableTightRow : OpenClaim := { program := "ytmiedlgcdkggdaa", sum := "c43904b053daef754760b2fca9364c2c7dd1938aa2b35e2fff161927e9e31f1c", func := "chargepark/chargeparklaw07.CableTight", spec := "cableTight", unfollowed := true, recurses := true, apart := false }
def CableTightSaid : Prop := cableTightRow.holds Try.pinned (OpenSpec.ofChange cableTightSpec)

/-- ITS FALSE NEIGHBOUR: 'it returns false'. Refute it at one input. -/
def cableTightWrong : ChangeSpec := { name := "cableTight", fn := fun _ => fun
  | [d1, d2, d3] => { results := [.lit (.bool false)], args := [d1, d2, d3] }
  | _ => none }
def CableTightWrongFalsely : Prop := cableTightRow.holds Try.pinned (OpenSpec.ofChange cableTightWrong)

/-- 'chargeparklaw07.CableWarmer': WHATEVER THE INPUT: true; the input reads as it did. -/
def cableWarmerSpec : ChangeSpec := { name := "cableWarmer", fn := fun _ => fun
  | [d1, d2, d3, d4, d5] => { results := [.lit (.bool true)], args := [d1, d2, d3, d4, d5] }
  | _ => none }
def cableWarmerRow : OpenClaim := { program := "ytmiedlgcdkggdaa", sum := "c43904b053daef754760b2fca9364c2c7dd1938aa2b35e2fff161927e9e31f1c", func := "chargepark/chargeparklaw07.CableWarmer", spec := "cableWarmer", unfollowed := true, recurses := true, apart := false }
def CableWarmerSaid : Prop := cableWarmerRow.holds Try.pinned (OpenSpec.ofChange cableWarmerSpec)

/-- ITS FALSE NEIGHBOUR: 'it returns false'. Refute it at one input. -/
def cableWarmerWrong : ChangeSpec := { name := "cableWarmer", fn := fun _ => fun
  | [d1, d2, d3, d4, d5] => { results := [.lit (.bool false)], args := [d1, d2, d3, d4, d5] }
  | _ => none }
def CableWarmerWrongFalsely : Prop := cableWarmerRow.holds Try.pinned (OpenSpec.ofChange cableWarmerWrong)

/-- 'chargeparklaw07.CableRests': WHATEVER THE INPUT: true; the input reads as it did. -/
def cableRestsSpec : ChangeSpec := { name := "cableRests", fn := fun _ => fun
  | [d1, d2, d3] => { results := [.lit (.bool true)], args := [d1, d2, d3] }
  | _ => none }
def cableRestsRow : OpenClaim := { program := "ytmiedlgcdkggdaa", sum := "c43904b053daef754760b2fca9364c2c7dd1938aa2b35e2fff161927e9e31f1c", func := "chargepark/chargeparklaw07.CableRests", spec := "cableRests", unfollowed := true, recurses := true, apart := false }
def CableRestsSaid : Prop := cableRestsRow.holds Try.pinned (OpenSpec.ofChange cableRestsSpec)

/-- ITS FALSE NEIGHBOUR: 'it returns false'. Refute it at one input. -/
def cableRestsWrong : ChangeSpec := { name := "cableRests", fn := fun _ => fun
  | [d1, d2, d3] => { results := [.lit (.bool false)], args := [d1, d2, d3] }
  | _ => none }
def CableRestsWrongFalsely : Prop := cableRestsRow.holds Try.pinned (OpenSpec.ofChange cableRestsWrong)

/-- 'chargeparklaw07.CableMargins': WHATEVER THE INPUT: true; the input reads as it did. -/
def cableMarginsSpec : ChangeSpec := { name := "cableMargins", fn := fun _ => fun
  | [d1, d2] => { results := [.lit (.bool true)], args := [d1, d2] }
  | _ => none }
def cableMarginsRow : OpenClaim := { program := "ytmiedlgcdkggdaa", sum := "c43904b053daef754760b2fca9364c2c7dd1938aa2b35e2fff161927e9e31f1c", func := "chargepark/chargeparklaw07.CableMargins", spec := "cableMargins", unfollowed := true, recurses := true, apart := false }
def CableMarginsSaid : Prop := cableMarginsRow.holds Try.pinned (OpenSpec.ofChange cableMarginsSpec)

/-- ITS FALSE NEIGHBOUR: 'it returns false'. Refute it at one input. -/
def cableMarginsWrong : ChangeSpec := { name := "cableMargins", fn := fun _ => fun
  | [d1, d2] => { results := [.lit (.bool false)], args := [d1, d2] }
  | _ => none }
def CableMarginsWrongFalsely : Prop := cableMarginsRow.holds Try.pinned (OpenSpec.ofChange cableMarginsWrong)

/- THE SECOND FORM. 'bulk': how many values and letters a reading holds, each counted each time it is reached (what is shared counts as often as it is met; a slice's spare places count too). A statement '..UptoSaid' is the law's where the arguments, and the package variables that the reading takes, are together of bulk at most 1048576: NARROWER than '..Said'. Prove '..Said' where nothing that the law and all that it calls make is longer than what came in: it says more and counts as full. Else prove '..UptoSaid'. A law counts once. -/
mutual
def uptoBulk {H : Type} : DataW H → Nat
  | .lit (.string bytes) => bytes.length + 1
  | .lit _ => 1
  | .nil => 1
  | .ptr d => uptoBulk d + 1
  | .slice elems spare => uptoBulkAll elems + uptoBulkAll spare + 1
  | .agg parts => uptoBulkAll parts + 1
  | .iface _ d => uptoBulk d + 1
  | .map entries => uptoBulkEntries entries + 1
  | .held _ => 1
def uptoBulkAll {H : Type} : List (DataW H) → Nat
  | [] => 0
  | d :: r => uptoBulk d + uptoBulkAll r
def uptoBulkEntries {H : Type} : List (Lit × DataW H) → Nat
  | [] => 0
  | x :: r => uptoBulkEntry x + uptoBulkEntries r
def uptoBulkEntry {H : Type} : Lit × DataW H → Nat
  | (.string bytes, d) => bytes.length + uptoBulk d + 1
  | (_, d) => uptoBulk d + 1
 end
def uptoSmall : (H : Type) → List (DataW H) → Bool := fun _ ds => decide (uptoBulkAll ds ≤ 1048576)
def OpenSpec.upto (s : _root_.Go.ChangeSpec) : _root_.Go.OpenSpec := { _root_.Go.OpenSpec.ofChange s with cond := some uptoSmall }

/-- 'chargeparklaw07.CableSafe', WHERE WHAT IT READS IS OF BULK AT MOST 1048576: true; the input reads as it did. -/
def cableSafeUptoRow : OpenClaim := { program := "ytmiedlgcdkggdaa", sum := "c43904b053daef754760b2fca9364c2c7dd1938aa2b35e2fff161927e9e31f1c", func := "chargepark/chargeparklaw07.CableSafe", spec := "cableSafe", unfollowed := true, recurses := true, apart := false, narrowed := true }
def CableSafeUptoSaid : Prop := cableSafeUptoRow.holds Try.pinned (OpenSpec.upto cableSafeSpec)

/-- 'chargeparklaw07.CableTight', WHERE WHAT IT READS IS OF BULK AT MOST 1048576: true; the input reads as it did. -/
def cableTightUptoRow : OpenClaim := { program := "ytmiedlgcdkggdaa", sum := "c43904b053daef754760b2fca9364c2c7dd1938aa2b35e2fff161927e9e31f1c", func := "chargepark/chargeparklaw07.CableTight", spec := "cableTight", unfollowed := true, recurses := true, apart := false, narrowed := true }
def CableTightUptoSaid : Prop := cableTightUptoRow.holds Try.pinned (OpenSpec.upto cableTightSpec)

/-- 'chargeparklaw07.CableWarmer', WHERE WHAT IT READS IS OF BULK AT MOST 1048576: true; the input reads as it did. -/
def cableWarmerUptoRow : OpenClaim := { program := "ytmiedlgcdkggdaa", sum := "c43904b053daef754760b2fca9364c2c7dd1938aa2b35e2fff161927e9e31f1c", func := "chargepark/chargeparklaw07.CableWarmer", spec := "cableWarmer", unfollowed := true, recurses := true, apart := false, narrowed := true }
def CableWarmerUptoSaid : Prop := cableWarmerUptoRow.holds Try.pinned (OpenSpec.upto cableWarmerSpec)

/-- 'chargeparklaw07.CableRests', WHERE WHAT IT READS IS OF BULK AT MOST 1048576: true; the input reads as it did. -/
def cableRestsUptoRow : OpenClaim := { program := "ytmiedlgcdkggdaa", sum := "c43904b053daef754760b2fca9364c2c7dd1938aa2b35e2fff161927e9e31f1c", func := "chargepark/chargeparklaw07.CableRests", spec := "cableRests", unfollowed := true, recurses := true, apart := false, narrowed := true }
def CableRestsUptoSaid : Prop := cableRestsUptoRow.holds Try.pinned (OpenSpec.upto cableRestsSpec)

/-- 'chargeparklaw07.CableMargins', WHERE WHAT IT READS IS OF BULK AT MOST 1048576: true; the input reads as it did. -/
def cableMarginsUptoRow : OpenClaim := { program := "ytmiedlgcdkggdaa", sum := "c43904b053daef754760b2fca9364c2c7dd1938aa2b35e2fff161927e9e31f1c", func := "chargepark/chargeparklaw07.CableMargins", spec := "cableMargins", unfollowed := true, recurses := true, apart := false, narrowed := true }
def CableMarginsUptoSaid : Prop := cableMarginsUptoRow.holds Try.pinned (OpenSpec.upto cableMarginsSpec)

end Rows
end Go.Proofs.Ytmiedlgcdkggdaa
