/-
  No cell of these rows narrows 'for every input' (looked for: loops, veiled, ifaces, maps, wideKeys, modest, calm, conditions, laid).
  DERIVED. THE GIVEN ROWS OF THIS SEAT. 3 by the template 'for every input the law returns true; each argument reads behind the call as it read before'; 0 by the template 'total and deterministic' (their statements: YtkfmmiekajgdjaaGreatTotals.lean).
  GIVEN WITH THE SEED: the statements are not yours to turn. If you find one false, say at which input.
  Laid BY PROGRAM, IN A SANDBOX (cutbox-rows.mjs): the forced cells as the released guide's own fill.sh prints them over the translation 0f929c0114010e97… (all of the seat's roots in one cut). By AI agents, Wed Nov 11 2026. No macro, syntax, notation, axiom, sorry.
-/
import Derived.Test.YtkfmmiekajgdjaaGreatChecked
import GoSem.Claim
import GoSem.ClaimJoined
import GoSem.ClaimMapViews
import Derived.JoinedTies
import Derived.KernelRfl
namespace Go.Proofs.YtkfmmiekajgdjaaGreat
/- THE CELL 'sum', in the pinned program and in every row, IS THE sha256 OF THE DUMP (.gsa) THAT YtkfmmiekajgdjaaGreatProg.lean LOADS. Nothing in Lean hashes anything: it is a label: what it is worth is what the hold of that sum in a sandbox is worth. -/
noncomputable def Tryz.pinned : Pinned := { name := "ytkfmmiekajgdjaagreat", sum := "0f929c0114010e97914f23fd2901bfcda4dfb33d011c5cabb425cc677e82abaf", checked := Tryz.checked }
namespace Rows
def none {H : Type} : Left H := { results := [], args := [] }

/-- 'chargeparktop.TopMetered': WHATEVER THE INPUT: true; the input reads as it did. -/
def topMeteredSpec : ChangeSpec := { name := "topMetered", fn := fun _ => fun
  | [d1, d2, d3, d4, d5] => { results := [.lit (.bool true)], args := [d1, d2, d3, d4, d5] }
  | _ => none }
def topMeteredRow : OpenClaim := { program := "ytkfmmiekajgdjaagreat", sum := "0f929c0114010e97914f23fd2901bfcda4dfb33d011c5cabb425cc677e82abaf", func := "chargepark/chargeparktop.TopMetered", spec := "topMetered", unfollowed := true, recurses := true, plainKeys := false, apart := false }
def TopMeteredSaid : Prop := topMeteredRow.holds Tryz.pinned (OpenSpec.ofChange topMeteredSpec)

/-- ITS FALSE NEIGHBOUR: 'it returns false'. Refute it at one input. -/
def topMeteredWrong : ChangeSpec := { name := "topMetered", fn := fun _ => fun
  | [d1, d2, d3, d4, d5] => { results := [.lit (.bool false)], args := [d1, d2, d3, d4, d5] }
  | _ => none }
def TopMeteredWrongFalsely : Prop := topMeteredRow.holds Tryz.pinned (OpenSpec.ofChange topMeteredWrong)

/-- 'chargeparktop.TopDisputed': WHATEVER THE INPUT: true; the input reads as it did. -/
def topDisputedSpec : ChangeSpec := { name := "topDisputed", fn := fun _ => fun
  | [d1, d2, d3, d4, d5] => { results := [.lit (.bool true)], args := [d1, d2, d3, d4, d5] }
  | _ => none }
def topDisputedRow : OpenClaim := { program := "ytkfmmiekajgdjaagreat", sum := "0f929c0114010e97914f23fd2901bfcda4dfb33d011c5cabb425cc677e82abaf", func := "chargepark/chargeparktop.TopDisputed", spec := "topDisputed", unfollowed := true, recurses := true, plainKeys := false, apart := false }
def TopDisputedSaid : Prop := topDisputedRow.holds Tryz.pinned (OpenSpec.ofChange topDisputedSpec)

/-- ITS FALSE NEIGHBOUR: 'it returns false'. Refute it at one input. -/
def topDisputedWrong : ChangeSpec := { name := "topDisputed", fn := fun _ => fun
  | [d1, d2, d3, d4, d5] => { results := [.lit (.bool false)], args := [d1, d2, d3, d4, d5] }
  | _ => none }
def TopDisputedWrongFalsely : Prop := topDisputedRow.holds Tryz.pinned (OpenSpec.ofChange topDisputedWrong)

/-- 'chargeparktop.TopRecorded': WHATEVER THE INPUT: true; the input reads as it did. -/
def topRecordedSpec : ChangeSpec := { name := "topRecorded", fn := fun _ => fun
  | [d1, d2, d3] => { results := [.lit (.bool true)], args := [d1, d2, d3] }
  | _ => none }
def topRecordedRow : OpenClaim := { program := "ytkfmmiekajgdjaagreat", sum := "0f929c0114010e97914f23fd2901bfcda4dfb33d011c5cabb425cc677e82abaf", func := "chargepark/chargeparktop.TopRecorded", spec := "topRecorded", unfollowed := true, recurses := true, plainKeys := false, apart := false }
def TopRecordedSaid : Prop := topRecordedRow.holds Tryz.pinned (OpenSpec.ofChange topRecordedSpec)

/-- ITS FALSE NEIGHBOUR: 'it returns false'. Refute it at one input. -/
def topRecordedWrong : ChangeSpec := { name := "topRecorded", fn := fun _ => fun
  | [d1, d2, d3] => { results := [.lit (.bool false)], args := [d1, d2, d3] }
  | _ => none }
def TopRecordedWrongFalsely : Prop := topRecordedRow.holds Tryz.pinned (OpenSpec.ofChange topRecordedWrong)

/- THE SECOND FORM. 'bulk': how many values and letters a reading holds, each counted each time it is reached (what is shared counts as often as it is met; a slice's spare places count too). A statement '..UptoSaid' is the law's where the arguments, and the package variables that the reading takes, are together of bulk at most 1048576: NARROWER than '..Said'. Prove '..Said' where nothing that the law and all that it calls make is longer than what came in: it says more and counts as full. Else prove '..UptoSaid'. A law counts once. -/
mutual
def uptoBulk {H : Type} : DataW H → Nat
  | .lit (.string bytes) => bytes.length + 1
  | .lit _ => 1
  | .nil => 1
  | .ptr d => uptoBulk d + 1
  | .slice elems spare => uptoBulkAll elems + uptoBulkAll spare + 1
  | .agg parts => uptoBulkAll parts + 1
  | .iface _ d => uptoBulk d + 1
  | .map entries => uptoBulkEntries entries + 1
  | .held _ => 1
def uptoBulkAll {H : Type} : List (DataW H) → Nat
  | [] => 0
  | d :: r => uptoBulk d + uptoBulkAll r
def uptoBulkEntries {H : Type} : List (Lit × DataW H) → Nat
  | [] => 0
  | x :: r => uptoBulkEntry x + uptoBulkEntries r
def uptoBulkEntry {H : Type} : Lit × DataW H → Nat
  | (.string bytes, d) => bytes.length + uptoBulk d + 1
  | (_, d) => uptoBulk d + 1
 end
def uptoSmall : (H : Type) → List (DataW H) → Bool := fun _ ds => decide (uptoBulkAll ds ≤ 1048576)
def OpenSpec.upto (s : _root_.Go.ChangeSpec) : _root_.Go.OpenSpec := { _root_.Go.OpenSpec.ofChange s with cond := some uptoSmall }

/-- 'chargeparktop.TopMetered', WHERE WHAT IT READS IS OF BULK AT MOST 1048576: true; the input reads as it did. -/
def topMeteredUptoRow : OpenClaim := { program := "ytkfmmiekajgdjaagreat", sum := "0f929c0114010e97914f23fd2901bfcda4dfb33d011c5cabb425cc677e82abaf", func := "chargepark/chargeparktop.TopMetered", spec := "topMetered", unfollowed := true, recurses := true, plainKeys := false, apart := false, narrowed := true }
def TopMeteredUptoSaid : Prop := topMeteredUptoRow.holds Tryz.pinned (OpenSpec.upto topMeteredSpec)

/-- 'chargeparktop.TopDisputed', WHERE WHAT IT READS IS OF BULK AT MOST 1048576: true; the input reads as it did. -/
def topDisputedUptoRow : OpenClaim := { program := "ytkfmmiekajgdjaagreat", sum := "0f929c0114010e97914f23fd2901bfcda4dfb33d011c5cabb425cc677e82abaf", func := "chargepark/chargeparktop.TopDisputed", spec := "topDisputed", unfollowed := true, recurses := true, plainKeys := false, apart := false, narrowed := true }
def TopDisputedUptoSaid : Prop := topDisputedUptoRow.holds Tryz.pinned (OpenSpec.upto topDisputedSpec)

/-- 'chargeparktop.TopRecorded', WHERE WHAT IT READS IS OF BULK AT MOST 1048576: true; the input reads as it did. -/
def topRecordedUptoRow : OpenClaim := { program := "ytkfmmiekajgdjaagreat", sum := "0f929c0114010e97914f23fd2901bfcda4dfb33d011c5cabb425cc677e82abaf", func := "chargepark/chargeparktop.TopRecorded", spec := "topRecorded", unfollowed := true, recurses := true, plainKeys := false, apart := false, narrowed := true }
def TopRecordedUptoSaid : Prop := topRecordedUptoRow.holds Tryz.pinned (OpenSpec.upto topRecordedSpec)

end Rows
end Go.Proofs.YtkfmmiekajgdjaaGreat
