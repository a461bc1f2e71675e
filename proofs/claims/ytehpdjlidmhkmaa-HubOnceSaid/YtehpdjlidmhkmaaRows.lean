/-
  No cell of these rows narrows 'for every input' (looked for: loops, veiled, ifaces, maps, wideKeys, modest, calm, conditions, laid).
  DERIVED. THE GIVEN ROWS OF THIS SEAT. 7 by the template 'for every input the law returns true; each argument reads behind the call as it read before'; 0 by the template 'total and deterministic' (their statements: YtehpdjlidmhkmaaTotals.lean).
  GIVEN WITH THE SEED: the statements are not yours to turn. If you find one false, say at which input.
  Laid BY PROGRAM, IN A SANDBOX (cutbox-rows.mjs): the forced cells as the released guide's own fill.sh prints them over the translation 9b37aa042cd62a05… (all of the seat's roots in one cut). By AI agents, Wed Nov 11 2026. No macro, syntax, notation, axiom, sorry.
-/
import Derived.Test.YtehpdjlidmhkmaaChecked
import GoSem.Claim
import GoSem.ClaimJoined
import GoSem.ClaimMapViews
import Derived.JoinedTies
import Derived.KernelRfl
namespace Go.Proofs.Ytehpdjlidmhkmaa
/- THE CELL 'sum', in the pinned program and in every row, IS THE sha256 OF THE DUMP (.gsa) THAT YtehpdjlidmhkmaaProg.lean LOADS. Nothing in Lean hashes anything: it is a label: what it is worth is what the hold of that sum in a sandbox is worth. -/
noncomputable def Try.pinned : Pinned := { name := "ytehpdjlidmhkmaa", sum := "9b37aa042cd62a0593b53c4ab8d8951e5c30bdbd15c96bca015ca19be12199ea", checked := Try.checked }
namespace Rows
def none {H : Type} : Left H := { results := [], args := [] }

/-- 'chargeparklaw39.HubMatchesReference': WHATEVER THE INPUT: true; the input reads as it did. -/
def hubMatchesReferenceSpec : ChangeSpec := { name := "hubMatchesReference", fn := fun _ => fun
  | [d1, d2, d3] => { results := [.lit (.bool true)], args := [d1, d2, d3] }
  | _ => none }
def hubMatchesReferenceRow : OpenClaim := { program := "ytehpdjlidmhkmaa", sum := "9b37aa042cd62a0593b53c4ab8d8951e5c30bdbd15c96bca015ca19be12199ea", func := "chargepark/chargeparklaw39.HubMatchesReference", spec := "hubMatchesReference", unfollowed := true, recurses := true, plainKeys := false, apart := false }
def HubMatchesReferenceSaid : Prop := hubMatchesReferenceRow.holds Try.pinned (OpenSpec.ofChange hubMatchesReferenceSpec)

/-- ITS FALSE NEIGHBOUR: 'it returns false'. Refute it at one input. -/
def hubMatchesReferenceWrong : ChangeSpec := { name := "hubMatchesReference", fn := fun _ => fun
  | [d1, d2, d3] => { results := [.lit (.bool false)], args := [d1, d2, d3] }
  | _ => none }
def HubMatchesReferenceWrongFalsely : Prop := hubMatchesReferenceRow.holds Try.pinned (OpenSpec.ofChange hubMatchesReferenceWrong)

/-- 'chargeparklaw39.HubOnce': WHATEVER THE INPUT: true; the input reads as it did. -/
def hubOnceSpec : ChangeSpec := { name := "hubOnce", fn := fun _ => fun
  | [d] => { results := [.lit (.bool true)], args := [d] }
  | _ => none }
def hubOnceRow : OpenClaim := { program := "ytehpdjlidmhkmaa", sum := "9b37aa042cd62a0593b53c4ab8d8951e5c30bdbd15c96bca015ca19be12199ea", func := "chargepark/chargeparklaw39.HubOnce", spec := "hubOnce", unfollowed := true, recurses := true, plainKeys := false, apart := false }
def HubOnceSaid : Prop := hubOnceRow.holds Try.pinned (OpenSpec.ofChange hubOnceSpec)

/-- ITS FALSE NEIGHBOUR: 'it returns false'. Refute it at one input. -/
def hubOnceWrong : ChangeSpec := { name := "hubOnce", fn := fun _ => fun
  | [d] => { results := [.lit (.bool false)], args := [d] }
  | _ => none }
def HubOnceWrongFalsely : Prop := hubOnceRow.holds Try.pinned (OpenSpec.ofChange hubOnceWrong)

/-- 'chargeparklaw39.HubAll': WHATEVER THE INPUT: true; the input reads as it did. -/
def hubAllSpec : ChangeSpec := { name := "hubAll", fn := fun _ => fun
  | [d] => { results := [.lit (.bool true)], args := [d] }
  | _ => none }
def hubAllRow : OpenClaim := { program := "ytehpdjlidmhkmaa", sum := "9b37aa042cd62a0593b53c4ab8d8951e5c30bdbd15c96bca015ca19be12199ea", func := "chargepark/chargeparklaw39.HubAll", spec := "hubAll", unfollowed := true, recurses := true, plainKeys := false, apart := false }
def HubAllSaid : Prop := hubAllRow.holds Try.pinned (OpenSpec.ofChange hubAllSpec)

/-- ITS FALSE NEIGHBOUR: 'it returns false'. Refute it at one input. -/
def hubAllWrong : ChangeSpec := { name := "hubAll", fn := fun _ => fun
  | [d] => { results := [.lit (.bool false)], args := [d] }
  | _ => none }
def HubAllWrongFalsely : Prop := hubAllRow.holds Try.pinned (OpenSpec.ofChange hubAllWrong)

/-- 'chargeparklaw39.HubTwice': WHATEVER THE INPUT: true; the input reads as it did. -/
def hubTwiceSpec : ChangeSpec := { name := "hubTwice", fn := fun _ => fun
  | [d1, d2, d3] => { results := [.lit (.bool true)], args := [d1, d2, d3] }
  | _ => none }
def hubTwiceRow : OpenClaim := { program := "ytehpdjlidmhkmaa", sum := "9b37aa042cd62a0593b53c4ab8d8951e5c30bdbd15c96bca015ca19be12199ea", func := "chargepark/chargeparklaw39.HubTwice", spec := "hubTwice", unfollowed := true, recurses := true, plainKeys := false, apart := false }
def HubTwiceSaid : Prop := hubTwiceRow.holds Try.pinned (OpenSpec.ofChange hubTwiceSpec)

/-- ITS FALSE NEIGHBOUR: 'it returns false'. Refute it at one input. -/
def hubTwiceWrong : ChangeSpec := { name := "hubTwice", fn := fun _ => fun
  | [d1, d2, d3] => { results := [.lit (.bool false)], args := [d1, d2, d3] }
  | _ => none }
def HubTwiceWrongFalsely : Prop := hubTwiceRow.holds Try.pinned (OpenSpec.ofChange hubTwiceWrong)

/-- 'chargeparklaw39.HubSenders': WHATEVER THE INPUT: true; the input reads as it did. -/
def hubSendersSpec : ChangeSpec := { name := "hubSenders", fn := fun _ => fun
  | [d1, d2, d3] => { results := [.lit (.bool true)], args := [d1, d2, d3] }
  | _ => none }
def hubSendersRow : OpenClaim := { program := "ytehpdjlidmhkmaa", sum := "9b37aa042cd62a0593b53c4ab8d8951e5c30bdbd15c96bca015ca19be12199ea", func := "chargepark/chargeparklaw39.HubSenders", spec := "hubSenders", unfollowed := true, recurses := true, plainKeys := false, apart := false }
def HubSendersSaid : Prop := hubSendersRow.holds Try.pinned (OpenSpec.ofChange hubSendersSpec)

/-- ITS FALSE NEIGHBOUR: 'it returns false'. Refute it at one input. -/
def hubSendersWrong : ChangeSpec := { name := "hubSenders", fn := fun _ => fun
  | [d1, d2, d3] => { results := [.lit (.bool false)], args := [d1, d2, d3] }
  | _ => none }
def HubSendersWrongFalsely : Prop := hubSendersRow.holds Try.pinned (OpenSpec.ofChange hubSendersWrong)

/-- 'chargeparklaw39.HubRoom': WHATEVER THE INPUT: true; the input reads as it did. -/
def hubRoomSpec : ChangeSpec := { name := "hubRoom", fn := fun _ => fun
  | [d1, d2, d3] => { results := [.lit (.bool true)], args := [d1, d2, d3] }
  | _ => none }
def hubRoomRow : OpenClaim := { program := "ytehpdjlidmhkmaa", sum := "9b37aa042cd62a0593b53c4ab8d8951e5c30bdbd15c96bca015ca19be12199ea", func := "chargepark/chargeparklaw39.HubRoom", spec := "hubRoom", unfollowed := true, recurses := true, plainKeys := false, apart := false }
def HubRoomSaid : Prop := hubRoomRow.holds Try.pinned (OpenSpec.ofChange hubRoomSpec)

/-- ITS FALSE NEIGHBOUR: 'it returns false'. Refute it at one input. -/
def hubRoomWrong : ChangeSpec := { name := "hubRoom", fn := fun _ => fun
  | [d1, d2, d3] => { results := [.lit (.bool false)], args := [d1, d2, d3] }
  | _ => none }
def HubRoomWrongFalsely : Prop := hubRoomRow.holds Try.pinned (OpenSpec.ofChange hubRoomWrong)

/-- 'chargeparklaw39.HubMissing': WHATEVER THE INPUT: true; the input reads as it did. -/
def hubMissingSpec : ChangeSpec := { name := "hubMissing", fn := fun _ => fun
  | [d1, d2] => { results := [.lit (.bool true)], args := [d1, d2] }
  | _ => none }
def hubMissingRow : OpenClaim := { program := "ytehpdjlidmhkmaa", sum := "9b37aa042cd62a0593b53c4ab8d8951e5c30bdbd15c96bca015ca19be12199ea", func := "chargepark/chargeparklaw39.HubMissing", spec := "hubMissing", unfollowed := true, recurses := true, plainKeys := false, apart := false }
def HubMissingSaid : Prop := hubMissingRow.holds Try.pinned (OpenSpec.ofChange hubMissingSpec)

/-- ITS FALSE NEIGHBOUR: 'it returns false'. Refute it at one input. -/
def hubMissingWrong : ChangeSpec := { name := "hubMissing", fn := fun _ => fun
  | [d1, d2] => { results := [.lit (.bool false)], args := [d1, d2] }
  | _ => none }
def HubMissingWrongFalsely : Prop := hubMissingRow.holds Try.pinned (OpenSpec.ofChange hubMissingWrong)

/- THE SECOND FORM. 'bulk': how many values and letters a reading holds, each counted each time it is reached (what is shared counts as often as it is met; a slice's spare places count too). A statement '..UptoSaid' is the law's where the arguments, and the package variables that the reading takes, are together of bulk at most 1048576: NARROWER than '..Said'. Prove '..Said' where nothing that the law and all that it calls make is longer than what came in: it says more and counts as full. Else prove '..UptoSaid'. A law counts once. -/
mutual
def uptoBulk {H : Type} : DataW H → Nat
  | .lit (.string bytes) => bytes.length + 1
  | .lit _ => 1
  | .nil => 1
  | .ptr d => uptoBulk d + 1
  | .slice elems spare => uptoBulkAll elems + uptoBulkAll spare + 1
  | .agg parts => uptoBulkAll parts + 1
  | .iface _ d => uptoBulk d + 1
  | .map entries => uptoBulkEntries entries + 1
  | .held _ => 1
def uptoBulkAll {H : Type} : List (DataW H) → Nat
  | [] => 0
  | d :: r => uptoBulk d + uptoBulkAll r
def uptoBulkEntries {H : Type} : List (Lit × DataW H) → Nat
  | [] => 0
  | x :: r => uptoBulkEntry x + uptoBulkEntries r
def uptoBulkEntry {H : Type} : Lit × DataW H → Nat
  | (.string bytes, d) => bytes.length + uptoBulk d + 1
  | (_, d) => uptoBulk d + 1
 end
def uptoSmall : (H : Type) → List (DataW H) → Bool := fun _ ds => decide (uptoBulkAll ds ≤ 1048576)
def OpenSpec.upto (s : _root_.Go.ChangeSpec) : _root_.Go.OpenSpec := { _root_.Go.OpenSpec.ofChange s with cond := some uptoSmall }

/-- 'chargeparklaw39.HubMatchesReference', WHERE WHAT IT READS IS OF BULK AT MOST 1048576: true; the input reads as it did. -/
def hubMatchesReferenceUptoRow : OpenClaim := { program := "ytehpdjlidmhkmaa", sum := "9b37aa042cd62a0593b53c4ab8d8951e5c30bdbd15c96bca015ca19be12199ea", func := "chargepark/chargeparklaw39.HubMatchesReference", spec := "hubMatchesReference", unfollowed := true, recurses := true, plainKeys := false, apart := false, narrowed := true }
def HubMatchesReferenceUptoSaid : Prop := hubMatchesReferenceUptoRow.holds Try.pinned (OpenSpec.upto hubMatchesReferenceSpec)

/-- 'chargeparklaw39.HubOnce', WHERE WHAT IT READS IS OF BULK AT MOST 1048576: true; the input reads as it did. -/
def hubOnceUptoRow : OpenClaim := { program := "ytehpdjlidmhkmaa", sum := "9b37aa042cd62a0593b53c4ab8d8951e5c30bdbd15c96bca015ca19be12199ea", func := "chargepark/chargeparklaw39.HubOnce", spec := "hubOnce", unfollowed := true, recurses := true, plainKeys := false, apart := false, narrowed := true }
def HubOnceUptoSaid : Prop := hubOnceUptoRow.holds Try.pinned (OpenSpec.upto hubOnceSpec)

/-- 'chargeparklaw39.HubAll', WHERE WHAT IT READS IS OF BULK AT MOST 1048576: true; the input reads as it did. -/
def hubAllUptoRow : OpenClaim := { program := "ytehpdjlidmhkmaa", sum := "9b37aa042cd62a0593b53c4ab8d8951e5c30bdbd15c96bca015ca19be12199ea", func := "chargepark/chargeparklaw39.HubAll", spec := "hubAll", unfollowed := true, recurses := true, plainKeys := false, apart := false, narrowed := true }
def HubAllUptoSaid : Prop := hubAllUptoRow.holds Try.pinned (OpenSpec.upto hubAllSpec)

/-- 'chargeparklaw39.HubTwice', WHERE WHAT IT READS IS OF BULK AT MOST 1048576: true; the input reads as it did. -/
def hubTwiceUptoRow : OpenClaim := { program := "ytehpdjlidmhkmaa", sum := "9b37aa042cd62a0593b53c4ab8d8951e5c30bdbd15c96bca015ca19be12199ea", func := "chargepark/chargeparklaw39.HubTwice", spec := "hubTwice", unfollowed := true, recurses := true, plainKeys := false, apart := false, narrowed := true }
def HubTwiceUptoSaid : Prop := hubTwiceUptoRow.holds Try.pinned (OpenSpec.upto hubTwiceSpec)

/-- 'chargeparklaw39.HubSenders', WHERE WHAT IT READS IS OF BULK AT MOST 1048576: true; the input reads as it did. -/
def hubSendersUptoRow : OpenClaim := { program := "ytehpdjlidmhkmaa", sum := "9b37aa042cd62a0593b53c4ab8d8951e5c30bdbd15c96bca015ca19be12199ea", func := "chargepark/chargeparklaw39.HubSenders", spec := "hubSenders", unfollowed := true, recurses := true, plainKeys := false, apart := false, narrowed := true }
def HubSendersUptoSaid : Prop := hubSendersUptoRow.holds Try.pinned (OpenSpec.upto hubSendersSpec)

/-- 'chargeparklaw39.HubRoom', WHERE WHAT IT READS IS OF BULK AT MOST 1048576: true; the input reads as it did. -/
def hubRoomUptoRow : OpenClaim := { program := "ytehpdjlidmhkmaa", sum := "9b37aa042cd62a0593b53c4ab8d8951e5c30bdbd15c96bca015ca19be12199ea", func := "chargepark/chargeparklaw39.HubRoom", spec := "hubRoom", unfollowed := true, recurses := true, plainKeys := false, apart := false, narrowed := true }
def HubRoomUptoSaid : Prop := hubRoomUptoRow.holds Try.pinned (OpenSpec.upto hubRoomSpec)

/-- 'chargeparklaw39.HubMissing', WHERE WHAT IT READS IS OF BULK AT MOST 1048576: true; the input reads as it did. -/
def hubMissingUptoRow : OpenClaim := { program := "ytehpdjlidmhkmaa", sum := "9b37aa042cd62a0593b53c4ab8d8951e5c30bdbd15c96bca015ca19be12199ea", func := "chargepark/chargeparklaw39.HubMissing", spec := "hubMissing", unfollowed := true, recurses := true, plainKeys := false, apart := false, narrowed := true }
def HubMissingUptoSaid : Prop := hubMissingUptoRow.holds Try.pinned (OpenSpec.upto hubMissingSpec)

end Rows
end Go.Proofs.Ytehpdjlidmhkmaa
