/-
  NARROWER THAN 'FOR EVERY INPUT', by the rows' own cells (each row's printed sentence says how): MatchMatchesReference: laid · MatchLeast: laid · MatchRight: laid · MatchMisread: laid · MatchOneMore: laid · MatchTurned: laid · MatchBounds: laid · MatchFar: laid.
  DERIVED. THE GIVEN ROWS OF THIS SEAT. 8 by the template 'for every input the law returns true; each argument reads behind the call as it read before'; 0 by the template 'total and deterministic' (their statements: YtmcodendnpjlaaaDoorTotals.lean).
  GIVEN WITH THE SEED: the statements are not yours to turn. If you find one false, say at which input.
  Laid BY PROGRAM, IN A SANDBOX (cutbox-rows.mjs): the forced cells as the released guide's own fill.sh prints them over the translation d7a5a687cc607f27… (all of the seat's roots in one cut). By AI agents, Wed Nov 11 2026. No macro, syntax, notation, axiom, sorry.
-/
import Derived.Test.YtmcodendnpjlaaaDoorChecked
import GoSem.Claim
import GoSem.ClaimJoined
import GoSem.ClaimMapViews
import Derived.JoinedTies
import Derived.KernelRfl
namespace Go.Proofs.YtmcodendnpjlaaaDoor
/- THE CELL 'sum', in the pinned program and in every row, IS THE sha256 OF THE DUMP (.gsa) THAT YtmcodendnpjlaaaDoorProg.lean LOADS. Nothing in Lean hashes anything: it is a label: what it is worth is what the hold of that sum in a sandbox is worth. -/
noncomputable def Tryd.pinned : Pinned := { name := "ytmcodendnpjlaaadoor", sum := "d7a5a687cc607f27e28828ea2ec26785810a5ea115659d6dfe790d1cd5f50582", checked := Tryd.checked }
namespace Rows
def none {H : Type} : Left H := { results := [], args := [] }

/- WHAT THE LISTED PACKAGE-LEVEL VARIABLES READ AS WHEN THE CALL BEGINS. Each datum BY PROGRAM (the guide's laid-datum.mjs) off the statement by which the dump's own 'gosem.cut.vars' lays the variable. In a bare row this is a premise. The card (YtmcodendnpjlaaaDoorCards.lean) ties it to the program's text. -/
def laid_chargepark_plate_confusable {H : Type} : DataW H := .agg [.agg [.lit (.int .i32 79), .lit (.int .i32 48)], .agg [.lit (.int .i32 73), .lit (.int .i32 49)], .agg [.lit (.int .i32 66), .lit (.int .i32 56)], .agg [.lit (.int .i32 83), .lit (.int .i32 53)], .agg [.lit (.int .i32 90), .lit (.int .i32 50)]]

/-- 'chargeparklaw37.MatchMatchesReference': WHATEVER THE INPUT: true; the input reads as it did. -/
def matchMatchesReferenceSpec : ChangeSpec := { name := "matchMatchesReference", fn := fun _ => fun
  | [d1, d2, d3] => { results := [.lit (.bool true)], args := [d1, d2, d3] }
  | _ => none }
def matchMatchesReferenceRow : OpenClaim := { program := "ytmcodendnpjlaaadoor", sum := "d7a5a687cc607f27e28828ea2ec26785810a5ea115659d6dfe790d1cd5f50582", func := "chargepark/chargeparklaw37.MatchMatchesReference", spec := "matchMatchesReference", unfollowed := true, recurses := true, named := ["chargepark/plate.confusable"], plainKeys := false, apart := false, laid := [("chargepark/plate.confusable", laid_chargepark_plate_confusable)] }
def MatchMatchesReferenceSaid : Prop := matchMatchesReferenceRow.holds Tryd.pinned (OpenSpec.ofChange matchMatchesReferenceSpec)

/-- ITS FALSE NEIGHBOUR: 'it returns false'. Refute it at one input. -/
def matchMatchesReferenceWrong : ChangeSpec := { name := "matchMatchesReference", fn := fun _ => fun
  | [d1, d2, d3] => { results := [.lit (.bool false)], args := [d1, d2, d3] }
  | _ => none }
def MatchMatchesReferenceWrongFalsely : Prop := matchMatchesReferenceRow.holds Tryd.pinned (OpenSpec.ofChange matchMatchesReferenceWrong)

/-- 'chargeparklaw37.MatchLeast': WHATEVER THE INPUT: true; the input reads as it did. -/
def matchLeastSpec : ChangeSpec := { name := "matchLeast", fn := fun _ => fun
  | [d1, d2, d3] => { results := [.lit (.bool true)], args := [d1, d2, d3] }
  | _ => none }
def matchLeastRow : OpenClaim := { program := "ytmcodendnpjlaaadoor", sum := "d7a5a687cc607f27e28828ea2ec26785810a5ea115659d6dfe790d1cd5f50582", func := "chargepark/chargeparklaw37.MatchLeast", spec := "matchLeast", unfollowed := true, recurses := true, named := ["chargepark/plate.confusable"], plainKeys := false, apart := false, laid := [("chargepark/plate.confusable", laid_chargepark_plate_confusable)] }
def MatchLeastSaid : Prop := matchLeastRow.holds Tryd.pinned (OpenSpec.ofChange matchLeastSpec)

/-- ITS FALSE NEIGHBOUR: 'it returns false'. Refute it at one input. -/
def matchLeastWrong : ChangeSpec := { name := "matchLeast", fn := fun _ => fun
  | [d1, d2, d3] => { results := [.lit (.bool false)], args := [d1, d2, d3] }
  | _ => none }
def MatchLeastWrongFalsely : Prop := matchLeastRow.holds Tryd.pinned (OpenSpec.ofChange matchLeastWrong)

/-- 'chargeparklaw37.MatchRight': WHATEVER THE INPUT: true; the input reads as it did. -/
def matchRightSpec : ChangeSpec := { name := "matchRight", fn := fun _ => fun
  | [d1, d2] => { results := [.lit (.bool true)], args := [d1, d2] }
  | _ => none }
def matchRightRow : OpenClaim := { program := "ytmcodendnpjlaaadoor", sum := "d7a5a687cc607f27e28828ea2ec26785810a5ea115659d6dfe790d1cd5f50582", func := "chargepark/chargeparklaw37.MatchRight", spec := "matchRight", unfollowed := true, recurses := true, named := ["chargepark/plate.confusable"], plainKeys := false, apart := false, laid := [("chargepark/plate.confusable", laid_chargepark_plate_confusable)] }
def MatchRightSaid : Prop := matchRightRow.holds Tryd.pinned (OpenSpec.ofChange matchRightSpec)

/-- ITS FALSE NEIGHBOUR: 'it returns false'. Refute it at one input. -/
def matchRightWrong : ChangeSpec := { name := "matchRight", fn := fun _ => fun
  | [d1, d2] => { results := [.lit (.bool false)], args := [d1, d2] }
  | _ => none }
def MatchRightWrongFalsely : Prop := matchRightRow.holds Tryd.pinned (OpenSpec.ofChange matchRightWrong)

/-- 'chargeparklaw37.MatchMisread': WHATEVER THE INPUT: true; the input reads as it did. -/
def matchMisreadSpec : ChangeSpec := { name := "matchMisread", fn := fun _ => fun
  | [d1, d2, d3, d4] => { results := [.lit (.bool true)], args := [d1, d2, d3, d4] }
  | _ => none }
def matchMisreadRow : OpenClaim := { program := "ytmcodendnpjlaaadoor", sum := "d7a5a687cc607f27e28828ea2ec26785810a5ea115659d6dfe790d1cd5f50582", func := "chargepark/chargeparklaw37.MatchMisread", spec := "matchMisread", unfollowed := true, recurses := true, named := ["chargepark/plate.confusable"], plainKeys := false, apart := false, laid := [("chargepark/plate.confusable", laid_chargepark_plate_confusable)] }
def MatchMisreadSaid : Prop := matchMisreadRow.holds Tryd.pinned (OpenSpec.ofChange matchMisreadSpec)

/-- ITS FALSE NEIGHBOUR: 'it returns false'. Refute it at one input. -/
def matchMisreadWrong : ChangeSpec := { name := "matchMisread", fn := fun _ => fun
  | [d1, d2, d3, d4] => { results := [.lit (.bool false)], args := [d1, d2, d3, d4] }
  | _ => none }
def MatchMisreadWrongFalsely : Prop := matchMisreadRow.holds Tryd.pinned (OpenSpec.ofChange matchMisreadWrong)

/-- 'chargeparklaw37.MatchOneMore': WHATEVER THE INPUT: true; the input reads as it did. -/
def matchOneMoreSpec : ChangeSpec := { name := "matchOneMore", fn := fun _ => fun
  | [d1, d2] => { results := [.lit (.bool true)], args := [d1, d2] }
  | _ => none }
def matchOneMoreRow : OpenClaim := { program := "ytmcodendnpjlaaadoor", sum := "d7a5a687cc607f27e28828ea2ec26785810a5ea115659d6dfe790d1cd5f50582", func := "chargepark/chargeparklaw37.MatchOneMore", spec := "matchOneMore", unfollowed := true, recurses := true, named := ["chargepark/plate.confusable"], plainKeys := false, apart := false, laid := [("chargepark/plate.confusable", laid_chargepark_plate_confusable)] }
def MatchOneMoreSaid : Prop := matchOneMoreRow.holds Tryd.pinned (OpenSpec.ofChange matchOneMoreSpec)

/-- ITS FALSE NEIGHBOUR: 'it returns false'. Refute it at one input. -/
def matchOneMoreWrong : ChangeSpec := { name := "matchOneMore", fn := fun _ => fun
  | [d1, d2] => { results := [.lit (.bool false)], args := [d1, d2] }
  | _ => none }
def MatchOneMoreWrongFalsely : Prop := matchOneMoreRow.holds Tryd.pinned (OpenSpec.ofChange matchOneMoreWrong)

/-- 'chargeparklaw37.MatchTurned': WHATEVER THE INPUT: true; the input reads as it did. -/
def matchTurnedSpec : ChangeSpec := { name := "matchTurned", fn := fun _ => fun
  | [d1, d2] => { results := [.lit (.bool true)], args := [d1, d2] }
  | _ => none }
def matchTurnedRow : OpenClaim := { program := "ytmcodendnpjlaaadoor", sum := "d7a5a687cc607f27e28828ea2ec26785810a5ea115659d6dfe790d1cd5f50582", func := "chargepark/chargeparklaw37.MatchTurned", spec := "matchTurned", unfollowed := true, recurses := true, named := ["chargepark/plate.confusable"], plainKeys := false, apart := false, laid := [("chargepark/plate.confusable", laid_chargepark_plate_confusable)] }
def MatchTurnedSaid : Prop := matchTurnedRow.holds Tryd.pinned (OpenSpec.ofChange matchTurnedSpec)

/-- ITS FALSE NEIGHBOUR: 'it returns false'. Refute it at one input. -/
def matchTurnedWrong : ChangeSpec := { name := "matchTurned", fn := fun _ => fun
  | [d1, d2] => { results := [.lit (.bool false)], args := [d1, d2] }
  | _ => none }
def MatchTurnedWrongFalsely : Prop := matchTurnedRow.holds Tryd.pinned (OpenSpec.ofChange matchTurnedWrong)

/-- 'chargeparklaw37.MatchBounds': WHATEVER THE INPUT: true; the input reads as it did. -/
def matchBoundsSpec : ChangeSpec := { name := "matchBounds", fn := fun _ => fun
  | [d1, d2] => { results := [.lit (.bool true)], args := [d1, d2] }
  | _ => none }
def matchBoundsRow : OpenClaim := { program := "ytmcodendnpjlaaadoor", sum := "d7a5a687cc607f27e28828ea2ec26785810a5ea115659d6dfe790d1cd5f50582", func := "chargepark/chargeparklaw37.MatchBounds", spec := "matchBounds", unfollowed := true, recurses := true, named := ["chargepark/plate.confusable"], plainKeys := false, apart := false, laid := [("chargepark/plate.confusable", laid_chargepark_plate_confusable)] }
def MatchBoundsSaid : Prop := matchBoundsRow.holds Tryd.pinned (OpenSpec.ofChange matchBoundsSpec)

/-- ITS FALSE NEIGHBOUR: 'it returns false'. Refute it at one input. -/
def matchBoundsWrong : ChangeSpec := { name := "matchBounds", fn := fun _ => fun
  | [d1, d2] => { results := [.lit (.bool false)], args := [d1, d2] }
  | _ => none }
def MatchBoundsWrongFalsely : Prop := matchBoundsRow.holds Tryd.pinned (OpenSpec.ofChange matchBoundsWrong)

/-- 'chargeparklaw37.MatchFar': WHATEVER THE INPUT: true; the input reads as it did. -/
def matchFarSpec : ChangeSpec := { name := "matchFar", fn := fun _ => fun
  | [d1, d2] => { results := [.lit (.bool true)], args := [d1, d2] }
  | _ => none }
def matchFarRow : OpenClaim := { program := "ytmcodendnpjlaaadoor", sum := "d7a5a687cc607f27e28828ea2ec26785810a5ea115659d6dfe790d1cd5f50582", func := "chargepark/chargeparklaw37.MatchFar", spec := "matchFar", unfollowed := true, recurses := true, named := ["chargepark/plate.confusable"], plainKeys := false, apart := false, laid := [("chargepark/plate.confusable", laid_chargepark_plate_confusable)] }
def MatchFarSaid : Prop := matchFarRow.holds Tryd.pinned (OpenSpec.ofChange matchFarSpec)

/-- ITS FALSE NEIGHBOUR: 'it returns false'. Refute it at one input. -/
def matchFarWrong : ChangeSpec := { name := "matchFar", fn := fun _ => fun
  | [d1, d2] => { results := [.lit (.bool false)], args := [d1, d2] }
  | _ => none }
def MatchFarWrongFalsely : Prop := matchFarRow.holds Tryd.pinned (OpenSpec.ofChange matchFarWrong)

/- THE SECOND FORM. 'bulk': how many values and letters a reading holds, each counted each time it is reached (what is shared counts as often as it is met; a slice's spare places count too). A statement '..UptoSaid' is the law's where the arguments, and the package variables that the reading takes, are together of bulk at most 1048576: NARROWER than '..Said'. Prove '..Said' where nothing that the law and all that it calls make is longer than what came in: it says more and counts as full. Else prove '..UptoSaid'. A law counts once. -/
mutual
def uptoBulk {H : Type} : DataW H → Nat
  | .lit (.string bytes) => bytes.length + 1
  | .lit _ => 1
  | .nil => 1
  | .ptr d => uptoBulk d + 1
  | .slice elems spare => uptoBulkAll elems + uptoBulkAll spare + 1
  | .agg parts => uptoBulkAll parts + 1
  | .iface _ d => uptoBulk d + 1
  | .map entries => uptoBulkEntries entries + 1
  | .held _ => 1
def uptoBulkAll {H : Type} : List (DataW H) → Nat
  | [] => 0
  | d :: r => uptoBulk d + uptoBulkAll r
def uptoBulkEntries {H : Type} : List (Lit × DataW H) → Nat
  | [] => 0
  | x :: r => uptoBulkEntry x + uptoBulkEntries r
def uptoBulkEntry {H : Type} : Lit × DataW H → Nat
  | (.string bytes, d) => bytes.length + uptoBulk d + 1
  | (_, d) => uptoBulk d + 1
 end
def uptoSmall : (H : Type) → List (DataW H) → Bool := fun _ ds => decide (uptoBulkAll ds ≤ 1048576)
def OpenSpec.upto (s : _root_.Go.ChangeSpec) : _root_.Go.OpenSpec := { _root_.Go.OpenSpec.ofChange s with cond := some uptoSmall }

/-- 'chargeparklaw37.MatchMatchesReference', WHERE WHAT IT READS IS OF BULK AT MOST 1048576: true; the input reads as it did. -/
def matchMatchesReferenceUptoRow : OpenClaim := { program := "ytmcodendnpjlaaadoor", sum := "d7a5a687cc607f27e28828ea2ec26785810a5ea115659d6dfe790d1cd5f50582", func := "chargepark/chargeparklaw37.MatchMatchesReference", spec := "matchMatchesReference", unfollowed := true, recurses := true, named := ["chargepark/plate.confusable"], plainKeys := false, apart := false, laid := [("chargepark/plate.confusable", laid_chargepark_plate_confusable)], narrowed := true }
def MatchMatchesReferenceUptoSaid : Prop := matchMatchesReferenceUptoRow.holds Tryd.pinned (OpenSpec.upto matchMatchesReferenceSpec)

/-- 'chargeparklaw37.MatchLeast', WHERE WHAT IT READS IS OF BULK AT MOST 1048576: true; the input reads as it did. -/
def matchLeastUptoRow : OpenClaim := { program := "ytmcodendnpjlaaadoor", sum := "d7a5a687cc607f27e28828ea2ec26785810a5ea115659d6dfe790d1cd5f50582", func := "chargepark/chargeparklaw37.MatchLeast", spec := "matchLeast", unfollowed := true, recurses := true, named := ["chargepark/plate.confusable"], plainKeys := false, apart := false, laid := [("chargepark/plate.confusable", laid_chargepark_plate_confusable)], narrowed := true }
def MatchLeastUptoSaid : Prop := matchLeastUptoRow.holds Tryd.pinned (OpenSpec.upto matchLeastSpec)

/-- 'chargeparklaw37.MatchRight', WHERE WHAT IT READS IS OF BULK AT MOST 1048576: true; the input reads as it did. -/
def matchRightUptoRow : OpenClaim := { program := "ytmcodendnpjlaaadoor", sum := "d7a5a687cc607f27e28828ea2ec26785810a5ea115659d6dfe790d1cd5f50582", func := "chargepark/chargeparklaw37.MatchRight", spec := "matchRight", unfollowed := true, recurses := true, named := ["chargepark/plate.confusable"], plainKeys := false, apart := false, laid := [("chargepark/plate.confusable", laid_chargepark_plate_confusable)], narrowed := true }
def MatchRightUptoSaid : Prop := matchRightUptoRow.holds Tryd.pinned (OpenSpec.upto matchRightSpec)

/-- 'chargeparklaw37.MatchMisread', WHERE WHAT IT READS IS OF BULK AT MOST 1048576: true; the input reads as it did. -/
def matchMisreadUptoRow : OpenClaim := { program := "ytmcodendnpjlaaadoor", sum := "d7a5a687cc607f27e28828ea2ec26785810a5ea115659d6dfe790d1cd5f50582", func := "chargepark/chargeparklaw37.MatchMisread", spec := "matchMisread", unfollowed := true, recurses := true, named := ["chargepark/plate.confusable"], plainKeys := false, apart := false, laid := [("chargepark/plate.confusable", laid_chargepark_plate_confusable)], narrowed := true }
def MatchMisreadUptoSaid : Prop := matchMisreadUptoRow.holds Tryd.pinned (OpenSpec.upto matchMisreadSpec)

/-- 'chargeparklaw37.MatchOneMore', WHERE WHAT IT READS IS OF BULK AT MOST 1048576: true; the input reads as it did. -/
def matchOneMoreUptoRow : OpenClaim := { program := "ytmcodendnpjlaaadoor", sum := "d7a5a687cc607f27e28828ea2ec26785810a5ea115659d6dfe790d1cd5f50582", func := "chargepark/chargeparklaw37.MatchOneMore", spec := "matchOneMore", unfollowed := true, recurses := true, named := ["chargepark/plate.confusable"], plainKeys := false, apart := false, laid := [("chargepark/plate.confusable", laid_chargepark_plate_confusable)], narrowed := true }
def MatchOneMoreUptoSaid : Prop := matchOneMoreUptoRow.holds Tryd.pinned (OpenSpec.upto matchOneMoreSpec)

/-- 'chargeparklaw37.MatchTurned', WHERE WHAT IT READS IS OF BULK AT MOST 1048576: true; the input reads as it did. -/
def matchTurnedUptoRow : OpenClaim := { program := "ytmcodendnpjlaaadoor", sum := "d7a5a687cc607f27e28828ea2ec26785810a5ea115659d6dfe790d1cd5f50582", func := "chargepark/chargeparklaw37.MatchTurned", spec := "matchTurned", unfollowed := true, recurses := true, named := ["chargepark/plate.confusable"], plainKeys := false, apart := false, laid := [("chargepark/plate.confusable", laid_chargepark_plate_confusable)], narrowed := true }
def MatchTurnedUptoSaid : Prop := matchTurnedUptoRow.holds Tryd.pinned (OpenSpec.upto matchTurnedSpec)

/-- 'chargeparklaw37.MatchBounds', WHERE WHAT IT READS IS OF BULK AT MOST 1048576: true; the input reads as it did. -/
def matchBoundsUptoRow : OpenClaim := { program := "ytmcodendnpjlaaadoor", sum := "d7a5a687cc607f27e28828ea2ec26785810a5ea115659d6dfe790d1cd5f50582", func := "chargepark/chargeparklaw37.MatchBounds", spec := "matchBounds", unfollowed := true, recurses := true, named := ["chargepark/plate.confusable"], plainKeys := false, apart := false, laid := [("chargepark/plate.confusable", laid_chargepark_plate_confusable)], narrowed := true }
def MatchBoundsUptoSaid : Prop := matchBoundsUptoRow.holds Tryd.pinned (OpenSpec.upto matchBoundsSpec)

/-- 'chargeparklaw37.MatchFar', WHERE WHAT IT READS IS OF BULK AT MOST 1048576: true; the input reads as it did. -/
def matchFarUptoRow : OpenClaim := { program := "ytmcodendnpjlaaadoor", sum := "d7a5a687cc607f27e28828ea2ec26785810a5ea115659d6dfe790d1cd5f50582", func := "chargepark/chargeparklaw37.MatchFar", spec := "matchFar", unfollowed := true, recurses := true, named := ["chargepark/plate.confusable"], plainKeys := false, apart := false, laid := [("chargepark/plate.confusable", laid_chargepark_plate_confusable)], narrowed := true }
def MatchFarUptoSaid : Prop := matchFarUptoRow.holds Tryd.pinned (OpenSpec.upto matchFarSpec)

end Rows
end Go.Proofs.YtmcodendnpjlaaaDoor
