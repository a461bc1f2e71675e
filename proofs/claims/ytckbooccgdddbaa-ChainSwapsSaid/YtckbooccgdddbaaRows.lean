/-
  No cell of these rows narrows 'for every input' (looked for: loops, veiled, ifaces, maps, wideKeys, modest, calm, conditions, laid).
  DERIVED. THE GIVEN ROWS OF THIS SEAT. 8 by the template 'for every input the law returns true; each argument reads behind the call as it read before'; 0 by the template 'total and deterministic' (their statements: YtckbooccgdddbaaTotals.lean).
  GIVEN WITH THE SEED: the statements are not yours to turn. If you find one false, say at which input.
  Laid BY PROGRAM, IN A SANDBOX (cutbox-rows.mjs): the forced cells as the released guide's own fill.sh prints them over the translation dfc2f6b6b3bbecb4… (all of the seat's roots in one cut). By AI agents, Wed Nov 11 2026. No macro, syntax, notation, axiom, sorry.
-/
import Derived.Test.YtckbooccgdddbaaChecked
import GoSem.Claim
import GoSem.ClaimJoined
import GoSem.ClaimMapViews
import Derived.JoinedTies
import Derived.KernelRfl
namespace Go.Proofs.Ytckbooccgdddbaa
/- THE CELL 'sum', in the pinned program and in every row, IS THE sha256 OF THE DUMP (.gsa) THAT YtckbooccgdddbaaProg.lean LOADS. Nothing in Lean hashes anything: it is a label: what it is worth is what the hold of that sum in a sandbox is worth. -/
noncomputable def Try.pinned : Pinned := { name := "ytckbooccgdddbaa", sum := "dfc2f6b6b3bbecb4511996c8845af78b9692fd7160001cac9d7b6326d3538b80", checked := Try.checked }
namespace Rows
def none {H : Type} : Left H := { results := [], args := [] }

/-- 'chargeparklaw40.ChainMatchesReference': WHATEVER THE INPUT: true; the input reads as it did. -/
def chainMatchesReferenceSpec : ChangeSpec := { name := "chainMatchesReference", fn := fun _ => fun
  | [d1, d2, d3, d4, d5, d6, d7, d8] => { results := [.lit (.bool true)], args := [d1, d2, d3, d4, d5, d6, d7, d8] }
  | _ => none }
def chainMatchesReferenceRow : OpenClaim := { program := "ytckbooccgdddbaa", sum := "dfc2f6b6b3bbecb4511996c8845af78b9692fd7160001cac9d7b6326d3538b80", func := "chargepark/chargeparklaw40.ChainMatchesReference", spec := "chainMatchesReference", unfollowed := true, recurses := true, apart := false }
def ChainMatchesReferenceSaid : Prop := chainMatchesReferenceRow.holds Try.pinned (OpenSpec.ofChange chainMatchesReferenceSpec)

/-- ITS FALSE NEIGHBOUR: 'it returns false'. Refute it at one input. -/
def chainMatchesReferenceWrong : ChangeSpec := { name := "chainMatchesReference", fn := fun _ => fun
  | [d1, d2, d3, d4, d5, d6, d7, d8] => { results := [.lit (.bool false)], args := [d1, d2, d3, d4, d5, d6, d7, d8] }
  | _ => none }
def ChainMatchesReferenceWrongFalsely : Prop := chainMatchesReferenceRow.holds Try.pinned (OpenSpec.ofChange chainMatchesReferenceWrong)

/-- 'chargeparklaw40.ChainAppends': WHATEVER THE INPUT: true; the input reads as it did. -/
def chainAppendsSpec : ChangeSpec := { name := "chainAppends", fn := fun _ => fun
  | [d1, d2, d3, d4, d5] => { results := [.lit (.bool true)], args := [d1, d2, d3, d4, d5] }
  | _ => none }
def chainAppendsRow : OpenClaim := { program := "ytckbooccgdddbaa", sum := "dfc2f6b6b3bbecb4511996c8845af78b9692fd7160001cac9d7b6326d3538b80", func := "chargepark/chargeparklaw40.ChainAppends", spec := "chainAppends", unfollowed := true, recurses := true, apart := false }
def ChainAppendsSaid : Prop := chainAppendsRow.holds Try.pinned (OpenSpec.ofChange chainAppendsSpec)

/-- ITS FALSE NEIGHBOUR: 'it returns false'. Refute it at one input. -/
def chainAppendsWrong : ChangeSpec := { name := "chainAppends", fn := fun _ => fun
  | [d1, d2, d3, d4, d5] => { results := [.lit (.bool false)], args := [d1, d2, d3, d4, d5] }
  | _ => none }
def ChainAppendsWrongFalsely : Prop := chainAppendsRow.holds Try.pinned (OpenSpec.ofChange chainAppendsWrong)

/-- 'chargeparklaw40.ChainOneItem': WHATEVER THE INPUT: true; the input reads as it did. -/
def chainOneItemSpec : ChangeSpec := { name := "chainOneItem", fn := fun _ => fun
  | [d1, d2, d3, d4, d5, d6] => { results := [.lit (.bool true)], args := [d1, d2, d3, d4, d5, d6] }
  | _ => none }
def chainOneItemRow : OpenClaim := { program := "ytckbooccgdddbaa", sum := "dfc2f6b6b3bbecb4511996c8845af78b9692fd7160001cac9d7b6326d3538b80", func := "chargepark/chargeparklaw40.ChainOneItem", spec := "chainOneItem", unfollowed := true, recurses := true, apart := false }
def ChainOneItemSaid : Prop := chainOneItemRow.holds Try.pinned (OpenSpec.ofChange chainOneItemSpec)

/-- ITS FALSE NEIGHBOUR: 'it returns false'. Refute it at one input. -/
def chainOneItemWrong : ChangeSpec := { name := "chainOneItem", fn := fun _ => fun
  | [d1, d2, d3, d4, d5, d6] => { results := [.lit (.bool false)], args := [d1, d2, d3, d4, d5, d6] }
  | _ => none }
def ChainOneItemWrongFalsely : Prop := chainOneItemRow.holds Try.pinned (OpenSpec.ofChange chainOneItemWrong)

/-- 'chargeparklaw40.ChainSeed': WHATEVER THE INPUT: true; the input reads as it did. -/
def chainSeedSpec : ChangeSpec := { name := "chainSeed", fn := fun _ => fun
  | [d1, d2, d3] => { results := [.lit (.bool true)], args := [d1, d2, d3] }
  | _ => none }
def chainSeedRow : OpenClaim := { program := "ytckbooccgdddbaa", sum := "dfc2f6b6b3bbecb4511996c8845af78b9692fd7160001cac9d7b6326d3538b80", func := "chargepark/chargeparklaw40.ChainSeed", spec := "chainSeed", unfollowed := true, recurses := true, apart := false }
def ChainSeedSaid : Prop := chainSeedRow.holds Try.pinned (OpenSpec.ofChange chainSeedSpec)

/-- ITS FALSE NEIGHBOUR: 'it returns false'. Refute it at one input. -/
def chainSeedWrong : ChangeSpec := { name := "chainSeed", fn := fun _ => fun
  | [d1, d2, d3] => { results := [.lit (.bool false)], args := [d1, d2, d3] }
  | _ => none }
def ChainSeedWrongFalsely : Prop := chainSeedRow.holds Try.pinned (OpenSpec.ofChange chainSeedWrong)

/-- 'chargeparklaw40.ChainParts': WHATEVER THE INPUT: true; the input reads as it did. -/
def chainPartsSpec : ChangeSpec := { name := "chainParts", fn := fun _ => fun
  | [d1, d2, d3, d4] => { results := [.lit (.bool true)], args := [d1, d2, d3, d4] }
  | _ => none }
def chainPartsRow : OpenClaim := { program := "ytckbooccgdddbaa", sum := "dfc2f6b6b3bbecb4511996c8845af78b9692fd7160001cac9d7b6326d3538b80", func := "chargepark/chargeparklaw40.ChainParts", spec := "chainParts", unfollowed := true, recurses := true, apart := false }
def ChainPartsSaid : Prop := chainPartsRow.holds Try.pinned (OpenSpec.ofChange chainPartsSpec)

/-- ITS FALSE NEIGHBOUR: 'it returns false'. Refute it at one input. -/
def chainPartsWrong : ChangeSpec := { name := "chainParts", fn := fun _ => fun
  | [d1, d2, d3, d4] => { results := [.lit (.bool false)], args := [d1, d2, d3, d4] }
  | _ => none }
def ChainPartsWrongFalsely : Prop := chainPartsRow.holds Try.pinned (OpenSpec.ofChange chainPartsWrong)

/-- 'chargeparklaw40.ChainBeginnings': WHATEVER THE INPUT: true; the input reads as it did. -/
def chainBeginningsSpec : ChangeSpec := { name := "chainBeginnings", fn := fun _ => fun
  | [d1, d2, d3] => { results := [.lit (.bool true)], args := [d1, d2, d3] }
  | _ => none }
def chainBeginningsRow : OpenClaim := { program := "ytckbooccgdddbaa", sum := "dfc2f6b6b3bbecb4511996c8845af78b9692fd7160001cac9d7b6326d3538b80", func := "chargepark/chargeparklaw40.ChainBeginnings", spec := "chainBeginnings", unfollowed := true, recurses := true, apart := false }
def ChainBeginningsSaid : Prop := chainBeginningsRow.holds Try.pinned (OpenSpec.ofChange chainBeginningsSpec)

/-- ITS FALSE NEIGHBOUR: 'it returns false'. Refute it at one input. -/
def chainBeginningsWrong : ChangeSpec := { name := "chainBeginnings", fn := fun _ => fun
  | [d1, d2, d3] => { results := [.lit (.bool false)], args := [d1, d2, d3] }
  | _ => none }
def ChainBeginningsWrongFalsely : Prop := chainBeginningsRow.holds Try.pinned (OpenSpec.ofChange chainBeginningsWrong)

/-- 'chargeparklaw40.ChainLinks': WHATEVER THE INPUT: true; the input reads as it did. -/
def chainLinksSpec : ChangeSpec := { name := "chainLinks", fn := fun _ => fun
  | [d1, d2, d3, d4, d5, d6] => { results := [.lit (.bool true)], args := [d1, d2, d3, d4, d5, d6] }
  | _ => none }
def chainLinksRow : OpenClaim := { program := "ytckbooccgdddbaa", sum := "dfc2f6b6b3bbecb4511996c8845af78b9692fd7160001cac9d7b6326d3538b80", func := "chargepark/chargeparklaw40.ChainLinks", spec := "chainLinks", unfollowed := true, recurses := true, apart := false }
def ChainLinksSaid : Prop := chainLinksRow.holds Try.pinned (OpenSpec.ofChange chainLinksSpec)

/-- ITS FALSE NEIGHBOUR: 'it returns false'. Refute it at one input. -/
def chainLinksWrong : ChangeSpec := { name := "chainLinks", fn := fun _ => fun
  | [d1, d2, d3, d4, d5, d6] => { results := [.lit (.bool false)], args := [d1, d2, d3, d4, d5, d6] }
  | _ => none }
def ChainLinksWrongFalsely : Prop := chainLinksRow.holds Try.pinned (OpenSpec.ofChange chainLinksWrong)

/-- 'chargeparklaw40.ChainSwaps': WHATEVER THE INPUT: true; the input reads as it did. -/
def chainSwapsSpec : ChangeSpec := { name := "chainSwaps", fn := fun _ => fun
  | [d1, d2, d3, d4, d5] => { results := [.lit (.bool true)], args := [d1, d2, d3, d4, d5] }
  | _ => none }
def chainSwapsRow : OpenClaim := { program := "ytckbooccgdddbaa", sum := "dfc2f6b6b3bbecb4511996c8845af78b9692fd7160001cac9d7b6326d3538b80", func := "chargepark/chargeparklaw40.ChainSwaps", spec := "chainSwaps", unfollowed := true, recurses := true, apart := false }
def ChainSwapsSaid : Prop := chainSwapsRow.holds Try.pinned (OpenSpec.ofChange chainSwapsSpec)

/-- ITS FALSE NEIGHBOUR: 'it returns false'. Refute it at one input. -/
def chainSwapsWrong : ChangeSpec := { name := "chainSwaps", fn := fun _ => fun
  | [d1, d2, d3, d4, d5] => { results := [.lit (.bool false)], args := [d1, d2, d3, d4, d5] }
  | _ => none }
def ChainSwapsWrongFalsely : Prop := chainSwapsRow.holds Try.pinned (OpenSpec.ofChange chainSwapsWrong)

/- THE SECOND FORM. 'bulk': how many values and letters a reading holds, each counted each time it is reached (what is shared counts as often as it is met; a slice's spare places count too). A statement '..UptoSaid' is the law's where the arguments, and the package variables that the reading takes, are together of bulk at most 1048576: NARROWER than '..Said'. Prove '..Said' where nothing that the law and all that it calls make is longer than what came in: it says more and counts as full. Else prove '..UptoSaid'. A law counts once. -/
mutual
def uptoBulk {H : Type} : DataW H → Nat
  | .lit (.string bytes) => bytes.length + 1
  | .lit _ => 1
  | .nil => 1
  | .ptr d => uptoBulk d + 1
  | .slice elems spare => uptoBulkAll elems + uptoBulkAll spare + 1
  | .agg parts => uptoBulkAll parts + 1
  | .iface _ d => uptoBulk d + 1
  | .map entries => uptoBulkEntries entries + 1
  | .held _ => 1
def uptoBulkAll {H : Type} : List (DataW H) → Nat
  | [] => 0
  | d :: r => uptoBulk d + uptoBulkAll r
def uptoBulkEntries {H : Type} : List (Lit × DataW H) → Nat
  | [] => 0
  | x :: r => uptoBulkEntry x + uptoBulkEntries r
def uptoBulkEntry {H : Type} : Lit × DataW H → Nat
  | (.string bytes, d) => bytes.length + uptoBulk d + 1
  | (_, d) => uptoBulk d + 1
 end
def uptoSmall : (H : Type) → List (DataW H) → Bool := fun _ ds => decide (uptoBulkAll ds ≤ 1048576)
def OpenSpec.upto (s : _root_.Go.ChangeSpec) : _root_.Go.OpenSpec := { _root_.Go.OpenSpec.ofChange s with cond := some uptoSmall }

/-- 'chargeparklaw40.ChainMatchesReference', WHERE WHAT IT READS IS OF BULK AT MOST 1048576: true; the input reads as it did. -/
def chainMatchesReferenceUptoRow : OpenClaim := { program := "ytckbooccgdddbaa", sum := "dfc2f6b6b3bbecb4511996c8845af78b9692fd7160001cac9d7b6326d3538b80", func := "chargepark/chargeparklaw40.ChainMatchesReference", spec := "chainMatchesReference", unfollowed := true, recurses := true, apart := false, narrowed := true }
def ChainMatchesReferenceUptoSaid : Prop := chainMatchesReferenceUptoRow.holds Try.pinned (OpenSpec.upto chainMatchesReferenceSpec)

/-- 'chargeparklaw40.ChainAppends', WHERE WHAT IT READS IS OF BULK AT MOST 1048576: true; the input reads as it did. -/
def chainAppendsUptoRow : OpenClaim := { program := "ytckbooccgdddbaa", sum := "dfc2f6b6b3bbecb4511996c8845af78b9692fd7160001cac9d7b6326d3538b80", func := "chargepark/chargeparklaw40.ChainAppends", spec := "chainAppends", unfollowed := true, recurses := true, apart := false, narrowed := true }
def ChainAppendsUptoSaid : Prop := chainAppendsUptoRow.holds Try.pinned (OpenSpec.upto chainAppendsSpec)

/-- 'chargeparklaw40.ChainOneItem', WHERE WHAT IT READS IS OF BULK AT MOST 1048576: true; the input reads as it did. -/
def chainOneItemUptoRow : OpenClaim := { program := "ytckbooccgdddbaa", sum := "dfc2f6b6b3bbecb4511996c8845af78b9692fd7160001cac9d7b6326d3538b80", func := "chargepark/chargeparklaw40.ChainOneItem", spec := "chainOneItem", unfollowed := true, recurses := true, apart := false, narrowed := true }
def ChainOneItemUptoSaid : Prop := chainOneItemUptoRow.holds Try.pinned (OpenSpec.upto chainOneItemSpec)

/-- 'chargeparklaw40.ChainSeed', WHERE WHAT IT READS IS OF BULK AT MOST 1048576: true; the input reads as it did. -/
def chainSeedUptoRow : OpenClaim := { program := "ytckbooccgdddbaa", sum := "dfc2f6b6b3bbecb4511996c8845af78b9692fd7160001cac9d7b6326d3538b80", func := "chargepark/chargeparklaw40.ChainSeed", spec := "chainSeed", unfollowed := true, recurses := true, apart := false, narrowed := true }
def ChainSeedUptoSaid : Prop := chainSeedUptoRow.holds Try.pinned (OpenSpec.upto chainSeedSpec)

/-- 'chargeparklaw40.ChainParts', WHERE WHAT IT READS IS OF BULK AT MOST 1048576: true; the input reads as it did. -/
def chainPartsUptoRow : OpenClaim := { program := "ytckbooccgdddbaa", sum := "dfc2f6b6b3bbecb4511996c8845af78b9692fd7160001cac9d7b6326d3538b80", func := "chargepark/chargeparklaw40.ChainParts", spec := "chainParts", unfollowed := true, recurses := true, apart := false, narrowed := true }
def ChainPartsUptoSaid : Prop := chainPartsUptoRow.holds Try.pinned (OpenSpec.upto chainPartsSpec)

/-- 'chargeparklaw40.ChainBeginnings', WHERE WHAT IT READS IS OF BULK AT MOST 1048576: true; the input reads as it did. -/
def chainBeginningsUptoRow : OpenClaim := { program := "ytckbooccgdddbaa", sum := "dfc2f6b6b3bbecb4511996c8845af78b9692fd7160001cac9d7b6326d3538b80", func := "chargepark/chargeparklaw40.ChainBeginnings", spec := "chainBeginnings", unfollowed := true, recurses := true, apart := false, narrowed := true }
def ChainBeginningsUptoSaid : Prop := chainBeginningsUptoRow.holds Try.pinned (OpenSpec.upto chainBeginningsSpec)

/-- 'chargeparklaw40.ChainLinks', WHERE WHAT IT READS IS OF BULK AT MOST 1048576: true; the input reads as it did. -/
def chainLinksUptoRow : OpenClaim := { program := "ytckbooccgdddbaa", sum := "dfc2f6b6b3bbecb4511996c8845af78b9692fd7160001cac9d7b6326d3538b80", func := "chargepark/chargeparklaw40.ChainLinks", spec := "chainLinks", unfollowed := true, recurses := true, apart := false, narrowed := true }
def ChainLinksUptoSaid : Prop := chainLinksUptoRow.holds Try.pinned (OpenSpec.upto chainLinksSpec)

/-- 'chargeparklaw40.ChainSwaps', WHERE WHAT IT READS IS OF BULK AT MOST 1048576: true; the input reads as it did. -/
def chainSwapsUptoRow : OpenClaim := { program := "ytckbooccgdddbaa", sum := "dfc2f6b6b3bbecb4511996c8845af78b9692fd7160001cac9d7b6326d3538b80", func := "chargepark/chargeparklaw40.ChainSwaps", spec := "chainSwaps", unfollowed := true, recurses := true, apart := false, narrowed := true }
def ChainSwapsUptoSaid : Prop := chainSwapsUptoRow.holds Try.pinned (OpenSpec.upto chainSwapsSpec)

end Rows
end Go.Proofs.Ytckbooccgdddbaa
