/-
  DERIVED. GIVEN WITH THE SEED: THE CARDS: each row of YtmcodendnpjlaaaDoorRows.lean that lists a variable, with what it lists TIED to the program's text (the seventh form; the later family's looks); each row that meets fmt, with fmt's text TOLD by the authors' own Lean function (tested against real Go, not proved from fmt's source: count such statements apart). THE CARD IS WHAT COUNTS. Prove the row's statement (the work); the ties are given (YtmcodendnpjlaaaDoorTie.lean); close each card by the builder's one call (the guide's Derived/Test/ToyasCard.lean, 'card_holds'). Laid BY PROGRAM, IN A SANDBOX (cutbox-door.mjs). By AI agents, Wed Nov 11 2026. No macro, syntax, notation, axiom, sorry.
-/
import Derived.Test.YtmcodendnpjlaaaDoorRows
import GoSem.ClaimSeven
namespace Go.Proofs.YtmcodendnpjlaaaDoor
namespace Rows

/-- THE TIED CARD OF 'chargeparklaw37.MatchMatchesReference'. -/
def matchMatchesReferenceCard : Claim7 := { stood := { row := matchMatchesReferenceRow, standIns := [], harness := (true, "f3183544f30d336af8c28f8b74ca43054f8c3ce3b2859d7c6780e327eb5943e7"), looks := false }, kinds := [], alts := [], laidByText := true, laidKinds := [.data], laidTests := true, laidLooks := .later }
def MatchMatchesReferenceCardSaid : Prop := Claim7.holds Tryd.pinned (.plain (OpenSpec.ofChange matchMatchesReferenceSpec)) matchMatchesReferenceCard

/-- THE TIED CARD OF 'chargeparklaw37.MatchLeast'. -/
def matchLeastCard : Claim7 := { stood := { row := matchLeastRow, standIns := [], harness := (true, "f3183544f30d336af8c28f8b74ca43054f8c3ce3b2859d7c6780e327eb5943e7"), looks := false }, kinds := [], alts := [], laidByText := true, laidKinds := [.data], laidTests := true, laidLooks := .later }
def MatchLeastCardSaid : Prop := Claim7.holds Tryd.pinned (.plain (OpenSpec.ofChange matchLeastSpec)) matchLeastCard

/-- THE TIED CARD OF 'chargeparklaw37.MatchRight'. -/
def matchRightCard : Claim7 := { stood := { row := matchRightRow, standIns := [], harness := (true, "f3183544f30d336af8c28f8b74ca43054f8c3ce3b2859d7c6780e327eb5943e7"), looks := false }, kinds := [], alts := [], laidByText := true, laidKinds := [.data], laidTests := true, laidLooks := .later }
def MatchRightCardSaid : Prop := Claim7.holds Tryd.pinned (.plain (OpenSpec.ofChange matchRightSpec)) matchRightCard

/-- THE TIED CARD OF 'chargeparklaw37.MatchMisread'. -/
def matchMisreadCard : Claim7 := { stood := { row := matchMisreadRow, standIns := [], harness := (true, "f3183544f30d336af8c28f8b74ca43054f8c3ce3b2859d7c6780e327eb5943e7"), looks := false }, kinds := [], alts := [], laidByText := true, laidKinds := [.data], laidTests := true, laidLooks := .later }
def MatchMisreadCardSaid : Prop := Claim7.holds Tryd.pinned (.plain (OpenSpec.ofChange matchMisreadSpec)) matchMisreadCard

/-- THE TIED CARD OF 'chargeparklaw37.MatchOneMore'. -/
def matchOneMoreCard : Claim7 := { stood := { row := matchOneMoreRow, standIns := [], harness := (true, "f3183544f30d336af8c28f8b74ca43054f8c3ce3b2859d7c6780e327eb5943e7"), looks := false }, kinds := [], alts := [], laidByText := true, laidKinds := [.data], laidTests := true, laidLooks := .later }
def MatchOneMoreCardSaid : Prop := Claim7.holds Tryd.pinned (.plain (OpenSpec.ofChange matchOneMoreSpec)) matchOneMoreCard

/-- THE TIED CARD OF 'chargeparklaw37.MatchTurned'. -/
def matchTurnedCard : Claim7 := { stood := { row := matchTurnedRow, standIns := [], harness := (true, "f3183544f30d336af8c28f8b74ca43054f8c3ce3b2859d7c6780e327eb5943e7"), looks := false }, kinds := [], alts := [], laidByText := true, laidKinds := [.data], laidTests := true, laidLooks := .later }
def MatchTurnedCardSaid : Prop := Claim7.holds Tryd.pinned (.plain (OpenSpec.ofChange matchTurnedSpec)) matchTurnedCard

/-- THE TIED CARD OF 'chargeparklaw37.MatchBounds'. -/
def matchBoundsCard : Claim7 := { stood := { row := matchBoundsRow, standIns := [], harness := (true, "f3183544f30d336af8c28f8b74ca43054f8c3ce3b2859d7c6780e327eb5943e7"), looks := false }, kinds := [], alts := [], laidByText := true, laidKinds := [.data], laidTests := true, laidLooks := .later }
def MatchBoundsCardSaid : Prop := Claim7.holds Tryd.pinned (.plain (OpenSpec.ofChange matchBoundsSpec)) matchBoundsCard

/-- THE TIED CARD OF 'chargeparklaw37.MatchFar'. -/
def matchFarCard : Claim7 := { stood := { row := matchFarRow, standIns := [], harness := (true, "f3183544f30d336af8c28f8b74ca43054f8c3ce3b2859d7c6780e327eb5943e7"), looks := false }, kinds := [], alts := [], laidByText := true, laidKinds := [.data], laidTests := true, laidLooks := .later }
def MatchFarCardSaid : Prop := Claim7.holds Tryd.pinned (.plain (OpenSpec.ofChange matchFarSpec)) matchFarCard

/-- THE SECOND FORM's CARD OF 'chargeparklaw37.MatchMatchesReference'. -/
def matchMatchesReferenceUptoCard : Claim7 := { stood := { row := matchMatchesReferenceUptoRow, standIns := [], harness := (true, "f3183544f30d336af8c28f8b74ca43054f8c3ce3b2859d7c6780e327eb5943e7"), looks := false }, kinds := [], alts := [], laidByText := true, laidKinds := [.data], laidTests := true, laidLooks := .later }
def MatchMatchesReferenceUptoCardSaid : Prop := Claim7.holds Tryd.pinned (.plain (OpenSpec.upto matchMatchesReferenceSpec)) matchMatchesReferenceUptoCard

/-- THE SECOND FORM's CARD OF 'chargeparklaw37.MatchLeast'. -/
def matchLeastUptoCard : Claim7 := { stood := { row := matchLeastUptoRow, standIns := [], harness := (true, "f3183544f30d336af8c28f8b74ca43054f8c3ce3b2859d7c6780e327eb5943e7"), looks := false }, kinds := [], alts := [], laidByText := true, laidKinds := [.data], laidTests := true, laidLooks := .later }
def MatchLeastUptoCardSaid : Prop := Claim7.holds Tryd.pinned (.plain (OpenSpec.upto matchLeastSpec)) matchLeastUptoCard

/-- THE SECOND FORM's CARD OF 'chargeparklaw37.MatchRight'. -/
def matchRightUptoCard : Claim7 := { stood := { row := matchRightUptoRow, standIns := [], harness := (true, "f3183544f30d336af8c28f8b74ca43054f8c3ce3b2859d7c6780e327eb5943e7"), looks := false }, kinds := [], alts := [], laidByText := true, laidKinds := [.data], laidTests := true, laidLooks := .later }
def MatchRightUptoCardSaid : Prop := Claim7.holds Tryd.pinned (.plain (OpenSpec.upto matchRightSpec)) matchRightUptoCard

/-- THE SECOND FORM's CARD OF 'chargeparklaw37.MatchMisread'. -/
def matchMisreadUptoCard : Claim7 := { stood := { row := matchMisreadUptoRow, standIns := [], harness := (true, "f3183544f30d336af8c28f8b74ca43054f8c3ce3b2859d7c6780e327eb5943e7"), looks := false }, kinds := [], alts := [], laidByText := true, laidKinds := [.data], laidTests := true, laidLooks := .later }
def MatchMisreadUptoCardSaid : Prop := Claim7.holds Tryd.pinned (.plain (OpenSpec.upto matchMisreadSpec)) matchMisreadUptoCard

/-- THE SECOND FORM's CARD OF 'chargeparklaw37.MatchOneMore'. -/
def matchOneMoreUptoCard : Claim7 := { stood := { row := matchOneMoreUptoRow, standIns := [], harness := (true, "f3183544f30d336af8c28f8b74ca43054f8c3ce3b2859d7c6780e327eb5943e7"), looks := false }, kinds := [], alts := [], laidByText := true, laidKinds := [.data], laidTests := true, laidLooks := .later }
def MatchOneMoreUptoCardSaid : Prop := Claim7.holds Tryd.pinned (.plain (OpenSpec.upto matchOneMoreSpec)) matchOneMoreUptoCard

/-- THE SECOND FORM's CARD OF 'chargeparklaw37.MatchTurned'. -/
def matchTurnedUptoCard : Claim7 := { stood := { row := matchTurnedUptoRow, standIns := [], harness := (true, "f3183544f30d336af8c28f8b74ca43054f8c3ce3b2859d7c6780e327eb5943e7"), looks := false }, kinds := [], alts := [], laidByText := true, laidKinds := [.data], laidTests := true, laidLooks := .later }
def MatchTurnedUptoCardSaid : Prop := Claim7.holds Tryd.pinned (.plain (OpenSpec.upto matchTurnedSpec)) matchTurnedUptoCard

/-- THE SECOND FORM's CARD OF 'chargeparklaw37.MatchBounds'. -/
def matchBoundsUptoCard : Claim7 := { stood := { row := matchBoundsUptoRow, standIns := [], harness := (true, "f3183544f30d336af8c28f8b74ca43054f8c3ce3b2859d7c6780e327eb5943e7"), looks := false }, kinds := [], alts := [], laidByText := true, laidKinds := [.data], laidTests := true, laidLooks := .later }
def MatchBoundsUptoCardSaid : Prop := Claim7.holds Tryd.pinned (.plain (OpenSpec.upto matchBoundsSpec)) matchBoundsUptoCard

/-- THE SECOND FORM's CARD OF 'chargeparklaw37.MatchFar'. -/
def matchFarUptoCard : Claim7 := { stood := { row := matchFarUptoRow, standIns := [], harness := (true, "f3183544f30d336af8c28f8b74ca43054f8c3ce3b2859d7c6780e327eb5943e7"), looks := false }, kinds := [], alts := [], laidByText := true, laidKinds := [.data], laidTests := true, laidLooks := .later }
def MatchFarUptoCardSaid : Prop := Claim7.holds Tryd.pinned (.plain (OpenSpec.upto matchFarSpec)) matchFarUptoCard
end Rows
end Go.Proofs.YtmcodendnpjlaaaDoor
