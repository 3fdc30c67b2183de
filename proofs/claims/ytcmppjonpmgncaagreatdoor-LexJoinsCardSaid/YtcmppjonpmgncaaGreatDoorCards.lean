/-
  DERIVED. GIVEN WITH THE SEED: THE CARDS: each row of YtcmppjonpmgncaaGreatDoorRows.lean that lists a variable, with what it lists TIED to the program's text (the seventh form; the later family's looks); each row that meets fmt, with fmt's text TOLD by the authors' own Lean function (tested against real Go, not proved from fmt's source: count such statements apart). THE CARD IS WHAT COUNTS. Prove the row's statement (the work); the ties are given (YtcmppjonpmgncaaGreatDoorTie.lean); close each card by the builder's one call (the guide's Derived/Test/ToyasCard.lean, 'card_holds'). Laid BY PROGRAM, IN A SANDBOX (cutbox-door.mjs). By AI agents, Wed Nov 11 2026. No macro, syntax, notation, axiom, sorry.
-/
import Derived.Test.YtcmppjonpmgncaaGreatDoorRows
import GoSem.ClaimSeven
namespace Go.Proofs.YtcmppjonpmgncaaGreatDoor
namespace Rows

/-- THE TIED CARD OF 'truantlaw02.LexExact'. -/
def lexExactCard : Claim7 := { stood := { row := lexExactRow, standIns := [], harness := (true, "2881367c872ff6e373d23425b703807b322d7a951754e70fb30eca0a2b42f127"), looks := true }, kinds := [], alts := [], laidByText := true, laidKinds := [.data, .data, .data, .data, .sentinel, .sentinel, .pinned], laidTests := true, laidLooks := .later }
def LexExactCardSaid : Prop := Claim7.holds Tryz.pinned (.plain (OpenSpec.ofChange lexExactSpec)) lexExactCard

/-- THE TIED CARD OF 'truantlaw02.LexPlaces'. -/
def lexPlacesCard : Claim7 := { stood := { row := lexPlacesRow, standIns := [], harness := (true, "2881367c872ff6e373d23425b703807b322d7a951754e70fb30eca0a2b42f127"), looks := true }, kinds := [], alts := [], laidByText := true, laidKinds := [.data, .data, .data, .data, .sentinel, .sentinel, .pinned], laidTests := true, laidLooks := .later }
def LexPlacesCardSaid : Prop := Claim7.holds Tryz.pinned (.plain (OpenSpec.ofChange lexPlacesSpec)) lexPlacesCard

/-- THE TIED CARD OF 'truantlaw02.LexJoins'. -/
def lexJoinsCard : Claim7 := { stood := { row := lexJoinsRow, standIns := [], harness := (true, "2881367c872ff6e373d23425b703807b322d7a951754e70fb30eca0a2b42f127"), looks := true }, kinds := [], alts := [], laidByText := true, laidKinds := [.data, .data, .data, .data, .sentinel, .sentinel, .pinned], laidTests := true, laidLooks := .later }
def LexJoinsCardSaid : Prop := Claim7.holds Tryz.pinned (.plain (OpenSpec.ofChange lexJoinsSpec)) lexJoinsCard

/-- THE TIED CARD OF 'truantlaw02.LexLines'. -/
def lexLinesCard : Claim7 := { stood := { row := lexLinesRow, standIns := [], harness := (true, "2881367c872ff6e373d23425b703807b322d7a951754e70fb30eca0a2b42f127"), looks := true }, kinds := [], alts := [], laidByText := true, laidKinds := [.data, .data, .data, .data, .sentinel, .sentinel, .pinned], laidTests := true, laidLooks := .later }
def LexLinesCardSaid : Prop := Claim7.holds Tryz.pinned (.plain (OpenSpec.ofChange lexLinesSpec)) lexLinesCard

/-- THE SECOND FORM's CARD OF 'truantlaw02.LexExact'. -/
def lexExactUptoCard : Claim7 := { stood := { row := lexExactUptoRow, standIns := [], harness := (true, "2881367c872ff6e373d23425b703807b322d7a951754e70fb30eca0a2b42f127"), looks := true }, kinds := [], alts := [], laidByText := true, laidKinds := [.data, .data, .data, .data, .sentinel, .sentinel, .pinned], laidTests := true, laidLooks := .later }
def LexExactUptoCardSaid : Prop := Claim7.holds Tryz.pinned (.plain (OpenSpec.upto lexExactSpec)) lexExactUptoCard

/-- THE SECOND FORM's CARD OF 'truantlaw02.LexPlaces'. -/
def lexPlacesUptoCard : Claim7 := { stood := { row := lexPlacesUptoRow, standIns := [], harness := (true, "2881367c872ff6e373d23425b703807b322d7a951754e70fb30eca0a2b42f127"), looks := true }, kinds := [], alts := [], laidByText := true, laidKinds := [.data, .data, .data, .data, .sentinel, .sentinel, .pinned], laidTests := true, laidLooks := .later }
def LexPlacesUptoCardSaid : Prop := Claim7.holds Tryz.pinned (.plain (OpenSpec.upto lexPlacesSpec)) lexPlacesUptoCard

/-- THE SECOND FORM's CARD OF 'truantlaw02.LexJoins'. -/
def lexJoinsUptoCard : Claim7 := { stood := { row := lexJoinsUptoRow, standIns := [], harness := (true, "2881367c872ff6e373d23425b703807b322d7a951754e70fb30eca0a2b42f127"), looks := true }, kinds := [], alts := [], laidByText := true, laidKinds := [.data, .data, .data, .data, .sentinel, .sentinel, .pinned], laidTests := true, laidLooks := .later }
def LexJoinsUptoCardSaid : Prop := Claim7.holds Tryz.pinned (.plain (OpenSpec.upto lexJoinsSpec)) lexJoinsUptoCard

/-- THE SECOND FORM's CARD OF 'truantlaw02.LexLines'. -/
def lexLinesUptoCard : Claim7 := { stood := { row := lexLinesUptoRow, standIns := [], harness := (true, "2881367c872ff6e373d23425b703807b322d7a951754e70fb30eca0a2b42f127"), looks := true }, kinds := [], alts := [], laidByText := true, laidKinds := [.data, .data, .data, .data, .sentinel, .sentinel, .pinned], laidTests := true, laidLooks := .later }
def LexLinesUptoCardSaid : Prop := Claim7.holds Tryz.pinned (.plain (OpenSpec.upto lexLinesSpec)) lexLinesUptoCard
end Rows
end Go.Proofs.YtcmppjonpmgncaaGreatDoor
