/-
  DERIVED. GIVEN WITH THE SEED: THE CARDS: each row of YtcmppjonpmgncaaDoorRows.lean that lists a variable, with what it lists TIED to the program's text (the seventh form; the later family's looks); each row that meets fmt, with fmt's text TOLD by the authors' own Lean function (tested against real Go, not proved from fmt's source: count such statements apart). THE CARD IS WHAT COUNTS. Prove the row's statement (the work); the ties are given (YtcmppjonpmgncaaDoorTie.lean); close each card by the builder's one call (the guide's Derived/Test/ToyasCard.lean, 'card_holds'). Laid BY PROGRAM, IN A SANDBOX (cutbox-door.mjs). By AI agents, Wed Nov 11 2026. No macro, syntax, notation, axiom, sorry.
-/
import Derived.Test.YtcmppjonpmgncaaDoorRows
import GoSem.ClaimSeven
namespace Go.Proofs.YtcmppjonpmgncaaDoor
namespace Rows

/-- THE TIED CARD OF 'truantlaw01.NumExact'. -/
def numExactCard : Claim7 := { stood := { row := numExactRow, standIns := [], harness := (true, "dc5f24f595dcb4e633ede81ae42dfb634b8a8bd80a90ce8ece426df339758041"), looks := true }, kinds := [], alts := [], laidByText := true, laidKinds := [.data, .data, .data, .data, .sentinel, .sentinel, .pinned], laidTests := true, laidLooks := .later }
def NumExactCardSaid : Prop := Claim7.holds Tryd.pinned (.plain (OpenSpec.ofChange numExactSpec)) numExactCard

/-- THE TIED CARD OF 'truantlaw01.NumSigns'. -/
def numSignsCard : Claim7 := { stood := { row := numSignsRow, standIns := [], harness := (true, "dc5f24f595dcb4e633ede81ae42dfb634b8a8bd80a90ce8ece426df339758041"), looks := true }, kinds := [], alts := [], laidByText := true, laidKinds := [.data, .data, .data, .data, .sentinel, .sentinel, .pinned], laidTests := true, laidLooks := .later }
def NumSignsCardSaid : Prop := Claim7.holds Tryd.pinned (.plain (OpenSpec.ofChange numSignsSpec)) numSignsCard

/-- THE TIED CARD OF 'truantlaw01.NumTexts'. -/
def numTextsCard : Claim7 := { stood := { row := numTextsRow, standIns := [], harness := (true, "dc5f24f595dcb4e633ede81ae42dfb634b8a8bd80a90ce8ece426df339758041"), looks := true }, kinds := [], alts := [], laidByText := true, laidKinds := [.data, .data, .data, .data, .sentinel, .sentinel, .pinned], laidTests := true, laidLooks := .later }
def NumTextsCardSaid : Prop := Claim7.holds Tryd.pinned (.plain (OpenSpec.ofChange numTextsSpec)) numTextsCard

/-- THE TIED CARD OF 'truantlaw01.NumParts'. -/
def numPartsCard : Claim7 := { stood := { row := numPartsRow, standIns := [], harness := (true, "dc5f24f595dcb4e633ede81ae42dfb634b8a8bd80a90ce8ece426df339758041"), looks := true }, kinds := [], alts := [], laidByText := true, laidKinds := [.data, .data, .data, .data, .sentinel, .sentinel, .pinned], laidTests := true, laidLooks := .later }
def NumPartsCardSaid : Prop := Claim7.holds Tryd.pinned (.plain (OpenSpec.ofChange numPartsSpec)) numPartsCard

/-- THE TIED CARD OF 'truantlaw01.NumSwaps'. -/
def numSwapsCard : Claim7 := { stood := { row := numSwapsRow, standIns := [], harness := (true, "dc5f24f595dcb4e633ede81ae42dfb634b8a8bd80a90ce8ece426df339758041"), looks := true }, kinds := [], alts := [], laidByText := true, laidKinds := [.data, .data, .data, .data, .sentinel, .sentinel, .pinned], laidTests := true, laidLooks := .later }
def NumSwapsCardSaid : Prop := Claim7.holds Tryd.pinned (.plain (OpenSpec.ofChange numSwapsSpec)) numSwapsCard

/-- THE TIED CARD OF 'truantlaw01.NumBack'. -/
def numBackCard : Claim7 := { stood := { row := numBackRow, standIns := [], harness := (true, "dc5f24f595dcb4e633ede81ae42dfb634b8a8bd80a90ce8ece426df339758041"), looks := true }, kinds := [], alts := [], laidByText := true, laidKinds := [.data, .data, .data, .data, .sentinel, .sentinel, .pinned], laidTests := true, laidLooks := .later }
def NumBackCardSaid : Prop := Claim7.holds Tryd.pinned (.plain (OpenSpec.ofChange numBackSpec)) numBackCard

/-- THE TIED CARD OF 'truantlaw01.NumShifts'. -/
def numShiftsCard : Claim7 := { stood := { row := numShiftsRow, standIns := [], harness := (true, "dc5f24f595dcb4e633ede81ae42dfb634b8a8bd80a90ce8ece426df339758041"), looks := true }, kinds := [], alts := [], laidByText := true, laidKinds := [.data, .data, .data, .data, .sentinel, .sentinel, .pinned], laidTests := true, laidLooks := .later }
def NumShiftsCardSaid : Prop := Claim7.holds Tryd.pinned (.plain (OpenSpec.ofChange numShiftsSpec)) numShiftsCard

/-- THE SECOND FORM's CARD OF 'truantlaw01.NumExact'. -/
def numExactUptoCard : Claim7 := { stood := { row := numExactUptoRow, standIns := [], harness := (true, "dc5f24f595dcb4e633ede81ae42dfb634b8a8bd80a90ce8ece426df339758041"), looks := true }, kinds := [], alts := [], laidByText := true, laidKinds := [.data, .data, .data, .data, .sentinel, .sentinel, .pinned], laidTests := true, laidLooks := .later }
def NumExactUptoCardSaid : Prop := Claim7.holds Tryd.pinned (.plain (OpenSpec.upto numExactSpec)) numExactUptoCard

/-- THE SECOND FORM's CARD OF 'truantlaw01.NumSigns'. -/
def numSignsUptoCard : Claim7 := { stood := { row := numSignsUptoRow, standIns := [], harness := (true, "dc5f24f595dcb4e633ede81ae42dfb634b8a8bd80a90ce8ece426df339758041"), looks := true }, kinds := [], alts := [], laidByText := true, laidKinds := [.data, .data, .data, .data, .sentinel, .sentinel, .pinned], laidTests := true, laidLooks := .later }
def NumSignsUptoCardSaid : Prop := Claim7.holds Tryd.pinned (.plain (OpenSpec.upto numSignsSpec)) numSignsUptoCard

/-- THE SECOND FORM's CARD OF 'truantlaw01.NumTexts'. -/
def numTextsUptoCard : Claim7 := { stood := { row := numTextsUptoRow, standIns := [], harness := (true, "dc5f24f595dcb4e633ede81ae42dfb634b8a8bd80a90ce8ece426df339758041"), looks := true }, kinds := [], alts := [], laidByText := true, laidKinds := [.data, .data, .data, .data, .sentinel, .sentinel, .pinned], laidTests := true, laidLooks := .later }
def NumTextsUptoCardSaid : Prop := Claim7.holds Tryd.pinned (.plain (OpenSpec.upto numTextsSpec)) numTextsUptoCard

/-- THE SECOND FORM's CARD OF 'truantlaw01.NumParts'. -/
def numPartsUptoCard : Claim7 := { stood := { row := numPartsUptoRow, standIns := [], harness := (true, "dc5f24f595dcb4e633ede81ae42dfb634b8a8bd80a90ce8ece426df339758041"), looks := true }, kinds := [], alts := [], laidByText := true, laidKinds := [.data, .data, .data, .data, .sentinel, .sentinel, .pinned], laidTests := true, laidLooks := .later }
def NumPartsUptoCardSaid : Prop := Claim7.holds Tryd.pinned (.plain (OpenSpec.upto numPartsSpec)) numPartsUptoCard

/-- THE SECOND FORM's CARD OF 'truantlaw01.NumSwaps'. -/
def numSwapsUptoCard : Claim7 := { stood := { row := numSwapsUptoRow, standIns := [], harness := (true, "dc5f24f595dcb4e633ede81ae42dfb634b8a8bd80a90ce8ece426df339758041"), looks := true }, kinds := [], alts := [], laidByText := true, laidKinds := [.data, .data, .data, .data, .sentinel, .sentinel, .pinned], laidTests := true, laidLooks := .later }
def NumSwapsUptoCardSaid : Prop := Claim7.holds Tryd.pinned (.plain (OpenSpec.upto numSwapsSpec)) numSwapsUptoCard

/-- THE SECOND FORM's CARD OF 'truantlaw01.NumBack'. -/
def numBackUptoCard : Claim7 := { stood := { row := numBackUptoRow, standIns := [], harness := (true, "dc5f24f595dcb4e633ede81ae42dfb634b8a8bd80a90ce8ece426df339758041"), looks := true }, kinds := [], alts := [], laidByText := true, laidKinds := [.data, .data, .data, .data, .sentinel, .sentinel, .pinned], laidTests := true, laidLooks := .later }
def NumBackUptoCardSaid : Prop := Claim7.holds Tryd.pinned (.plain (OpenSpec.upto numBackSpec)) numBackUptoCard

/-- THE SECOND FORM's CARD OF 'truantlaw01.NumShifts'. -/
def numShiftsUptoCard : Claim7 := { stood := { row := numShiftsUptoRow, standIns := [], harness := (true, "dc5f24f595dcb4e633ede81ae42dfb634b8a8bd80a90ce8ece426df339758041"), looks := true }, kinds := [], alts := [], laidByText := true, laidKinds := [.data, .data, .data, .data, .sentinel, .sentinel, .pinned], laidTests := true, laidLooks := .later }
def NumShiftsUptoCardSaid : Prop := Claim7.holds Tryd.pinned (.plain (OpenSpec.upto numShiftsSpec)) numShiftsUptoCard
end Rows
end Go.Proofs.YtcmppjonpmgncaaDoor
