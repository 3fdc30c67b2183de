/-
  DERIVED. GIVEN WITH THE SEED: THE CARDS: each row of YtkiiojgaaoaipaaDoorRows.lean that lists a variable, with what it lists TIED to the program's text (the seventh form; the later family's looks); each row that meets fmt, with fmt's text TOLD by the authors' own Lean function (tested against real Go, not proved from fmt's source: count such statements apart). THE CARD IS WHAT COUNTS. Prove the row's statement (the work); the ties are given (YtkiiojgaaoaipaaDoorTie.lean); close each card by the builder's one call (the guide's Derived/Test/ToyasCard.lean, 'card_holds'). Laid BY PROGRAM, IN A SANDBOX (cutbox-door.mjs). By AI agents, Wed Nov 11 2026. No macro, syntax, notation, axiom, sorry.
-/
import Derived.Test.YtkiiojgaaoaipaaDoorRows
import GoSem.ClaimSeven
namespace Go.Proofs.YtkiiojgaaoaipaaDoor
namespace Rows

/-- THE TIED CARD OF 'truantlaw08.IrExact'. -/
def irExactCard : Claim7 := { stood := { row := irExactRow, standIns := [], harness := (true, "f583319f87d7beb61f57e975f47e35285aa28e6809c4aaef5c2845160ad0618a"), looks := false }, kinds := [], alts := [], laidByText := true, laidKinds := [.data, .data, .data], laidTests := true, laidLooks := .later }
def IrExactCardSaid : Prop := Claim7.holds Tryd.pinned (.plain (OpenSpec.ofChange irExactSpec)) irExactCard

/-- THE TIED CARD OF 'truantlaw08.IrUses'. -/
def irUsesCard : Claim7 := { stood := { row := irUsesRow, standIns := [], harness := (true, "f583319f87d7beb61f57e975f47e35285aa28e6809c4aaef5c2845160ad0618a"), looks := false }, kinds := [], alts := [], laidByText := true, laidKinds := [.data, .data, .data], laidTests := true, laidLooks := .later }
def IrUsesCardSaid : Prop := Claim7.holds Tryd.pinned (.plain (OpenSpec.ofChange irUsesSpec)) irUsesCard

/-- THE TIED CARD OF 'truantlaw08.IrClones'. -/
def irClonesCard : Claim7 := { stood := { row := irClonesRow, standIns := [], harness := (true, "f583319f87d7beb61f57e975f47e35285aa28e6809c4aaef5c2845160ad0618a"), looks := false }, kinds := [], alts := [], laidByText := true, laidKinds := [.data, .data, .data], laidTests := true, laidLooks := .later }
def IrClonesCardSaid : Prop := Claim7.holds Tryd.pinned (.plain (OpenSpec.ofChange irClonesSpec)) irClonesCard

/-- THE TIED CARD OF 'truantlaw08.IrWords'. -/
def irWordsCard : Claim7 := { stood := { row := irWordsRow, standIns := [], harness := (true, "f583319f87d7beb61f57e975f47e35285aa28e6809c4aaef5c2845160ad0618a"), looks := false }, kinds := [], alts := [], laidByText := true, laidKinds := [.data, .data, .data], laidTests := true, laidLooks := .later }
def IrWordsCardSaid : Prop := Claim7.holds Tryd.pinned (.plain (OpenSpec.ofChange irWordsSpec)) irWordsCard

/-- THE SECOND FORM's CARD OF 'truantlaw08.IrExact'. -/
def irExactUptoCard : Claim7 := { stood := { row := irExactUptoRow, standIns := [], harness := (true, "f583319f87d7beb61f57e975f47e35285aa28e6809c4aaef5c2845160ad0618a"), looks := false }, kinds := [], alts := [], laidByText := true, laidKinds := [.data, .data, .data], laidTests := true, laidLooks := .later }
def IrExactUptoCardSaid : Prop := Claim7.holds Tryd.pinned (.plain (OpenSpec.upto irExactSpec)) irExactUptoCard

/-- THE SECOND FORM's CARD OF 'truantlaw08.IrUses'. -/
def irUsesUptoCard : Claim7 := { stood := { row := irUsesUptoRow, standIns := [], harness := (true, "f583319f87d7beb61f57e975f47e35285aa28e6809c4aaef5c2845160ad0618a"), looks := false }, kinds := [], alts := [], laidByText := true, laidKinds := [.data, .data, .data], laidTests := true, laidLooks := .later }
def IrUsesUptoCardSaid : Prop := Claim7.holds Tryd.pinned (.plain (OpenSpec.upto irUsesSpec)) irUsesUptoCard

/-- THE SECOND FORM's CARD OF 'truantlaw08.IrClones'. -/
def irClonesUptoCard : Claim7 := { stood := { row := irClonesUptoRow, standIns := [], harness := (true, "f583319f87d7beb61f57e975f47e35285aa28e6809c4aaef5c2845160ad0618a"), looks := false }, kinds := [], alts := [], laidByText := true, laidKinds := [.data, .data, .data], laidTests := true, laidLooks := .later }
def IrClonesUptoCardSaid : Prop := Claim7.holds Tryd.pinned (.plain (OpenSpec.upto irClonesSpec)) irClonesUptoCard

/-- THE SECOND FORM's CARD OF 'truantlaw08.IrWords'. -/
def irWordsUptoCard : Claim7 := { stood := { row := irWordsUptoRow, standIns := [], harness := (true, "f583319f87d7beb61f57e975f47e35285aa28e6809c4aaef5c2845160ad0618a"), looks := false }, kinds := [], alts := [], laidByText := true, laidKinds := [.data, .data, .data], laidTests := true, laidLooks := .later }
def IrWordsUptoCardSaid : Prop := Claim7.holds Tryd.pinned (.plain (OpenSpec.upto irWordsSpec)) irWordsUptoCard
end Rows
end Go.Proofs.YtkiiojgaaoaipaaDoor
