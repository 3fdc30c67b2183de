/-
  DERIVED. GIVEN WITH THE SEED: THE CARDS: each row of YtgidnkmlnccaiaaDoorRows.lean that lists a variable, with what it lists TIED to the program's text (the seventh form; the later family's looks); each row that meets fmt, with fmt's text TOLD by the authors' own Lean function (tested against real Go, not proved from fmt's source: count such statements apart). THE CARD IS WHAT COUNTS. Prove the row's statement (the work); the ties are given (YtgidnkmlnccaiaaDoorTie.lean); close each card by the builder's one call (the guide's Derived/Test/ToyasCard.lean, 'card_holds'). Laid BY PROGRAM, IN A SANDBOX (cutbox-door.mjs). By AI agents, Wed Nov 11 2026. No macro, syntax, notation, axiom, sorry.
-/
import Derived.Test.YtgidnkmlnccaiaaDoorRows
import GoSem.ClaimSeven
namespace Go.Proofs.YtgidnkmlnccaiaaDoor
namespace Rows

/-- THE TIED CARD OF 'truantlaw18.NodeExact'. -/
def nodeExactCard : Claim7 := { stood := { row := nodeExactRow, standIns := [], harness := (true, "26fefc1e9f6a8f2612b1e89344c125d6de1548854a6a65b324952688a11e5c03"), looks := false }, kinds := [], alts := [], laidByText := true, laidKinds := [.data, .data, .data], laidTests := true, laidLooks := .later }
def NodeExactCardSaid : Prop := Claim7.holds Tryd.pinned (.plain (OpenSpec.ofChange nodeExactSpec)) nodeExactCard

/-- THE TIED CARD OF 'truantlaw18.NodeTexts'. -/
def nodeTextsCard : Claim7 := { stood := { row := nodeTextsRow, standIns := [], harness := (true, "26fefc1e9f6a8f2612b1e89344c125d6de1548854a6a65b324952688a11e5c03"), looks := false }, kinds := [], alts := [], laidByText := true, laidKinds := [.data, .data, .data], laidTests := true, laidLooks := .later }
def NodeTextsCardSaid : Prop := Claim7.holds Tryd.pinned (.plain (OpenSpec.ofChange nodeTextsSpec)) nodeTextsCard

/-- THE TIED CARD OF 'truantlaw18.NodeSets'. -/
def nodeSetsCard : Claim7 := { stood := { row := nodeSetsRow, standIns := [], harness := (true, "26fefc1e9f6a8f2612b1e89344c125d6de1548854a6a65b324952688a11e5c03"), looks := false }, kinds := [], alts := [], laidByText := true, laidKinds := [.data, .data, .data], laidTests := true, laidLooks := .later }
def NodeSetsCardSaid : Prop := Claim7.holds Tryd.pinned (.plain (OpenSpec.ofChange nodeSetsSpec)) nodeSetsCard

/-- THE TIED CARD OF 'truantlaw18.NodeJoins'. -/
def nodeJoinsCard : Claim7 := { stood := { row := nodeJoinsRow, standIns := [], harness := (true, "26fefc1e9f6a8f2612b1e89344c125d6de1548854a6a65b324952688a11e5c03"), looks := false }, kinds := [], alts := [], laidByText := true, laidKinds := [.data, .data, .data], laidTests := true, laidLooks := .later }
def NodeJoinsCardSaid : Prop := Claim7.holds Tryd.pinned (.plain (OpenSpec.ofChange nodeJoinsSpec)) nodeJoinsCard

/-- THE SECOND FORM's CARD OF 'truantlaw18.NodeExact'. -/
def nodeExactUptoCard : Claim7 := { stood := { row := nodeExactUptoRow, standIns := [], harness := (true, "26fefc1e9f6a8f2612b1e89344c125d6de1548854a6a65b324952688a11e5c03"), looks := false }, kinds := [], alts := [], laidByText := true, laidKinds := [.data, .data, .data], laidTests := true, laidLooks := .later }
def NodeExactUptoCardSaid : Prop := Claim7.holds Tryd.pinned (.plain (OpenSpec.upto nodeExactSpec)) nodeExactUptoCard

/-- THE SECOND FORM's CARD OF 'truantlaw18.NodeTexts'. -/
def nodeTextsUptoCard : Claim7 := { stood := { row := nodeTextsUptoRow, standIns := [], harness := (true, "26fefc1e9f6a8f2612b1e89344c125d6de1548854a6a65b324952688a11e5c03"), looks := false }, kinds := [], alts := [], laidByText := true, laidKinds := [.data, .data, .data], laidTests := true, laidLooks := .later }
def NodeTextsUptoCardSaid : Prop := Claim7.holds Tryd.pinned (.plain (OpenSpec.upto nodeTextsSpec)) nodeTextsUptoCard

/-- THE SECOND FORM's CARD OF 'truantlaw18.NodeSets'. -/
def nodeSetsUptoCard : Claim7 := { stood := { row := nodeSetsUptoRow, standIns := [], harness := (true, "26fefc1e9f6a8f2612b1e89344c125d6de1548854a6a65b324952688a11e5c03"), looks := false }, kinds := [], alts := [], laidByText := true, laidKinds := [.data, .data, .data], laidTests := true, laidLooks := .later }
def NodeSetsUptoCardSaid : Prop := Claim7.holds Tryd.pinned (.plain (OpenSpec.upto nodeSetsSpec)) nodeSetsUptoCard

/-- THE SECOND FORM's CARD OF 'truantlaw18.NodeJoins'. -/
def nodeJoinsUptoCard : Claim7 := { stood := { row := nodeJoinsUptoRow, standIns := [], harness := (true, "26fefc1e9f6a8f2612b1e89344c125d6de1548854a6a65b324952688a11e5c03"), looks := false }, kinds := [], alts := [], laidByText := true, laidKinds := [.data, .data, .data], laidTests := true, laidLooks := .later }
def NodeJoinsUptoCardSaid : Prop := Claim7.holds Tryd.pinned (.plain (OpenSpec.upto nodeJoinsSpec)) nodeJoinsUptoCard
end Rows
end Go.Proofs.YtgidnkmlnccaiaaDoor
