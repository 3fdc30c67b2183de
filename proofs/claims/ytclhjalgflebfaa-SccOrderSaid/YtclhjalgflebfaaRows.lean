/-
  No cell of these rows narrows 'for every input' (looked for: loops, veiled, ifaces, maps, wideKeys, modest, calm, conditions, laid).
  DERIVED. THE GIVEN ROWS OF THIS SEAT. 11 by the template 'for every input the law returns true; each argument reads behind the call as it read before'; 0 by the template 'total and deterministic' (their statements: YtclhjalgflebfaaTotals.lean).
  GIVEN WITH THE SEED: the statements are not yours to turn. If you find one false, say at which input.
  Laid BY PROGRAM, IN A SANDBOX (cutbox-rows.mjs): the forced cells as the released guide's own fill.sh prints them over the translation 45e6300ac478f3c5… (all of the seat's roots in one cut). By AI agents, Wed Nov 11 2026. No macro, syntax, notation, axiom, sorry.
-/
import Derived.Test.YtclhjalgflebfaaChecked
import GoSem.Claim
import GoSem.ClaimJoined
import GoSem.ClaimMapViews
import Derived.JoinedTies
import Derived.KernelRfl
namespace Go.Proofs.Ytclhjalgflebfaa
/- THE CELL 'sum', in the pinned program and in every row, IS THE sha256 OF THE DUMP (.gsa) THAT YtclhjalgflebfaaProg.lean LOADS. Nothing in Lean hashes anything: it is a label: what it is worth is what the hold of that sum in a sandbox is worth. -/
noncomputable def Try.pinned : Pinned := { name := "ytclhjalgflebfaa", sum := "45e6300ac478f3c5e90060cae1c859644d45dd59135f835673a8ee81bfcc8992", checked := Try.checked }
namespace Rows
def none {H : Type} : Left H := { results := [], args := [] }

/-- 'truantlaw09.FlowExact': WHATEVER THE INPUT: true; the input reads as it did. -/
def flowExactSpec : ChangeSpec := { name := "flowExact", fn := fun _ => fun
  | [d1, d2] => { results := [.lit (.bool true)], args := [d1, d2] }
  | _ => none }
def flowExactRow : OpenClaim := { program := "ytclhjalgflebfaa", sum := "45e6300ac478f3c5e90060cae1c859644d45dd59135f835673a8ee81bfcc8992", func := "truant/truantlaw09.FlowExact", spec := "flowExact", unfollowed := true, recurses := true, apart := false }
def FlowExactSaid : Prop := flowExactRow.holds Try.pinned (OpenSpec.ofChange flowExactSpec)

/-- ITS FALSE NEIGHBOUR: 'it returns false'. Refute it at one input. -/
def flowExactWrong : ChangeSpec := { name := "flowExact", fn := fun _ => fun
  | [d1, d2] => { results := [.lit (.bool false)], args := [d1, d2] }
  | _ => none }
def FlowExactWrongFalsely : Prop := flowExactRow.holds Try.pinned (OpenSpec.ofChange flowExactWrong)

/-- 'truantlaw09.FlowWhere': WHATEVER THE INPUT: true; the input reads as it did. -/
def flowWhereSpec : ChangeSpec := { name := "flowWhere", fn := fun _ => fun
  | [d] => { results := [.lit (.bool true)], args := [d] }
  | _ => none }
def flowWhereRow : OpenClaim := { program := "ytclhjalgflebfaa", sum := "45e6300ac478f3c5e90060cae1c859644d45dd59135f835673a8ee81bfcc8992", func := "truant/truantlaw09.FlowWhere", spec := "flowWhere", unfollowed := true, recurses := true, apart := false }
def FlowWhereSaid : Prop := flowWhereRow.holds Try.pinned (OpenSpec.ofChange flowWhereSpec)

/-- ITS FALSE NEIGHBOUR: 'it returns false'. Refute it at one input. -/
def flowWhereWrong : ChangeSpec := { name := "flowWhere", fn := fun _ => fun
  | [d] => { results := [.lit (.bool false)], args := [d] }
  | _ => none }
def FlowWhereWrongFalsely : Prop := flowWhereRow.holds Try.pinned (OpenSpec.ofChange flowWhereWrong)

/-- 'truantlaw09.FlowOrder': WHATEVER THE INPUT: true; the input reads as it did. -/
def flowOrderSpec : ChangeSpec := { name := "flowOrder", fn := fun _ => fun
  | [d] => { results := [.lit (.bool true)], args := [d] }
  | _ => none }
def flowOrderRow : OpenClaim := { program := "ytclhjalgflebfaa", sum := "45e6300ac478f3c5e90060cae1c859644d45dd59135f835673a8ee81bfcc8992", func := "truant/truantlaw09.FlowOrder", spec := "flowOrder", unfollowed := true, recurses := true, apart := false }
def FlowOrderSaid : Prop := flowOrderRow.holds Try.pinned (OpenSpec.ofChange flowOrderSpec)

/-- ITS FALSE NEIGHBOUR: 'it returns false'. Refute it at one input. -/
def flowOrderWrong : ChangeSpec := { name := "flowOrder", fn := fun _ => fun
  | [d] => { results := [.lit (.bool false)], args := [d] }
  | _ => none }
def FlowOrderWrongFalsely : Prop := flowOrderRow.holds Try.pinned (OpenSpec.ofChange flowOrderWrong)

/-- 'truantlaw09.FlowTurned': WHATEVER THE INPUT: true; the input reads as it did. -/
def flowTurnedSpec : ChangeSpec := { name := "flowTurned", fn := fun _ => fun
  | [d1, d2] => { results := [.lit (.bool true)], args := [d1, d2] }
  | _ => none }
def flowTurnedRow : OpenClaim := { program := "ytclhjalgflebfaa", sum := "45e6300ac478f3c5e90060cae1c859644d45dd59135f835673a8ee81bfcc8992", func := "truant/truantlaw09.FlowTurned", spec := "flowTurned", unfollowed := true, recurses := true, apart := false }
def FlowTurnedSaid : Prop := flowTurnedRow.holds Try.pinned (OpenSpec.ofChange flowTurnedSpec)

/-- ITS FALSE NEIGHBOUR: 'it returns false'. Refute it at one input. -/
def flowTurnedWrong : ChangeSpec := { name := "flowTurned", fn := fun _ => fun
  | [d1, d2] => { results := [.lit (.bool false)], args := [d1, d2] }
  | _ => none }
def FlowTurnedWrongFalsely : Prop := flowTurnedRow.holds Try.pinned (OpenSpec.ofChange flowTurnedWrong)

/-- 'truantlaw20.SccExact': WHATEVER THE INPUT: true; the input reads as it did. -/
def sccExactSpec : ChangeSpec := { name := "sccExact", fn := fun _ => fun
  | [d1, d2] => { results := [.lit (.bool true)], args := [d1, d2] }
  | _ => none }
def sccExactRow : OpenClaim := { program := "ytclhjalgflebfaa", sum := "45e6300ac478f3c5e90060cae1c859644d45dd59135f835673a8ee81bfcc8992", func := "truant/truantlaw20.SccExact", spec := "sccExact", unfollowed := true, recurses := true, apart := false }
def SccExactSaid : Prop := sccExactRow.holds Try.pinned (OpenSpec.ofChange sccExactSpec)

/-- ITS FALSE NEIGHBOUR: 'it returns false'. Refute it at one input. -/
def sccExactWrong : ChangeSpec := { name := "sccExact", fn := fun _ => fun
  | [d1, d2] => { results := [.lit (.bool false)], args := [d1, d2] }
  | _ => none }
def SccExactWrongFalsely : Prop := sccExactRow.holds Try.pinned (OpenSpec.ofChange sccExactWrong)

/-- 'truantlaw20.SccOrder': WHATEVER THE INPUT: true; the input reads as it did. -/
def sccOrderSpec : ChangeSpec := { name := "sccOrder", fn := fun _ => fun
  | [d] => { results := [.lit (.bool true)], args := [d] }
  | _ => none }
def sccOrderRow : OpenClaim := { program := "ytclhjalgflebfaa", sum := "45e6300ac478f3c5e90060cae1c859644d45dd59135f835673a8ee81bfcc8992", func := "truant/truantlaw20.SccOrder", spec := "sccOrder", unfollowed := true, recurses := true, apart := false }
def SccOrderSaid : Prop := sccOrderRow.holds Try.pinned (OpenSpec.ofChange sccOrderSpec)

/-- ITS FALSE NEIGHBOUR: 'it returns false'. Refute it at one input. -/
def sccOrderWrong : ChangeSpec := { name := "sccOrder", fn := fun _ => fun
  | [d] => { results := [.lit (.bool false)], args := [d] }
  | _ => none }
def SccOrderWrongFalsely : Prop := sccOrderRow.holds Try.pinned (OpenSpec.ofChange sccOrderWrong)

/-- 'truantlaw20.SccMore': WHATEVER THE INPUT: true; the input reads as it did. -/
def sccMoreSpec : ChangeSpec := { name := "sccMore", fn := fun _ => fun
  | [d1, d2] => { results := [.lit (.bool true)], args := [d1, d2] }
  | _ => none }
def sccMoreRow : OpenClaim := { program := "ytclhjalgflebfaa", sum := "45e6300ac478f3c5e90060cae1c859644d45dd59135f835673a8ee81bfcc8992", func := "truant/truantlaw20.SccMore", spec := "sccMore", unfollowed := true, recurses := true, apart := false }
def SccMoreSaid : Prop := sccMoreRow.holds Try.pinned (OpenSpec.ofChange sccMoreSpec)

/-- ITS FALSE NEIGHBOUR: 'it returns false'. Refute it at one input. -/
def sccMoreWrong : ChangeSpec := { name := "sccMore", fn := fun _ => fun
  | [d1, d2] => { results := [.lit (.bool false)], args := [d1, d2] }
  | _ => none }
def SccMoreWrongFalsely : Prop := sccMoreRow.holds Try.pinned (OpenSpec.ofChange sccMoreWrong)

/-- 'truantlaw10.DomExact': WHATEVER THE INPUT: true; the input reads as it did. -/
def domExactSpec : ChangeSpec := { name := "domExact", fn := fun _ => fun
  | [d1, d2, d3] => { results := [.lit (.bool true)], args := [d1, d2, d3] }
  | _ => none }
def domExactRow : OpenClaim := { program := "ytclhjalgflebfaa", sum := "45e6300ac478f3c5e90060cae1c859644d45dd59135f835673a8ee81bfcc8992", func := "truant/truantlaw10.DomExact", spec := "domExact", unfollowed := true, recurses := true, apart := false }
def DomExactSaid : Prop := domExactRow.holds Try.pinned (OpenSpec.ofChange domExactSpec)

/-- ITS FALSE NEIGHBOUR: 'it returns false'. Refute it at one input. -/
def domExactWrong : ChangeSpec := { name := "domExact", fn := fun _ => fun
  | [d1, d2, d3] => { results := [.lit (.bool false)], args := [d1, d2, d3] }
  | _ => none }
def DomExactWrongFalsely : Prop := domExactRow.holds Try.pinned (OpenSpec.ofChange domExactWrong)

/-- 'truantlaw10.DomFronts': WHATEVER THE INPUT: true; the input reads as it did. -/
def domFrontsSpec : ChangeSpec := { name := "domFronts", fn := fun _ => fun
  | [d1, d2] => { results := [.lit (.bool true)], args := [d1, d2] }
  | _ => none }
def domFrontsRow : OpenClaim := { program := "ytclhjalgflebfaa", sum := "45e6300ac478f3c5e90060cae1c859644d45dd59135f835673a8ee81bfcc8992", func := "truant/truantlaw10.DomFronts", spec := "domFronts", unfollowed := true, recurses := true, apart := false }
def DomFrontsSaid : Prop := domFrontsRow.holds Try.pinned (OpenSpec.ofChange domFrontsSpec)

/-- ITS FALSE NEIGHBOUR: 'it returns false'. Refute it at one input. -/
def domFrontsWrong : ChangeSpec := { name := "domFronts", fn := fun _ => fun
  | [d1, d2] => { results := [.lit (.bool false)], args := [d1, d2] }
  | _ => none }
def DomFrontsWrongFalsely : Prop := domFrontsRow.holds Try.pinned (OpenSpec.ofChange domFrontsWrong)

/-- 'truantlaw10.DomChain': WHATEVER THE INPUT: true; the input reads as it did. -/
def domChainSpec : ChangeSpec := { name := "domChain", fn := fun _ => fun
  | [d] => { results := [.lit (.bool true)], args := [d] }
  | _ => none }
def domChainRow : OpenClaim := { program := "ytclhjalgflebfaa", sum := "45e6300ac478f3c5e90060cae1c859644d45dd59135f835673a8ee81bfcc8992", func := "truant/truantlaw10.DomChain", spec := "domChain", unfollowed := true, recurses := true, apart := false }
def DomChainSaid : Prop := domChainRow.holds Try.pinned (OpenSpec.ofChange domChainSpec)

/-- ITS FALSE NEIGHBOUR: 'it returns false'. Refute it at one input. -/
def domChainWrong : ChangeSpec := { name := "domChain", fn := fun _ => fun
  | [d] => { results := [.lit (.bool false)], args := [d] }
  | _ => none }
def DomChainWrongFalsely : Prop := domChainRow.holds Try.pinned (OpenSpec.ofChange domChainWrong)

/-- 'truantlaw10.DomMeets': WHATEVER THE INPUT: true; the input reads as it did. -/
def domMeetsSpec : ChangeSpec := { name := "domMeets", fn := fun _ => fun
  | [d] => { results := [.lit (.bool true)], args := [d] }
  | _ => none }
def domMeetsRow : OpenClaim := { program := "ytclhjalgflebfaa", sum := "45e6300ac478f3c5e90060cae1c859644d45dd59135f835673a8ee81bfcc8992", func := "truant/truantlaw10.DomMeets", spec := "domMeets", unfollowed := true, recurses := true, apart := false }
def DomMeetsSaid : Prop := domMeetsRow.holds Try.pinned (OpenSpec.ofChange domMeetsSpec)

/-- ITS FALSE NEIGHBOUR: 'it returns false'. Refute it at one input. -/
def domMeetsWrong : ChangeSpec := { name := "domMeets", fn := fun _ => fun
  | [d] => { results := [.lit (.bool false)], args := [d] }
  | _ => none }
def DomMeetsWrongFalsely : Prop := domMeetsRow.holds Try.pinned (OpenSpec.ofChange domMeetsWrong)

/- THE SECOND FORM. 'bulk': how many values and letters a reading holds, each counted each time it is reached (what is shared counts as often as it is met; a slice's spare places count too). A statement '..UptoSaid' is the law's where the arguments, and the package variables that the reading takes, are together of bulk at most 1048576: NARROWER than '..Said'. Prove '..Said' where nothing that the law and all that it calls make is longer than what came in: it says more and counts as full. Else prove '..UptoSaid'. A law counts once. -/
mutual
def uptoBulk {H : Type} : DataW H → Nat
  | .lit (.string bytes) => bytes.length + 1
  | .lit _ => 1
  | .nil => 1
  | .ptr d => uptoBulk d + 1
  | .slice elems spare => uptoBulkAll elems + uptoBulkAll spare + 1
  | .agg parts => uptoBulkAll parts + 1
  | .iface _ d => uptoBulk d + 1
  | .map entries => uptoBulkEntries entries + 1
  | .held _ => 1
def uptoBulkAll {H : Type} : List (DataW H) → Nat
  | [] => 0
  | d :: r => uptoBulk d + uptoBulkAll r
def uptoBulkEntries {H : Type} : List (Lit × DataW H) → Nat
  | [] => 0
  | x :: r => uptoBulkEntry x + uptoBulkEntries r
def uptoBulkEntry {H : Type} : Lit × DataW H → Nat
  | (.string bytes, d) => bytes.length + uptoBulk d + 1
  | (_, d) => uptoBulk d + 1
 end
def uptoSmall : (H : Type) → List (DataW H) → Bool := fun _ ds => decide (uptoBulkAll ds ≤ 1048576)
def OpenSpec.upto (s : _root_.Go.ChangeSpec) : _root_.Go.OpenSpec := { _root_.Go.OpenSpec.ofChange s with cond := some uptoSmall }

/-- 'truantlaw09.FlowExact', WHERE WHAT IT READS IS OF BULK AT MOST 1048576: true; the input reads as it did. -/
def flowExactUptoRow : OpenClaim := { program := "ytclhjalgflebfaa", sum := "45e6300ac478f3c5e90060cae1c859644d45dd59135f835673a8ee81bfcc8992", func := "truant/truantlaw09.FlowExact", spec := "flowExact", unfollowed := true, recurses := true, apart := false, narrowed := true }
def FlowExactUptoSaid : Prop := flowExactUptoRow.holds Try.pinned (OpenSpec.upto flowExactSpec)

/-- 'truantlaw09.FlowWhere', WHERE WHAT IT READS IS OF BULK AT MOST 1048576: true; the input reads as it did. -/
def flowWhereUptoRow : OpenClaim := { program := "ytclhjalgflebfaa", sum := "45e6300ac478f3c5e90060cae1c859644d45dd59135f835673a8ee81bfcc8992", func := "truant/truantlaw09.FlowWhere", spec := "flowWhere", unfollowed := true, recurses := true, apart := false, narrowed := true }
def FlowWhereUptoSaid : Prop := flowWhereUptoRow.holds Try.pinned (OpenSpec.upto flowWhereSpec)

/-- 'truantlaw09.FlowOrder', WHERE WHAT IT READS IS OF BULK AT MOST 1048576: true; the input reads as it did. -/
def flowOrderUptoRow : OpenClaim := { program := "ytclhjalgflebfaa", sum := "45e6300ac478f3c5e90060cae1c859644d45dd59135f835673a8ee81bfcc8992", func := "truant/truantlaw09.FlowOrder", spec := "flowOrder", unfollowed := true, recurses := true, apart := false, narrowed := true }
def FlowOrderUptoSaid : Prop := flowOrderUptoRow.holds Try.pinned (OpenSpec.upto flowOrderSpec)

/-- 'truantlaw09.FlowTurned', WHERE WHAT IT READS IS OF BULK AT MOST 1048576: true; the input reads as it did. -/
def flowTurnedUptoRow : OpenClaim := { program := "ytclhjalgflebfaa", sum := "45e6300ac478f3c5e90060cae1c859644d45dd59135f835673a8ee81bfcc8992", func := "truant/truantlaw09.FlowTurned", spec := "flowTurned", unfollowed := true, recurses := true, apart := false, narrowed := true }
def FlowTurnedUptoSaid : Prop := flowTurnedUptoRow.holds Try.pinned (OpenSpec.upto flowTurnedSpec)

/-- 'truantlaw20.SccExact', WHERE WHAT IT READS IS OF BULK AT MOST 1048576: true; the input reads as it did. -/
def sccExactUptoRow : OpenClaim := { program := "ytclhjalgflebfaa", sum := "45e6300ac478f3c5e90060cae1c859644d45dd59135f835673a8ee81bfcc8992", func := "truant/truantlaw20.SccExact", spec := "sccExact", unfollowed := true, recurses := true, apart := false, narrowed := true }
def SccExactUptoSaid : Prop := sccExactUptoRow.holds Try.pinned (OpenSpec.upto sccExactSpec)

/-- 'truantlaw20.SccOrder', WHERE WHAT IT READS IS OF BULK AT MOST 1048576: true; the input reads as it did. -/
def sccOrderUptoRow : OpenClaim := { program := "ytclhjalgflebfaa", sum := "45e6300ac478f3c5e90060cae1c859644d45dd59135f835673a8ee81bfcc8992", func := "truant/truantlaw20.SccOrder", spec := "sccOrder", unfollowed := true, recurses := true, apart := false, narrowed := true }
def SccOrderUptoSaid : Prop := sccOrderUptoRow.holds Try.pinned (OpenSpec.upto sccOrderSpec)

/-- 'truantlaw20.SccMore', WHERE WHAT IT READS IS OF BULK AT MOST 1048576: true; the input reads as it did. -/
def sccMoreUptoRow : OpenClaim := { program := "ytclhjalgflebfaa", sum := "45e6300ac478f3c5e90060cae1c859644d45dd59135f835673a8ee81bfcc8992", func := "truant/truantlaw20.SccMore", spec := "sccMore", unfollowed := true, recurses := true, apart := false, narrowed := true }
def SccMoreUptoSaid : Prop := sccMoreUptoRow.holds Try.pinned (OpenSpec.upto sccMoreSpec)

/-- 'truantlaw10.DomExact', WHERE WHAT IT READS IS OF BULK AT MOST 1048576: true; the input reads as it did. -/
def domExactUptoRow : OpenClaim := { program := "ytclhjalgflebfaa", sum := "45e6300ac478f3c5e90060cae1c859644d45dd59135f835673a8ee81bfcc8992", func := "truant/truantlaw10.DomExact", spec := "domExact", unfollowed := true, recurses := true, apart := false, narrowed := true }
def DomExactUptoSaid : Prop := domExactUptoRow.holds Try.pinned (OpenSpec.upto domExactSpec)

/-- 'truantlaw10.DomFronts', WHERE WHAT IT READS IS OF BULK AT MOST 1048576: true; the input reads as it did. -/
def domFrontsUptoRow : OpenClaim := { program := "ytclhjalgflebfaa", sum := "45e6300ac478f3c5e90060cae1c859644d45dd59135f835673a8ee81bfcc8992", func := "truant/truantlaw10.DomFronts", spec := "domFronts", unfollowed := true, recurses := true, apart := false, narrowed := true }
def DomFrontsUptoSaid : Prop := domFrontsUptoRow.holds Try.pinned (OpenSpec.upto domFrontsSpec)

/-- 'truantlaw10.DomChain', WHERE WHAT IT READS IS OF BULK AT MOST 1048576: true; the input reads as it did. -/
def domChainUptoRow : OpenClaim := { program := "ytclhjalgflebfaa", sum := "45e6300ac478f3c5e90060cae1c859644d45dd59135f835673a8ee81bfcc8992", func := "truant/truantlaw10.DomChain", spec := "domChain", unfollowed := true, recurses := true, apart := false, narrowed := true }
def DomChainUptoSaid : Prop := domChainUptoRow.holds Try.pinned (OpenSpec.upto domChainSpec)

/-- 'truantlaw10.DomMeets', WHERE WHAT IT READS IS OF BULK AT MOST 1048576: true; the input reads as it did. -/
def domMeetsUptoRow : OpenClaim := { program := "ytclhjalgflebfaa", sum := "45e6300ac478f3c5e90060cae1c859644d45dd59135f835673a8ee81bfcc8992", func := "truant/truantlaw10.DomMeets", spec := "domMeets", unfollowed := true, recurses := true, apart := false, narrowed := true }
def DomMeetsUptoSaid : Prop := domMeetsUptoRow.holds Try.pinned (OpenSpec.upto domMeetsSpec)

end Rows
end Go.Proofs.Ytclhjalgflebfaa
