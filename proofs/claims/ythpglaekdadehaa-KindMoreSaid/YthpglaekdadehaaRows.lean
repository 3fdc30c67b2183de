/-
  No cell of these rows narrows 'for every input' (looked for: loops, veiled, ifaces, maps, wideKeys, modest, calm, conditions, laid).
  DERIVED. THE GIVEN ROWS OF THIS SEAT. 4 by the template 'for every input the law returns true; each argument reads behind the call as it read before'; 0 by the template 'total and deterministic' (their statements: YthpglaekdadehaaTotals.lean).
  GIVEN WITH THE SEED: the statements are not yours to turn. If you find one false, say at which input.
  Laid BY PROGRAM, IN A SANDBOX (cutbox-rows.mjs): the forced cells as the released guide's own fill.sh prints them over the translation b741bddf10e5dd1a… (all of the seat's roots in one cut). By AI agents, Wed Nov 11 2026. No macro, syntax, notation, axiom, sorry.
-/
import Derived.Test.YthpglaekdadehaaChecked
import GoSem.Claim
import GoSem.ClaimJoined
import GoSem.ClaimMapViews
import Derived.JoinedTies
import Derived.KernelRfl
namespace Go.Proofs.Ythpglaekdadehaa
/- THE CELL 'sum', in the pinned program and in every row, IS THE sha256 OF THE DUMP (.gsa) THAT YthpglaekdadehaaProg.lean LOADS. Nothing in Lean hashes anything: it is a label: what it is worth is what the hold of that sum in a sandbox is worth. -/
noncomputable def Try.pinned : Pinned := { name := "ythpglaekdadehaa", sum := "b741bddf10e5dd1ac09f7d74f3f2cf42725edf057670f043cc84e5605307f59a", checked := Try.checked }
namespace Rows
def none {H : Type} : Left H := { results := [], args := [] }

/-- 'truantlaw03.KindExact': WHATEVER THE INPUT: true; the input reads as it did. -/
def kindExactSpec : ChangeSpec := { name := "kindExact", fn := fun _ => fun
  | [d1, d2, d3] => { results := [.lit (.bool true)], args := [d1, d2, d3] }
  | _ => none }
def kindExactRow : OpenClaim := { program := "ythpglaekdadehaa", sum := "b741bddf10e5dd1ac09f7d74f3f2cf42725edf057670f043cc84e5605307f59a", func := "truant/truantlaw03.KindExact", spec := "kindExact", unfollowed := true, recurses := true, apart := false }
def KindExactSaid : Prop := kindExactRow.holds Try.pinned (OpenSpec.ofChange kindExactSpec)

/-- ITS FALSE NEIGHBOUR: 'it returns false'. Refute it at one input. -/
def kindExactWrong : ChangeSpec := { name := "kindExact", fn := fun _ => fun
  | [d1, d2, d3] => { results := [.lit (.bool false)], args := [d1, d2, d3] }
  | _ => none }
def KindExactWrongFalsely : Prop := kindExactRow.holds Try.pinned (OpenSpec.ofChange kindExactWrong)

/-- 'truantlaw03.KindFields': WHATEVER THE INPUT: true; the input reads as it did. -/
def kindFieldsSpec : ChangeSpec := { name := "kindFields", fn := fun _ => fun
  | [d1, d2, d3] => { results := [.lit (.bool true)], args := [d1, d2, d3] }
  | _ => none }
def kindFieldsRow : OpenClaim := { program := "ythpglaekdadehaa", sum := "b741bddf10e5dd1ac09f7d74f3f2cf42725edf057670f043cc84e5605307f59a", func := "truant/truantlaw03.KindFields", spec := "kindFields", unfollowed := true, recurses := true, apart := false }
def KindFieldsSaid : Prop := kindFieldsRow.holds Try.pinned (OpenSpec.ofChange kindFieldsSpec)

/-- ITS FALSE NEIGHBOUR: 'it returns false'. Refute it at one input. -/
def kindFieldsWrong : ChangeSpec := { name := "kindFields", fn := fun _ => fun
  | [d1, d2, d3] => { results := [.lit (.bool false)], args := [d1, d2, d3] }
  | _ => none }
def KindFieldsWrongFalsely : Prop := kindFieldsRow.holds Try.pinned (OpenSpec.ofChange kindFieldsWrong)

/-- 'truantlaw03.KindReach': WHATEVER THE INPUT: true; the input reads as it did. -/
def kindReachSpec : ChangeSpec := { name := "kindReach", fn := fun _ => fun
  | [d] => { results := [.lit (.bool true)], args := [d] }
  | _ => none }
def kindReachRow : OpenClaim := { program := "ythpglaekdadehaa", sum := "b741bddf10e5dd1ac09f7d74f3f2cf42725edf057670f043cc84e5605307f59a", func := "truant/truantlaw03.KindReach", spec := "kindReach", unfollowed := true, recurses := true, apart := false }
def KindReachSaid : Prop := kindReachRow.holds Try.pinned (OpenSpec.ofChange kindReachSpec)

/-- ITS FALSE NEIGHBOUR: 'it returns false'. Refute it at one input. -/
def kindReachWrong : ChangeSpec := { name := "kindReach", fn := fun _ => fun
  | [d] => { results := [.lit (.bool false)], args := [d] }
  | _ => none }
def KindReachWrongFalsely : Prop := kindReachRow.holds Try.pinned (OpenSpec.ofChange kindReachWrong)

/-- 'truantlaw03.KindMore': WHATEVER THE INPUT: true; the input reads as it did. -/
def kindMoreSpec : ChangeSpec := { name := "kindMore", fn := fun _ => fun
  | [d1, d2, d3] => { results := [.lit (.bool true)], args := [d1, d2, d3] }
  | _ => none }
def kindMoreRow : OpenClaim := { program := "ythpglaekdadehaa", sum := "b741bddf10e5dd1ac09f7d74f3f2cf42725edf057670f043cc84e5605307f59a", func := "truant/truantlaw03.KindMore", spec := "kindMore", unfollowed := true, recurses := true, apart := false }
def KindMoreSaid : Prop := kindMoreRow.holds Try.pinned (OpenSpec.ofChange kindMoreSpec)

/-- ITS FALSE NEIGHBOUR: 'it returns false'. Refute it at one input. -/
def kindMoreWrong : ChangeSpec := { name := "kindMore", fn := fun _ => fun
  | [d1, d2, d3] => { results := [.lit (.bool false)], args := [d1, d2, d3] }
  | _ => none }
def KindMoreWrongFalsely : Prop := kindMoreRow.holds Try.pinned (OpenSpec.ofChange kindMoreWrong)

/- THE SECOND FORM. 'bulk': how many values and letters a reading holds, each counted each time it is reached (what is shared counts as often as it is met; a slice's spare places count too). A statement '..UptoSaid' is the law's where the arguments, and the package variables that the reading takes, are together of bulk at most 1048576: NARROWER than '..Said'. Prove '..Said' where nothing that the law and all that it calls make is longer than what came in: it says more and counts as full. Else prove '..UptoSaid'. A law counts once. -/
mutual
def uptoBulk {H : Type} : DataW H → Nat
  | .lit (.string bytes) => bytes.length + 1
  | .lit _ => 1
  | .nil => 1
  | .ptr d => uptoBulk d + 1
  | .slice elems spare => uptoBulkAll elems + uptoBulkAll spare + 1
  | .agg parts => uptoBulkAll parts + 1
  | .iface _ d => uptoBulk d + 1
  | .map entries => uptoBulkEntries entries + 1
  | .held _ => 1
def uptoBulkAll {H : Type} : List (DataW H) → Nat
  | [] => 0
  | d :: r => uptoBulk d + uptoBulkAll r
def uptoBulkEntries {H : Type} : List (Lit × DataW H) → Nat
  | [] => 0
  | x :: r => uptoBulkEntry x + uptoBulkEntries r
def uptoBulkEntry {H : Type} : Lit × DataW H → Nat
  | (.string bytes, d) => bytes.length + uptoBulk d + 1
  | (_, d) => uptoBulk d + 1
 end
def uptoSmall : (H : Type) → List (DataW H) → Bool := fun _ ds => decide (uptoBulkAll ds ≤ 1048576)
def OpenSpec.upto (s : _root_.Go.ChangeSpec) : _root_.Go.OpenSpec := { _root_.Go.OpenSpec.ofChange s with cond := some uptoSmall }

/-- 'truantlaw03.KindExact', WHERE WHAT IT READS IS OF BULK AT MOST 1048576: true; the input reads as it did. -/
def kindExactUptoRow : OpenClaim := { program := "ythpglaekdadehaa", sum := "b741bddf10e5dd1ac09f7d74f3f2cf42725edf057670f043cc84e5605307f59a", func := "truant/truantlaw03.KindExact", spec := "kindExact", unfollowed := true, recurses := true, apart := false, narrowed := true }
def KindExactUptoSaid : Prop := kindExactUptoRow.holds Try.pinned (OpenSpec.upto kindExactSpec)

/-- 'truantlaw03.KindFields', WHERE WHAT IT READS IS OF BULK AT MOST 1048576: true; the input reads as it did. -/
def kindFieldsUptoRow : OpenClaim := { program := "ythpglaekdadehaa", sum := "b741bddf10e5dd1ac09f7d74f3f2cf42725edf057670f043cc84e5605307f59a", func := "truant/truantlaw03.KindFields", spec := "kindFields", unfollowed := true, recurses := true, apart := false, narrowed := true }
def KindFieldsUptoSaid : Prop := kindFieldsUptoRow.holds Try.pinned (OpenSpec.upto kindFieldsSpec)

/-- 'truantlaw03.KindReach', WHERE WHAT IT READS IS OF BULK AT MOST 1048576: true; the input reads as it did. -/
def kindReachUptoRow : OpenClaim := { program := "ythpglaekdadehaa", sum := "b741bddf10e5dd1ac09f7d74f3f2cf42725edf057670f043cc84e5605307f59a", func := "truant/truantlaw03.KindReach", spec := "kindReach", unfollowed := true, recurses := true, apart := false, narrowed := true }
def KindReachUptoSaid : Prop := kindReachUptoRow.holds Try.pinned (OpenSpec.upto kindReachSpec)

/-- 'truantlaw03.KindMore', WHERE WHAT IT READS IS OF BULK AT MOST 1048576: true; the input reads as it did. -/
def kindMoreUptoRow : OpenClaim := { program := "ythpglaekdadehaa", sum := "b741bddf10e5dd1ac09f7d74f3f2cf42725edf057670f043cc84e5605307f59a", func := "truant/truantlaw03.KindMore", spec := "kindMore", unfollowed := true, recurses := true, apart := false, narrowed := true }
def KindMoreUptoSaid : Prop := kindMoreUptoRow.holds Try.pinned (OpenSpec.upto kindMoreSpec)

end Rows
end Go.Proofs.Ythpglaekdadehaa
