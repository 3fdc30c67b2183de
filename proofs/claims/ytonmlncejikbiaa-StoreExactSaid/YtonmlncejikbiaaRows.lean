/-
  No cell of these rows narrows 'for every input' (looked for: loops, veiled, ifaces, maps, wideKeys, modest, calm, conditions, laid).
  DERIVED. THE GIVEN ROWS OF THIS SEAT. 10 by the template 'for every input the law returns true; each argument reads behind the call as it read before'; 0 by the template 'total and deterministic' (their statements: YtonmlncejikbiaaTotals.lean).
  GIVEN WITH THE SEED: the statements are not yours to turn. If you find one false, say at which input.
  Laid BY PROGRAM, IN A SANDBOX (cutbox-rows.mjs): the forced cells as the released guide's own fill.sh prints them over the translation 0143c40009d23ece… (all of the seat's roots in one cut). By AI agents, Wed Nov 11 2026. No macro, syntax, notation, axiom, sorry.
-/
import Derived.Test.YtonmlncejikbiaaChecked
import GoSem.Claim
import GoSem.ClaimJoined
import GoSem.ClaimMapViews
import Derived.JoinedTies
import Derived.KernelRfl
namespace Go.Proofs.Ytonmlncejikbiaa
/- THE CELL 'sum', in the pinned program and in every row, IS THE sha256 OF THE DUMP (.gsa) THAT YtonmlncejikbiaaProg.lean LOADS. Nothing in Lean hashes anything: it is a label: what it is worth is what the hold of that sum in a sandbox is worth. -/
noncomputable def Try.pinned : Pinned := { name := "ytonmlncejikbiaa", sum := "0143c40009d23ece6ce23f8812bc7c01f7e050a33d62f667640f9a70f510faa8", checked := Try.checked }
namespace Rows
def none {H : Type} : Left H := { results := [], args := [] }

/-- 'truantlaw03.KindExact': WHATEVER THE INPUT: true; the input reads as it did. -/
def kindExactSpec : ChangeSpec := { name := "kindExact", fn := fun _ => fun
  | [d1, d2, d3] => { results := [.lit (.bool true)], args := [d1, d2, d3] }
  | _ => none }
def kindExactRow : OpenClaim := { program := "ytonmlncejikbiaa", sum := "0143c40009d23ece6ce23f8812bc7c01f7e050a33d62f667640f9a70f510faa8", func := "truant/truantlaw03.KindExact", spec := "kindExact", unfollowed := true, recurses := true, apart := false }
def KindExactSaid : Prop := kindExactRow.holds Try.pinned (OpenSpec.ofChange kindExactSpec)

/-- ITS FALSE NEIGHBOUR: 'it returns false'. Refute it at one input. -/
def kindExactWrong : ChangeSpec := { name := "kindExact", fn := fun _ => fun
  | [d1, d2, d3] => { results := [.lit (.bool false)], args := [d1, d2, d3] }
  | _ => none }
def KindExactWrongFalsely : Prop := kindExactRow.holds Try.pinned (OpenSpec.ofChange kindExactWrong)

/-- 'truantlaw03.KindFields': WHATEVER THE INPUT: true; the input reads as it did. -/
def kindFieldsSpec : ChangeSpec := { name := "kindFields", fn := fun _ => fun
  | [d1, d2, d3] => { results := [.lit (.bool true)], args := [d1, d2, d3] }
  | _ => none }
def kindFieldsRow : OpenClaim := { program := "ytonmlncejikbiaa", sum := "0143c40009d23ece6ce23f8812bc7c01f7e050a33d62f667640f9a70f510faa8", func := "truant/truantlaw03.KindFields", spec := "kindFields", unfollowed := true, recurses := true, apart := false }
def KindFieldsSaid : Prop := kindFieldsRow.holds Try.pinned (OpenSpec.ofChange kindFieldsSpec)

/-- ITS FALSE NEIGHBOUR: 'it returns false'. Refute it at one input. -/
def kindFieldsWrong : ChangeSpec := { name := "kindFields", fn := fun _ => fun
  | [d1, d2, d3] => { results := [.lit (.bool false)], args := [d1, d2, d3] }
  | _ => none }
def KindFieldsWrongFalsely : Prop := kindFieldsRow.holds Try.pinned (OpenSpec.ofChange kindFieldsWrong)

/-- 'truantlaw03.KindReach': WHATEVER THE INPUT: true; the input reads as it did. -/
def kindReachSpec : ChangeSpec := { name := "kindReach", fn := fun _ => fun
  | [d] => { results := [.lit (.bool true)], args := [d] }
  | _ => none }
def kindReachRow : OpenClaim := { program := "ytonmlncejikbiaa", sum := "0143c40009d23ece6ce23f8812bc7c01f7e050a33d62f667640f9a70f510faa8", func := "truant/truantlaw03.KindReach", spec := "kindReach", unfollowed := true, recurses := true, apart := false }
def KindReachSaid : Prop := kindReachRow.holds Try.pinned (OpenSpec.ofChange kindReachSpec)

/-- ITS FALSE NEIGHBOUR: 'it returns false'. Refute it at one input. -/
def kindReachWrong : ChangeSpec := { name := "kindReach", fn := fun _ => fun
  | [d] => { results := [.lit (.bool false)], args := [d] }
  | _ => none }
def KindReachWrongFalsely : Prop := kindReachRow.holds Try.pinned (OpenSpec.ofChange kindReachWrong)

/-- 'truantlaw03.KindMore': WHATEVER THE INPUT: true; the input reads as it did. -/
def kindMoreSpec : ChangeSpec := { name := "kindMore", fn := fun _ => fun
  | [d1, d2, d3] => { results := [.lit (.bool true)], args := [d1, d2, d3] }
  | _ => none }
def kindMoreRow : OpenClaim := { program := "ytonmlncejikbiaa", sum := "0143c40009d23ece6ce23f8812bc7c01f7e050a33d62f667640f9a70f510faa8", func := "truant/truantlaw03.KindMore", spec := "kindMore", unfollowed := true, recurses := true, apart := false }
def KindMoreSaid : Prop := kindMoreRow.holds Try.pinned (OpenSpec.ofChange kindMoreSpec)

/-- ITS FALSE NEIGHBOUR: 'it returns false'. Refute it at one input. -/
def kindMoreWrong : ChangeSpec := { name := "kindMore", fn := fun _ => fun
  | [d1, d2, d3] => { results := [.lit (.bool false)], args := [d1, d2, d3] }
  | _ => none }
def KindMoreWrongFalsely : Prop := kindMoreRow.holds Try.pinned (OpenSpec.ofChange kindMoreWrong)

/-- 'truantlaw06.HeapReach': WHATEVER THE INPUT: true; the input reads as it did. -/
def heapReachSpec : ChangeSpec := { name := "heapReach", fn := fun _ => fun
  | [d1, d2, d3, d4, d5] => { results := [.lit (.bool true)], args := [d1, d2, d3, d4, d5] }
  | _ => none }
def heapReachRow : OpenClaim := { program := "ytonmlncejikbiaa", sum := "0143c40009d23ece6ce23f8812bc7c01f7e050a33d62f667640f9a70f510faa8", func := "truant/truantlaw06.HeapReach", spec := "heapReach", unfollowed := true, recurses := true, apart := false }
def HeapReachSaid : Prop := heapReachRow.holds Try.pinned (OpenSpec.ofChange heapReachSpec)

/-- ITS FALSE NEIGHBOUR: 'it returns false'. Refute it at one input. -/
def heapReachWrong : ChangeSpec := { name := "heapReach", fn := fun _ => fun
  | [d1, d2, d3, d4, d5] => { results := [.lit (.bool false)], args := [d1, d2, d3, d4, d5] }
  | _ => none }
def HeapReachWrongFalsely : Prop := heapReachRow.holds Try.pinned (OpenSpec.ofChange heapReachWrong)

/-- 'truantlaw06.HeapExact': WHATEVER THE INPUT: true; the input reads as it did. -/
def heapExactSpec : ChangeSpec := { name := "heapExact", fn := fun _ => fun
  | [d1, d2, d3] => { results := [.lit (.bool true)], args := [d1, d2, d3] }
  | _ => none }
def heapExactRow : OpenClaim := { program := "ytonmlncejikbiaa", sum := "0143c40009d23ece6ce23f8812bc7c01f7e050a33d62f667640f9a70f510faa8", func := "truant/truantlaw06.HeapExact", spec := "heapExact", unfollowed := true, recurses := true, apart := false }
def HeapExactSaid : Prop := heapExactRow.holds Try.pinned (OpenSpec.ofChange heapExactSpec)

/-- ITS FALSE NEIGHBOUR: 'it returns false'. Refute it at one input. -/
def heapExactWrong : ChangeSpec := { name := "heapExact", fn := fun _ => fun
  | [d1, d2, d3] => { results := [.lit (.bool false)], args := [d1, d2, d3] }
  | _ => none }
def HeapExactWrongFalsely : Prop := heapExactRow.holds Try.pinned (OpenSpec.ofChange heapExactWrong)

/-- 'truantlaw06.HeapKeeps': WHATEVER THE INPUT: true; the input reads as it did. -/
def heapKeepsSpec : ChangeSpec := { name := "heapKeeps", fn := fun _ => fun
  | [d1, d2, d3, d4, d5] => { results := [.lit (.bool true)], args := [d1, d2, d3, d4, d5] }
  | _ => none }
def heapKeepsRow : OpenClaim := { program := "ytonmlncejikbiaa", sum := "0143c40009d23ece6ce23f8812bc7c01f7e050a33d62f667640f9a70f510faa8", func := "truant/truantlaw06.HeapKeeps", spec := "heapKeeps", unfollowed := true, recurses := true, apart := false }
def HeapKeepsSaid : Prop := heapKeepsRow.holds Try.pinned (OpenSpec.ofChange heapKeepsSpec)

/-- ITS FALSE NEIGHBOUR: 'it returns false'. Refute it at one input. -/
def heapKeepsWrong : ChangeSpec := { name := "heapKeeps", fn := fun _ => fun
  | [d1, d2, d3, d4, d5] => { results := [.lit (.bool false)], args := [d1, d2, d3, d4, d5] }
  | _ => none }
def HeapKeepsWrongFalsely : Prop := heapKeepsRow.holds Try.pinned (OpenSpec.ofChange heapKeepsWrong)

/-- 'truantlaw12.StoreExact': WHATEVER THE INPUT: true; the input reads as it did. -/
def storeExactSpec : ChangeSpec := { name := "storeExact", fn := fun _ => fun
  | [d1, d2, d3] => { results := [.lit (.bool true)], args := [d1, d2, d3] }
  | _ => none }
def storeExactRow : OpenClaim := { program := "ytonmlncejikbiaa", sum := "0143c40009d23ece6ce23f8812bc7c01f7e050a33d62f667640f9a70f510faa8", func := "truant/truantlaw12.StoreExact", spec := "storeExact", unfollowed := true, recurses := true, apart := false }
def StoreExactSaid : Prop := storeExactRow.holds Try.pinned (OpenSpec.ofChange storeExactSpec)

/-- ITS FALSE NEIGHBOUR: 'it returns false'. Refute it at one input. -/
def storeExactWrong : ChangeSpec := { name := "storeExact", fn := fun _ => fun
  | [d1, d2, d3] => { results := [.lit (.bool false)], args := [d1, d2, d3] }
  | _ => none }
def StoreExactWrongFalsely : Prop := storeExactRow.holds Try.pinned (OpenSpec.ofChange storeExactWrong)

/-- 'truantlaw12.StoreFrees': WHATEVER THE INPUT: true; the input reads as it did. -/
def storeFreesSpec : ChangeSpec := { name := "storeFrees", fn := fun _ => fun
  | [d1, d2] => { results := [.lit (.bool true)], args := [d1, d2] }
  | _ => none }
def storeFreesRow : OpenClaim := { program := "ytonmlncejikbiaa", sum := "0143c40009d23ece6ce23f8812bc7c01f7e050a33d62f667640f9a70f510faa8", func := "truant/truantlaw12.StoreFrees", spec := "storeFrees", unfollowed := true, recurses := true, apart := false }
def StoreFreesSaid : Prop := storeFreesRow.holds Try.pinned (OpenSpec.ofChange storeFreesSpec)

/-- ITS FALSE NEIGHBOUR: 'it returns false'. Refute it at one input. -/
def storeFreesWrong : ChangeSpec := { name := "storeFrees", fn := fun _ => fun
  | [d1, d2] => { results := [.lit (.bool false)], args := [d1, d2] }
  | _ => none }
def StoreFreesWrongFalsely : Prop := storeFreesRow.holds Try.pinned (OpenSpec.ofChange storeFreesWrong)

/-- 'truantlaw12.StoreKeeps': WHATEVER THE INPUT: true; the input reads as it did. -/
def storeKeepsSpec : ChangeSpec := { name := "storeKeeps", fn := fun _ => fun
  | [d1, d2, d3, d4, d5] => { results := [.lit (.bool true)], args := [d1, d2, d3, d4, d5] }
  | _ => none }
def storeKeepsRow : OpenClaim := { program := "ytonmlncejikbiaa", sum := "0143c40009d23ece6ce23f8812bc7c01f7e050a33d62f667640f9a70f510faa8", func := "truant/truantlaw12.StoreKeeps", spec := "storeKeeps", unfollowed := true, recurses := true, apart := false }
def StoreKeepsSaid : Prop := storeKeepsRow.holds Try.pinned (OpenSpec.ofChange storeKeepsSpec)

/-- ITS FALSE NEIGHBOUR: 'it returns false'. Refute it at one input. -/
def storeKeepsWrong : ChangeSpec := { name := "storeKeeps", fn := fun _ => fun
  | [d1, d2, d3, d4, d5] => { results := [.lit (.bool false)], args := [d1, d2, d3, d4, d5] }
  | _ => none }
def StoreKeepsWrongFalsely : Prop := storeKeepsRow.holds Try.pinned (OpenSpec.ofChange storeKeepsWrong)

/- THE SECOND FORM. 'bulk': how many values and letters a reading holds, each counted each time it is reached (what is shared counts as often as it is met; a slice's spare places count too). A statement '..UptoSaid' is the law's where the arguments, and the package variables that the reading takes, are together of bulk at most 1048576: NARROWER than '..Said'. Prove '..Said' where nothing that the law and all that it calls make is longer than what came in: it says more and counts as full. Else prove '..UptoSaid'. A law counts once. -/
mutual
def uptoBulk {H : Type} : DataW H → Nat
  | .lit (.string bytes) => bytes.length + 1
  | .lit _ => 1
  | .nil => 1
  | .ptr d => uptoBulk d + 1
  | .slice elems spare => uptoBulkAll elems + uptoBulkAll spare + 1
  | .agg parts => uptoBulkAll parts + 1
  | .iface _ d => uptoBulk d + 1
  | .map entries => uptoBulkEntries entries + 1
  | .held _ => 1
def uptoBulkAll {H : Type} : List (DataW H) → Nat
  | [] => 0
  | d :: r => uptoBulk d + uptoBulkAll r
def uptoBulkEntries {H : Type} : List (Lit × DataW H) → Nat
  | [] => 0
  | x :: r => uptoBulkEntry x + uptoBulkEntries r
def uptoBulkEntry {H : Type} : Lit × DataW H → Nat
  | (.string bytes, d) => bytes.length + uptoBulk d + 1
  | (_, d) => uptoBulk d + 1
 end
def uptoSmall : (H : Type) → List (DataW H) → Bool := fun _ ds => decide (uptoBulkAll ds ≤ 1048576)
def OpenSpec.upto (s : _root_.Go.ChangeSpec) : _root_.Go.OpenSpec := { _root_.Go.OpenSpec.ofChange s with cond := some uptoSmall }

/-- 'truantlaw03.KindExact', WHERE WHAT IT READS IS OF BULK AT MOST 1048576: true; the input reads as it did. -/
def kindExactUptoRow : OpenClaim := { program := "ytonmlncejikbiaa", sum := "0143c40009d23ece6ce23f8812bc7c01f7e050a33d62f667640f9a70f510faa8", func := "truant/truantlaw03.KindExact", spec := "kindExact", unfollowed := true, recurses := true, apart := false, narrowed := true }
def KindExactUptoSaid : Prop := kindExactUptoRow.holds Try.pinned (OpenSpec.upto kindExactSpec)

/-- 'truantlaw03.KindFields', WHERE WHAT IT READS IS OF BULK AT MOST 1048576: true; the input reads as it did. -/
def kindFieldsUptoRow : OpenClaim := { program := "ytonmlncejikbiaa", sum := "0143c40009d23ece6ce23f8812bc7c01f7e050a33d62f667640f9a70f510faa8", func := "truant/truantlaw03.KindFields", spec := "kindFields", unfollowed := true, recurses := true, apart := false, narrowed := true }
def KindFieldsUptoSaid : Prop := kindFieldsUptoRow.holds Try.pinned (OpenSpec.upto kindFieldsSpec)

/-- 'truantlaw03.KindReach', WHERE WHAT IT READS IS OF BULK AT MOST 1048576: true; the input reads as it did. -/
def kindReachUptoRow : OpenClaim := { program := "ytonmlncejikbiaa", sum := "0143c40009d23ece6ce23f8812bc7c01f7e050a33d62f667640f9a70f510faa8", func := "truant/truantlaw03.KindReach", spec := "kindReach", unfollowed := true, recurses := true, apart := false, narrowed := true }
def KindReachUptoSaid : Prop := kindReachUptoRow.holds Try.pinned (OpenSpec.upto kindReachSpec)

/-- 'truantlaw03.KindMore', WHERE WHAT IT READS IS OF BULK AT MOST 1048576: true; the input reads as it did. -/
def kindMoreUptoRow : OpenClaim := { program := "ytonmlncejikbiaa", sum := "0143c40009d23ece6ce23f8812bc7c01f7e050a33d62f667640f9a70f510faa8", func := "truant/truantlaw03.KindMore", spec := "kindMore", unfollowed := true, recurses := true, apart := false, narrowed := true }
def KindMoreUptoSaid : Prop := kindMoreUptoRow.holds Try.pinned (OpenSpec.upto kindMoreSpec)

/-- 'truantlaw06.HeapReach', WHERE WHAT IT READS IS OF BULK AT MOST 1048576: true; the input reads as it did. -/
def heapReachUptoRow : OpenClaim := { program := "ytonmlncejikbiaa", sum := "0143c40009d23ece6ce23f8812bc7c01f7e050a33d62f667640f9a70f510faa8", func := "truant/truantlaw06.HeapReach", spec := "heapReach", unfollowed := true, recurses := true, apart := false, narrowed := true }
def HeapReachUptoSaid : Prop := heapReachUptoRow.holds Try.pinned (OpenSpec.upto heapReachSpec)

/-- 'truantlaw06.HeapExact', WHERE WHAT IT READS IS OF BULK AT MOST 1048576: true; the input reads as it did. -/
def heapExactUptoRow : OpenClaim := { program := "ytonmlncejikbiaa", sum := "0143c40009d23ece6ce23f8812bc7c01f7e050a33d62f667640f9a70f510faa8", func := "truant/truantlaw06.HeapExact", spec := "heapExact", unfollowed := true, recurses := true, apart := false, narrowed := true }
def HeapExactUptoSaid : Prop := heapExactUptoRow.holds Try.pinned (OpenSpec.upto heapExactSpec)

/-- 'truantlaw06.HeapKeeps', WHERE WHAT IT READS IS OF BULK AT MOST 1048576: true; the input reads as it did. -/
def heapKeepsUptoRow : OpenClaim := { program := "ytonmlncejikbiaa", sum := "0143c40009d23ece6ce23f8812bc7c01f7e050a33d62f667640f9a70f510faa8", func := "truant/truantlaw06.HeapKeeps", spec := "heapKeeps", unfollowed := true, recurses := true, apart := false, narrowed := true }
def HeapKeepsUptoSaid : Prop := heapKeepsUptoRow.holds Try.pinned (OpenSpec.upto heapKeepsSpec)

/-- 'truantlaw12.StoreExact', WHERE WHAT IT READS IS OF BULK AT MOST 1048576: true; the input reads as it did. -/
def storeExactUptoRow : OpenClaim := { program := "ytonmlncejikbiaa", sum := "0143c40009d23ece6ce23f8812bc7c01f7e050a33d62f667640f9a70f510faa8", func := "truant/truantlaw12.StoreExact", spec := "storeExact", unfollowed := true, recurses := true, apart := false, narrowed := true }
def StoreExactUptoSaid : Prop := storeExactUptoRow.holds Try.pinned (OpenSpec.upto storeExactSpec)

/-- 'truantlaw12.StoreFrees', WHERE WHAT IT READS IS OF BULK AT MOST 1048576: true; the input reads as it did. -/
def storeFreesUptoRow : OpenClaim := { program := "ytonmlncejikbiaa", sum := "0143c40009d23ece6ce23f8812bc7c01f7e050a33d62f667640f9a70f510faa8", func := "truant/truantlaw12.StoreFrees", spec := "storeFrees", unfollowed := true, recurses := true, apart := false, narrowed := true }
def StoreFreesUptoSaid : Prop := storeFreesUptoRow.holds Try.pinned (OpenSpec.upto storeFreesSpec)

/-- 'truantlaw12.StoreKeeps', WHERE WHAT IT READS IS OF BULK AT MOST 1048576: true; the input reads as it did. -/
def storeKeepsUptoRow : OpenClaim := { program := "ytonmlncejikbiaa", sum := "0143c40009d23ece6ce23f8812bc7c01f7e050a33d62f667640f9a70f510faa8", func := "truant/truantlaw12.StoreKeeps", spec := "storeKeeps", unfollowed := true, recurses := true, apart := false, narrowed := true }
def StoreKeepsUptoSaid : Prop := storeKeepsUptoRow.holds Try.pinned (OpenSpec.upto storeKeepsSpec)

end Rows
end Go.Proofs.Ytonmlncejikbiaa
