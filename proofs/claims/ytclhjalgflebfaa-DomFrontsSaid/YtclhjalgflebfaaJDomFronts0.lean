/- What the row of DomFronts rests on, part 0: contracts of the functions that it reaches, and the plain law. -/
import Derived.Test.YtclhjalgflebfaaProg
import Derived.Below
import Derived.Deep.Draws
import Derived.Deep.AppendLies
import Derived.Maps.AppendAt
import Derived.OwnWalk
import Derived.Laws.BytesArg
import Derived.Laws.MakeOwn
import Derived.Laws.OwnMore
import Derived.Deep.OwnRows
import Derived.Tactics
import Derived.Lib.ConvBytes
import Derived.Laws.Slices
import Derived.WalkKit
import Derived.KernelRfl
import Derived.RowKit3
import Derived.Deep.LoopGhost
import Derived.Deep.QuietTactic
import Derived.BigQuiet
import Derived.WideLaws
import Derived.Deep.DeepCutAuto
import Derived.Deep.CutBlock
import Derived.Deep.RegionHeld3
import Derived.Laws.Rows
import Derived.Lib.AppendStr
import Derived.ArgAppend
import Derived.Laws.IdiomCopy
import Derived.OrdersHeld
import Derived.Laws.BitsLemmas
import Derived.RowKit
import Derived.Test.YtclhjalgflebfaaWWords
import Derived.Test.YtclhjalgflebfaaWLast
import Derived.Test.YtclhjalgflebfaaWTab
import Derived.Test.YtclhjalgflebfaaWQPut
import Derived.Test.YtclhjalgflebfaaWApart
import Derived.Test.YtclhjalgflebfaaWArr
import Derived.Test.YtclhjalgflebfaaWZeros
import Derived.Test.YtclhjalgflebfaaWFoot
import Derived.Test.YtclhjalgflebfaaWKept
import Derived.Test.YtclhjalgflebfaaWShare
import Derived.Test.YtclhjalgflebfaaWN
import Derived.Test.YtclhjalgflebfaaWRepsOne
import Derived.Test.YtclhjalgflebfaaWInv
import Derived.Test.YtclhjalgflebfaaWGuard
import Derived.Test.YtclhjalgflebfaaWNEv
import Derived.Test.YtclhjalgflebfaaWMore
import Derived.Maps.OwnOps
import Derived.Maps.Views
import Derived.Maps.Keyed
import Derived.Shelf.Small.Bits
import Derived.Shelf.Strconv.Itoa0
import Derived.Shelf.Sort.Plain
import Derived.Shelf.Bits.Mul64
import Derived.Ground.Names2Prog
import Derived.Shelf.Slices.CompactI
import Derived.Shelf.Slices.In.SortNone
import Derived.Ground.SlgnProg
import Derived.Shelf.SlicesE.Reverse
import Derived.Shelf.SlicesE.Compact
import Derived.Shelf.SlicesE.Clone
import Derived.Ground.SlgfProg
import Derived.Shelf.SlicesE.IndexFunc
import Derived.Shelf.SlicesE.DeleteFunc
import Derived.Sort.OwnSortedInts
import Derived.Laws.CopyOwn
import Derived.StillTailTactics
import Derived.Deep.Slices
import Derived.SizedLaws
import Derived.OpenShut
import Derived.ProofKit
import Derived.ShutString
import Derived.ChangeOld
namespace Go.Proofs.Ytclhjalgflebfaa.Q
open Go.RowKit Go.Proofs.YtclhjalgflebfaaW.PrintWords Go.Proofs.YtclhjalgflebfaaW.PrintLast Go.Proofs.YtclhjalgflebfaaW.PrintMore
attribute [local go_sem] max2_int min2_int max_two min_two max_three min_three max_four min_four   -- for this text's walks alone
set_option linter.unusedVariables false
set_option linter.unusedSimpArgs false



def errW : Option Int → Value
 | none => .nilIface
 | some c => .iface 0 (.int .i64 c)
theorem errW_none : errW none = .nilIface := rfl
theorem errW_some (c : Int) : errW (some c) = .iface 0 (.int .i64 c) := rfl

theorem info3 : (Try.prog.info? 3).map (fun i => (i.zero, i.size, i.bytes)) = some (some (.int .i64 0), 1, 8) := by kernel_rfl
theorem info4 : (Try.prog.info? 4).map (fun i => (i.zero, i.size, i.bytes)) = some (some (.bool false), 1, 1) := by kernel_rfl
theorem info34 : (Try.prog.info? 34).map (fun i => (i.zero, i.size, i.bytes)) = some (some (.slice none 0 0), 1, 24) := by kernel_rfl
theorem info40 : (Try.prog.info? 40).map (fun i => (i.zero, i.size, i.bytes)) = some (some (.agg #[(.slice none 0 0), (.int .i64 0), (.int .i64 0), (.int .i64 0), (.int .i64 0)]), 5, 56) := by kernel_rfl
-- the values' own types
def rd_L2 (xs : List (List Int)) (i : Int) : (List Int) := xs.getD i.toNat ([] : List Int)
theorem at_L2 {w : World} {A : Option Addr} {n : Nat} {xs : List (List Int)} (h : Kd.C (Kd.slice 3 (Kd.int .i64)) w A n xs) (i : Int) (h0 : 0 ≤ i) (h1 : i < n) : ∃ ad A0 c0, A = some ad ∧ w.cell? (ad.add i.toNat) = some (.slice A0 (rd_L2 xs i).length c0) ∧ (rd_L2 xs i).length ≤ c0 ∧ (Kd.int .i64).C w A0 (rd_L2 xs i).length (rd_L2 xs i) := by
 obtain ⟨ad, c, e, _, hK, hc0⟩ := Kd.C_get h ([] : List Int) i h0 h1
 have hc : ∀ j u, c[j]? = some u → w.cell? (ad.add (i.toNat * 1 + j)) = some u := hc0
 obtain ⟨A0, c0, rfl, l0, g0⟩ := hK
 exact ⟨ad, A0, c0, e, by have hq := hc 0 _ rfl; rwa [Nat.mul_one, Nat.add_zero] at hq, l0, g0⟩

/-! #### struct type 58 -/
structure S58 where
 f0 : Int
 f1 : ByteArray
 f2 : (List Int)
 f3 : Int
 f4 : ByteArray
def k58 : Kd S58 := Kd.iso (Kd.pair (Kd.int .i64) (Kd.pair Kd.string (Kd.pair (Kd.slice 3 (Kd.int .i64)) (Kd.pair (Kd.int .i64) Kd.string)))) (fun x : S58 => (x.f0, x.f1, x.f2, x.f3, x.f4))
/-! #### struct type 38 -/
structure S38 where
 f0 : Int
 f1 : Int
def z38 : S38 := ⟨(0 : Int), (0 : Int)⟩
def k38 : Kd S38 := Kd.iso (Kd.pair (Kd.int .i64) (Kd.int .i64)) (fun x : S38 => (x.f0, x.f1))
theorem k38_open {w : World} {x : S38} {cs : List Value} (h : k38.K w x cs) : cs = [.int .i64 x.f0, .int .i64 x.f1] := by
 obtain ⟨_, _, rfl, rfl, rfl⟩ := h
 exact rfl
theorem k38_mk (w : World) (x : S38)  : k38.K w x [.int .i64 x.f0, .int .i64 x.f1] := ⟨[.int .i64 x.f0], [.int .i64 x.f1], rfl, rfl, rfl⟩
theorem k38_mkM (w : World) (base : Nat) (ok : Nat → Prop) (x : S38)  : k38.M w base ok x [.int .i64 x.f0, .int .i64 x.f1] := ⟨[.int .i64 x.f0], [.int .i64 x.f1], rfl, rfl, rfl⟩
/-! #### struct type 40 -/
structure S40 where
 f0 : (List Int)
 f1 : Int
 f2 : Int
 f3 : S38
def z40 : S40 := ⟨([] : List Int), (0 : Int), (0 : Int), z38⟩
def k40 : Kd S40 := Kd.iso (Kd.pair (Kd.slice 3 (Kd.int .i64)) (Kd.pair (Kd.int .i64) (Kd.pair (Kd.int .i64) k38))) (fun x : S40 => (x.f0, x.f1, x.f2, x.f3))
theorem k40_open {w : World} {x : S40} {cs : List Value} (h : k40.K w x cs) : ∃ A0 c0, cs = [.slice A0 x.f0.length c0, .int .i64 x.f1, .int .i64 x.f2, .int .i64 x.f3.f0, .int .i64 x.f3.f1] ∧ x.f0.length ≤ c0 ∧ (Kd.int .i64).C w A0 x.f0.length x.f0 := by
 obtain ⟨_, _, rfl, ⟨A0, c0, rfl, l0, g0⟩, ⟨_, _, rfl, rfl, ⟨_, _, rfl, rfl, s3⟩⟩⟩ := h
 obtain rfl := k38_open s3
 exact ⟨A0, c0, rfl, l0, g0⟩
theorem k40_mk (w : World) (x : S40) {A0 : Option Addr} {c0 : Nat} (l0 : x.f0.length ≤ c0) (g0 : (Kd.int .i64).C w A0 x.f0.length x.f0) : k40.K w x [.slice A0 x.f0.length c0, .int .i64 x.f1, .int .i64 x.f2, .int .i64 x.f3.f0, .int .i64 x.f3.f1] := ⟨[.slice A0 x.f0.length c0], [.int .i64 x.f1, .int .i64 x.f2, .int .i64 x.f3.f0, .int .i64 x.f3.f1], rfl, ⟨A0, c0, rfl, l0, g0⟩, ⟨[.int .i64 x.f1], [.int .i64 x.f2, .int .i64 x.f3.f0, .int .i64 x.f3.f1], rfl, rfl, ⟨[.int .i64 x.f2], [.int .i64 x.f3.f0, .int .i64 x.f3.f1], rfl, rfl, (k38_mk w x.f3 )⟩⟩⟩
theorem k40_mkM (w : World) (base : Nat) (ok : Nat → Prop) (x : S40) {v0 : Value} (g0 : (Kd.int .i64).R 3 w base ok v0 x.f0) : k40.M w base ok x [v0, .int .i64 x.f1, .int .i64 x.f2, .int .i64 x.f3.f0, .int .i64 x.f3.f1] := ⟨[v0], [.int .i64 x.f1, .int .i64 x.f2, .int .i64 x.f3.f0, .int .i64 x.f3.f1], rfl, ⟨v0, rfl, g0⟩, ⟨[.int .i64 x.f1], [.int .i64 x.f2, .int .i64 x.f3.f0, .int .i64 x.f3.f1], rfl, rfl, ⟨[.int .i64 x.f2], [.int .i64 x.f3.f0, .int .i64 x.f3.f1], rfl, rfl, (k38_mkM w base ok x.f3 )⟩⟩⟩
def rd_T40 (xs : List S40) (i : Int) : S40 := xs.getD i.toNat z40
theorem at_T40 {w : World} {A : Option Addr} {n : Nat} {xs : List S40} (h : Kd.C k40 w A n xs) (i : Int) (h0 : 0 ≤ i) (h1 : i < n) : ∃ ad A0 c0, A = some ad ∧ w.cell? (ad.add (i.toNat * 5)) = some (.slice A0 (rd_T40 xs i).f0.length c0) ∧ w.cell? ⟨(ad.add (i.toNat * 5)).block, (ad.add (i.toNat * 5)).off + 1, none⟩ = some (.int .i64 (rd_T40 xs i).f1) ∧ w.cell? ⟨(ad.add (i.toNat * 5)).block, (ad.add (i.toNat * 5)).off + 2, none⟩ = some (.int .i64 (rd_T40 xs i).f2) ∧ w.cell? ⟨(ad.add (i.toNat * 5)).block, (ad.add (i.toNat * 5)).off + 3, none⟩ = some (.int .i64 (rd_T40 xs i).f3.f0) ∧ w.cell? ⟨(ad.add (i.toNat * 5)).block, (ad.add (i.toNat * 5)).off + 4, none⟩ = some (.int .i64 (rd_T40 xs i).f3.f1) ∧ (rd_T40 xs i).f0.length ≤ c0 ∧ (Kd.int .i64).C w A0 (rd_T40 xs i).f0.length (rd_T40 xs i).f0 := by
 obtain ⟨ad, c, e, _, hK, hc0⟩ := Kd.C_get h z40 i h0 h1
 have hc : ∀ j u, c[j]? = some u → w.cell? (ad.add (i.toNat * 5 + j)) = some u := hc0
 obtain ⟨A0, c0, rfl, l0, g0⟩ := k40_open hK
 exact ⟨ad, A0, c0, e, hc 0 _ rfl, by rw [← add_field _ _ 1 (by omega)]; exact hc 1 _ rfl, by rw [← add_field _ _ 2 (by omega)]; exact hc 2 _ rfl, by rw [← add_field _ _ 3 (by omega)]; exact hc 3 _ rfl, by rw [← add_field _ _ 4 (by omega)]; exact hc 4 _ rfl, l0, g0⟩

def rd_L7 (xs : List (List Bool)) (i : Int) : (List Bool) := xs.getD i.toNat ([] : List Bool)
theorem at_L7 {w : World} {A : Option Addr} {n : Nat} {xs : List (List Bool)} (h : Kd.C (Kd.slice 4 Kd.bool) w A n xs) (i : Int) (h0 : 0 ≤ i) (h1 : i < n) : ∃ ad A0 c0, A = some ad ∧ w.cell? (ad.add i.toNat) = some (.slice A0 (rd_L7 xs i).length c0) ∧ (rd_L7 xs i).length ≤ c0 ∧ Kd.bool.C w A0 (rd_L7 xs i).length (rd_L7 xs i) := by
 obtain ⟨ad, c, e, _, hK, hc0⟩ := Kd.C_get h ([] : List Bool) i h0 h1
 have hc : ∀ j u, c[j]? = some u → w.cell? (ad.add (i.toNat * 1 + j)) = some u := hc0
 obtain ⟨A0, c0, rfl, l0, g0⟩ := hK
 exact ⟨ad, A0, c0, e, by have hq := hc 0 _ rfl; rwa [Nat.mul_one, Nat.add_zero] at hq, l0, g0⟩

/-! #### struct type 26 -/
structure S26 where
 f0 : ByteArray
 f1 : (List ByteArray)
 f2 : ByteArray
 f3 : (List ByteArray)
 f4 : (List S58)
 f5 : (List S40)
def k26 : Kd S26 := Kd.iso (Kd.pair Kd.string (Kd.pair (Kd.slice 9 Kd.string) (Kd.pair Kd.string (Kd.pair (Kd.slice 9 Kd.string) (Kd.pair (Kd.slice 58 k58) (Kd.slice 40 k40)))))) (fun x : S26 => (x.f0, x.f1, x.f2, x.f3, x.f4, x.f5))
theorem k26_open {w : World} {x : S26} {cs : List Value} (h : k26.K w x cs) : ∃ A1 c1 A3 c3 A4 c4 A5 c5, cs = [.string x.f0, .slice A1 x.f1.length c1, .string x.f2, .slice A3 x.f3.length c3, .slice A4 x.f4.length c4, .slice A5 x.f5.length c5] ∧ x.f1.length ≤ c1 ∧ Kd.string.C w A1 x.f1.length x.f1 ∧ x.f3.length ≤ c3 ∧ Kd.string.C w A3 x.f3.length x.f3 ∧ x.f4.length ≤ c4 ∧ k58.C w A4 x.f4.length x.f4 ∧ x.f5.length ≤ c5 ∧ k40.C w A5 x.f5.length x.f5 := by
 obtain ⟨_, _, rfl, rfl, ⟨_, _, rfl, ⟨A1, c1, rfl, l1, g1⟩, ⟨_, _, rfl, rfl, ⟨_, _, rfl, ⟨A3, c3, rfl, l3, g3⟩, ⟨_, _, rfl, ⟨A4, c4, rfl, l4, g4⟩, ⟨A5, c5, rfl, l5, g5⟩⟩⟩⟩⟩⟩ := h
 exact ⟨A1, c1, A3, c3, A4, c4, A5, c5, rfl, l1, g1, l3, g3, l4, g4, l5, g5⟩
end Go.Proofs.Ytclhjalgflebfaa.Q

/- Small lemmas that the hand-proved contracts of this seat use. -/

namespace Go.Proofs.Ytclhjalgflebfaa.Q
open Go.RowKit Go.Proofs.YtclhjalgflebfaaW.PrintWords Go.Proofs.YtclhjalgflebfaaW.PrintLast Go.Proofs.YtclhjalgflebfaaW.PrintMore
set_option linter.unusedVariables false
set_option linter.unusedSimpArgs false
theorem Drawn0.trans {w w1 w2 : World} (h : Drawn0 w w1) (k : Drawn0 w1 w2) : Drawn0 w w2 := by
 obtain ⟨n, rfl⟩ := k
 exact h.step n
theorem getD_at {α : Type} (l : List α) (z : α) {k : Nat} (hk : k < l.length) : l.getD k z = l[k] := by simp [List.getD, List.getElem?_eq_getElem hk]
noncomputable def decB (p : Prop) : Bool := @decide p (Classical.propDecidable p)
theorem decB_true {p : Prop} (h : p) : decB p = true := by unfold decB; exact @decide_eq_true p (Classical.propDecidable p) h
theorem decB_false {p : Prop} (h : ¬ p) : decB p = false := by unfold decB; exact @decide_eq_false p (Classical.propDecidable p) h
theorem lists_eq {α : Type} {l l' : List α} (z : α) (hn : l.length = l'.length) (h : ∀ j : Nat, j < l.length → l.getD j z = l'.getD j z) : l = l' := by
 apply List.ext_getElem hn
 intro i h1 h2
 have := h i h1
 rwa [getD_at l z h1, getD_at l' z h2] at this
end Go.Proofs.Ytclhjalgflebfaa.Q

/- A map to bools as a set of keys: laws for the walk; and small words on rows. -/
namespace Go.Proofs.Ytclhjalgflebfaa.Q
open Go.RowKit Go.Proofs.YtclhjalgflebfaaW.PrintWords Go.Proofs.YtclhjalgflebfaaW.PrintLast Go.Proofs.YtclhjalgflebfaaW.PrintMore
set_option linter.unusedVariables false
set_option linter.unusedSimpArgs false
open Go.Maps (Keyed)
/-- Block b of w is a map to bools: true at the keys of S, and at no others. -/
structure SetAt (w : World) (P : Program) (k e : TypeId) (b : Nat) (S : List Lit) : Prop where
 out : ∃ n D, w.ownsMap (H := Unit) P k (plainElem P e) b n D ∧ Maps.IsMap D ∧ n ≤ S.length ∧ ∀ x, WideAt.IsKeyLit x → D.atKey x (.lit (.bool false)) = .lit (.bool (decB (x ∈ S)))
section
variable {P : Program} {k e t : TypeId} {w w1 : World} {b : Nat} {S : List Lit}
theorem SetAt.made (w : World) (P : Program) (k e : TypeId) : SetAt (w.alloc (.map #[] 0)) P k e w.heap.size [] :=
 ⟨0, .map [], World.ownsMap_made _ _ _ _, Maps.isMap_empty, Nat.le_refl _, fun x _ => by rw [decB_false (by simp)]; rfl⟩
theorem SetAt.kept (h : SetAt w P k e b S) {row : Option Nat} (hg : w.grownBy w1 row) (hne : some b ≠ row) : SetAt w1 P k e b S := by
 obtain ⟨n, D, h1, h2⟩ := h
 exact ⟨n, D, h1.kept hg hne, h2⟩
theorem SetAt.lt (h : SetAt w P k e b S) : b < w.heap.size := by obtain ⟨n, D, h1, h2⟩ := h; exact h1.lt
theorem SetAt.below (h : SetAt w P k e b S) (hb : Below w.heap.size w w1) : SetAt w1 P k e b S := h.kept (grown_of_below hb none) (by simp)
theorem SetAt.alloc (h : SetAt w P k e b S) (o : Obj) : SetAt (w.alloc o) P k e b S := h.below (below_alloc (Below.refl _ _) o)
theorem SetAt.drewN (h : SetAt w P k e b S) (m : Nat) : SetAt (w.drewN m) P k e b S := h.below (pw_below_drewN (Below.refl _ _) m)
theorem SetAt.drew (h : SetAt w P k e b S) : SetAt w.drew P k e b S := h.below (below_drew (Below.refl _ _))
theorem plain_bool_inv {v : Value} {x : Bool} {ps : List MemPlace} (he : P.underlying e = some .bool) (h : plainElem (H := Unit) P e v = some (.lit (.bool x), ps)) : v = .bool x := by
 unfold plainElem at h
 rw [he] at h
 cases v <;> simp at h
 obtain ⟨rfl, _⟩ := h
 rfl
theorem SetAt.lookup (h : SetAt w P k e b S) (K : Keyed P k) (ht : P.underlying t = some (.map k e)) (he : P.underlying e = some .bool) (hz : (zeroValue e).run P w = .ok (.bool false) w)
  {key : Value} {kl : Lit} (hkey : keyOf P k key = some kl) (hkl : WideAt.IsKeyLit kl) : (Instr.lookup t (.map (some b)) key false).run P w = .ok (.bool (decB (kl ∈ S))) w := by
 obtain ⟨n, D, h1, h2, h3, h4⟩ := h
 obtain ⟨v, ps, hrun, hv⟩ := h1.lookup K ht hz (plainElem_bool he false) hkey
 rw [h4 kl hkl] at hv
 rw [hrun, plain_bool_inv he hv]
theorem decB_iff {p q : Prop} (h : p ↔ q) : decB p = decB q := by rw [propext h]
theorem SetAt.update_op {ops : Array Oper} {rest : List Oper} {o : Oper} {a : Act} {Q : Exit → Act → World → Prop} (h : SetAt w P k e b S)
  (hg : o.guard = none) (m x v : Operand) (hop : o.op = Op.mapUpdate t m x v) (K : Keyed P k) (ht : P.underlying t = some (.map k e)) (he : P.underlying e = some .bool)
  (hm : a.eval m = .map (some b)) (hn : S.length < maxLen) (key : Value) (kl : Lit) (hx : a.eval x = key) (hv : a.eval v = .bool true) (hkey : keyOf P k key = some kl) (hkl : WideAt.IsKeyLit kl)
  (hK : ∀ w', SetAt w' P k e b (kl :: S) → w.grownBy w' (some b) → wpList P ops Q rest (a.put o.dst undef) w') :
  wpList P ops Q (o :: rest) a w := by
 obtain ⟨n, D, h1, h2, h3, h4⟩ := h
 refine wpList_mapUpdate_own w hg m x v t hop k e K ht (plainElem P e) b n D hm h1 (by omega) key _ kl hx hv hkey _ [] (plainElem_bool he true) ?_
 intro w' ho hgr
 refine hK w' ⟨n + 1, D.put kl _, ho, h2.put _ _, by simp; omega, fun y hy => ?_⟩ hgr
 by_cases hyk : y = kl
 ·subst hyk
  rw [Maps.atKey_put_same h2 hy, decB_true (by simp)]
 ·rw [Maps.atKey_put_other hyk, h4 y hy]
  congr 2
  exact decB_iff (by simp [hyk])
end
theorem lit_R {α : Type} (d : Kd α) {W : World} (base e : Nat) {xs : List α} {inner : List Value} {ok okp : Nat → Prop}
  (hrep : Reps (d.M W base okp) d.sz xs inner) (hok : ∀ k, okp k → ok k) (hfresh : ok W.heap.size) (hbase : base ≤ W.heap.size) (hm : xs.length ≤ 9223372036854775807) :
  d.R e (W.alloc (.cells inner.toArray e)) base ok (.slice (some ⟨W.heap.size, 0, none⟩) xs.length xs.length) xs := by
 refine ⟨fun k hk => ?_, inner, ?_, ?_⟩
 ·have : W.heap.size = k := by simpa [Value.ownBlock] using hk
  subst this
  exact hfresh
 ·have h2 := World.ownsRow_lit (base := base) (e := e) (size := d.sz) W inner.toArray xs.length hbase (by simpa [maxLen] using hm) (by simpa using hrep.1)
  simpa using h2
 ·refine hrep.imp_ (fun p c hp => d.M_mono (fun k hk => ⟨hok k hk.1, fun he => ?_⟩) (Kd.M_below (d.M_bound hp) (below_alloc (Below.refl _ _) _)))
  have h3 : k = W.heap.size := by simpa [Value.ownBlock] using he
  have := hk.2.2.1
  omega
theorem SetAt.ne_own {α : Type} {P : Program} {k e : TypeId} {w : World} {b : Nat} {S : List Lit} {d : Kd α} {e' base : Nat} {ok : Nat → Prop} {v : Value} {xs : List α} (h : SetAt w P k e b S) (hq : d.Q e' w base ok v xs) : some b ≠ v.ownBlock := by
 intro he
 obtain ⟨cells, hc⟩ := Kd.Q_typed hq b he.symm
 obtain ⟨n, D, ⟨es, clock, hb, _⟩, _⟩ := h
 rw [hb] at hc
 cases hc
theorem at_scalar {α : Type} {enc : α → Value} {h1 : ∀ x, (enc x).oneCell' = true} {w : World} {A : Option Addr} {n : Nat} {xs : List α} (h : Kd.C (Kd.scalar enc h1) w A n xs) (z : α) (k : Nat) (hk : k < n) : ∃ ad, A = some ad ∧ w.cell? (ad.add k) = some (enc (xs.getD k z)) := by
 obtain ⟨e1, e2, h⟩ := h
 obtain ⟨ad, ea, h⟩ := h (by omega)
 have hl : k < xs.length := by omega
 obtain ⟨c, hc, hK, hcell⟩ := h k _ (List.getElem?_eq_getElem hl)
 refine ⟨ad, ea, ?_⟩
 have hK' : c = [enc xs[k]] := hK
 subst hK'
 have := hcell 0 _ rfl
 have e : k * (Kd.scalar enc h1).sz + 0 = k := by show k * 1 + 0 = k; omega
 rw [e] at this
 rw [this, getD_at xs z hl]
theorem at_int {q : IntKind} {w : World} {A : Option Addr} {n : Nat} {xs : List Int} (h : Kd.C (Kd.int q) w A n xs) (k : Nat) (hk : k < n) : ∃ ad, A = some ad ∧ w.cell? (ad.add k) = some (.int q (xs.getD k 0)) := at_scalar (enc := Value.int q) h _ k hk
/-- What a stack holds behind a pop. -/
theorem cut_stack {α : Type} {d : Kd α} {P : Program} {t e : TypeId} {w : World} {base : Nat} {ok : Nat → Prop} {A : Option Addr} {n c : Nat} {xs : List α} (ht : P.underlying t = some (.slice e)) (hi : (P.info? e).map (·.size) = some d.sz)
  (h : d.R e w base ok (.slice A n c) xs) (hn : n = xs.length) (hc : n ≤ c) (hp : 0 < n) : (∀ W : World, (Instr.slice t (.slice A n c) none (some (.int .i64 ((n : Int) - 1))) none).run P W = .ok (.slice A (n - 1) c) W) ∧ d.R e w base ok (.slice A (n - 1) c) (xs.take (n - 1)) := by
 obtain ⟨i, hi, hs⟩ := Option.map_eq_some_iff.1 hi
 have h1 := cut_to (P := P) t e .i64 ht hi A n c ((n : Int) - 1) (by omega) (by omega) hc
 have e1 : ((n : Int) - 1).toNat = n - 1 := by omega
 rw [e1] at h1
 exact ⟨h1, Kd.R_take h (by omega)⟩
end Go.Proofs.Ytclhjalgflebfaa.Q


-- (laid by the kit's lay-shelf and lay-plain at this seat's dump)
/- The library's contracts at this program. -/

namespace Go.Proofs
open Go.Shelf
def Try.lays189_ren : Go.Shelf.Ren := ⟨fun | 189 => 55 | 125 => 74 | 257 => 73 | 128 => 90 | 129 => 91 | 294 => 81 | 295 => 82 | 296 => 83 | 297 => 84 | 298 => 85 | 299 => 86 | 216 => 87 | 300 => 88 | 301 => 89 | 328 => 93 | 329 => 94 | 330 => 95 | 331 => 96 | 332 => 97 | 215 => 98 | 343 => 99 | n => n, fun | 28 => 34 | 3 => 3 | 46 => 43 | 0 => 0 | 51 => 110 | 53 => 113 | 4 => 4 | 183 => 118 | 182 => 117 | 131 => 75 | 5 => 5 | 9 => 9 | 218 => 126 | 222 => 130 | 228 => 132 | 229 => 133 | n => n, fun | n => n⟩
theorem Try.lays189 : Go.Proofs.Lays.n189 Try.prog Try.lays189_ren := {
 mixed := by kernel_rfl
 f125 := Try.func74.trans (congrArg some (by kernel_rfl))
 f128 := Try.func90.trans (congrArg some (by kernel_rfl))
 f129 := Try.func91.trans (congrArg some (by kernel_rfl))
 f189 := Try.func55.trans (congrArg some (by kernel_rfl))
 f215 := Try.func98.trans (congrArg some (by kernel_rfl))
 f216 := Try.func87.trans (congrArg some (by kernel_rfl))
 f257 := Try.func73.trans (congrArg some (by kernel_rfl))
 f294 := Try.func81.trans (congrArg some (by kernel_rfl))
 f295 := Try.func82.trans (congrArg some (by kernel_rfl))
 f296 := Try.func83.trans (congrArg some (by kernel_rfl))
 f297 := Try.func84.trans (congrArg some (by kernel_rfl))
 f298 := Try.func85.trans (congrArg some (by kernel_rfl))
 f299 := Try.func86.trans (congrArg some (by kernel_rfl))
 f300 := Try.func88.trans (congrArg some (by kernel_rfl))
 f301 := Try.func89.trans (congrArg some (by kernel_rfl))
 f328 := Try.func93.trans (congrArg some (by kernel_rfl))
 f329 := Try.func94.trans (congrArg some (by kernel_rfl))
 f330 := Try.func95.trans (congrArg some (by kernel_rfl))
 f331 := Try.func96.trans (congrArg some (by kernel_rfl))
 f332 := Try.func97.trans (congrArg some (by kernel_rfl))
 f343 := Try.func99.trans (congrArg some (by kernel_rfl))
 t0 := Try.underlying0
 a0 := Try.isAgg0
 z0 := Try.sizeOf0
 v0 := Try.zeroValue0
 t3 := Try.underlying3
 a3 := Try.isAgg3
 z3 := Try.sizeOf3
 v3 := Try.zeroValue3
 t4 := Try.underlying4
 a4 := Try.isAgg4
 z4 := Try.sizeOf4
 v4 := Try.zeroValue4
 t5 := Try.underlying5
 a5 := Try.isAgg5
 z5 := Try.sizeOf5
 v5 := Try.zeroValue5
 t9 := Try.underlying9
 a9 := Try.isAgg9
 z9 := Try.sizeOf9
 v9 := Try.zeroValue9
 t28 := Try.underlying34
 a28 := Try.isAgg34
 z28 := Try.sizeOf34
 v28 := Try.zeroValue34
 t46 := Try.underlying43
 a46 := Try.isAgg43
 z46 := Try.sizeOf43
 v46 := Try.zeroValue43
 t51 := Try.underlying110
 a51 := Try.isAgg110
 z51 := Try.sizeOf110
 v51 := Try.zeroValue110
 t53 := Try.underlying113
 a53 := Try.isAgg113
 z53 := Try.sizeOf113
 v53 := Try.zeroValue113
 t131 := Try.underlying75
 a131 := Try.isAgg75
 z131 := Try.sizeOf75
 v131 := Try.zeroValue75
 t182 := Try.underlying117
 a182 := Try.isAgg117
 z182 := Try.sizeOf117
 v182 := Try.zeroValue117
 t183 := Try.underlying118
 a183 := Try.isAgg118
 z183 := Try.sizeOf118
 v183 := Try.zeroValue118
 t218 := Try.underlying126
 a218 := Try.isAgg126
 z218 := Try.sizeOf126
 v218 := Try.zeroValue126
 t222 := Try.underlying130
 a222 := Try.isAgg130
 z222 := Try.sizeOf130
 v222 := Try.zeroValue130
 t228 := Try.underlying132
 a228 := Try.isAgg132
 z228 := Try.sizeOf132
 v228 := Try.zeroValue132
 t229 := Try.underlying133
 a229 := Try.isAgg133
 z229 := Try.sizeOf133
 v229 := Try.zeroValue133 }
open Go.Sort Go.RowKit in
theorem Try.slices_Sort_int (blk off cap : Nat) (zs : List Int) (w : World) (hH : Holds (Value.int .i64) w blk off zs.toArray) (hblk : blk < w.heap.size) (hsz : zs.length < 4611686018427387904) :
  Calls Try.prog 55 #[.slice (some ⟨blk, off, none⟩) zs.length cap] w fun e w' =>
   e = .returned (.tuple #[]) ∧ ∃ n os, w' = grow (putRow (Value.int .i64) (Sort.ahead w n) blk off (zs.mergeSort fun x y => decide (x ≤ y)).toArray) os := Any.slices_Sort_int Try.lays189 blk off cap zs w hH hblk hsz
def Try.lays212_ren : Go.Shelf.Ren := ⟨fun | 212 => 72 | 263 => 79 | 264 => 80 | n => n, fun | 46 => 43 | 51 => 110 | 146 => 111 | 53 => 113 | 148 => 114 | n => n, fun | n => n⟩
theorem Try.lays212 : Go.Proofs.Lays.n212 Try.prog Try.lays212_ren := {
 mixed := by kernel_rfl
 f212 := Try.func72.trans (congrArg some (by kernel_rfl))
 f263 := Try.func79.trans (congrArg some (by kernel_rfl))
 f264 := Try.func80.trans (congrArg some (by kernel_rfl))
 t46 := Try.underlying43
 a46 := Try.isAgg43
 z46 := Try.sizeOf43
 v46 := Try.zeroValue43
 t51 := Try.underlying110
 a51 := Try.isAgg110
 z51 := Try.sizeOf110
 v51 := Try.zeroValue110
 t53 := Try.underlying113
 a53 := Try.isAgg113
 z53 := Try.sizeOf113
 v53 := Try.zeroValue113
 t146 := Try.underlying111
 a146 := Try.isAgg111
 z146 := Try.sizeOf111
 v146 := Try.zeroValue111
 t148 := Try.underlying114
 a148 := Try.isAgg114
 z148 := Try.sizeOf114
 v148 := Try.zeroValue114 }
open Go.RowKit Go.Lib in
theorem Try.bits_Mul (x y : Nat) (hx : x < 18446744073709551616) (hy : y < 18446744073709551616) (w : World) :
  Calls Try.prog 72 #[.int .u64 x, .int .u64 y] w fun e w' => e = .returned (.tuple #[.int .u64 ((x * y / 18446744073709551616 : Nat) : Int), .int .u64 ((x * y % 18446744073709551616 : Nat) : Int)]) ∧ w' = w := Any.bits_Mul Try.lays212 x y hx hy w
def Try.laysNm220_ren : Go.Shelf.Ren := ⟨fun | 20 => 50 | n => n, fun | 22 => 34 | 3 => 3 | 4 => 4 | 0 => 0 | n => n, fun | n => n⟩
theorem Try.laysNm220 : Go.Proofs.Lays2.n20 Try.prog Try.laysNm220_ren := {
 mixed := by kernel_rfl
 f20 := Try.func50.trans (congrArg some (by kernel_rfl))
 t0 := Try.underlying0
 a0 := Try.isAgg0
 z0 := Try.sizeOf0
 v0 := Try.zeroValue0
 t3 := Try.underlying3
 a3 := Try.isAgg3
 z3 := Try.sizeOf3
 v3 := Try.zeroValue3
 t4 := Try.underlying4
 a4 := Try.isAgg4
 z4 := Try.sizeOf4
 v4 := Try.zeroValue4
 t22 := Try.underlying34
 a22 := Try.isAgg34
 z22 := Try.sizeOf34
 v22 := Try.zeroValue34
 i3 := by kernel_rfl }
open Go.RowKit Go.Lib Go.Sort in
theorem Try.slices_Compact_int (blk off cap : Nat) (zs : List Int) (w : World) (hH : Holds (Value.int .i64) w blk off zs.toArray) (hsz : zs.length ≤ 9223372036854775807) (hcap : zs.length ≤ cap) :
  Calls Try.prog 50 #[.slice (some ⟨blk, off, none⟩) zs.length cap] w fun e w' => e = .returned (.slice (some ⟨blk, off, none⟩) (Lib.compact zs).length cap) ∧ ∃ q, w' = putRow (Value.int .i64) (Sort.ahead w q) blk off (Lib.compact zs ++ List.replicate (zs.length - (Lib.compact zs).length) 0).toArray := Any.slices_Compact_int Try.laysNm220 blk off cap zs w hH hsz hcap
open Go.RowKit Go.Lib Go.Sort in
theorem Try.slices_Compact_int_empty (a : Option Addr) (cap : Nat) (w : World) :
  Calls Try.prog 50 #[.slice a 0 cap] w fun e w' => e = .returned (.slice a 0 cap) ∧ w' = w := Any.slices_Compact_int_empty Try.laysNm220 a cap w
open Go.RowKit Go.Sort in
theorem Try.slices_Sort_int_none (p : Option Addr) (cap : Nat) (w : World) :
  Calls Try.prog 55 #[.slice p 0 cap] w fun e w' => e = .returned (.tuple #[]) ∧ w' = w := Any.slices_Sort_int_none Try.lays189 p cap w
def Try.laysSlH6_f71_ren : Go.Shelf.Ren := ⟨fun | 6 => 71 | n => n, fun | 22 => 34 | 23 => 3 | 25 => 71 | 3 => 3 | 0 => 0 | 4 => 4 | n => n, fun | n => n⟩
theorem Try.laysSlH6_f71 : Go.Proofs.SlLaysH.n6 Try.prog Try.laysSlH6_f71_ren := {
 mixed := by kernel_rfl
 f6 := ⟨Try.f71.name, by decide, Try.func71.trans (congrArg some (by kernel_rfl))⟩
 t0 := Try.underlying0
 a0 := Try.isAgg0
 z0 := Try.sizeOf0
 v0 := Try.zeroValue0
 t3 := Try.underlying3
 a3 := Try.isAgg3
 z3 := Try.sizeOf3
 v3 := Try.zeroValue3
 t4 := Try.underlying4
 a4 := Try.isAgg4
 z4 := Try.sizeOf4
 v4 := Try.zeroValue4
 t22 := Try.underlying34
 a22 := Try.isAgg34
 z22 := Try.sizeOf34
 v22 := Try.zeroValue34
 a23 := Try.isAgg3
 z23 := Try.sizeOf3
 t25 := Try.underlying71
 a25 := Try.isAgg71
 z25 := Try.sizeOf71
 v25 := Try.zeroValue71 }
open Go.RowKit Go.Lib in
theorem Try.slices_IndexFunc_empty {α : Type} [Inhabited α] (a : Option Addr) (c : Nat) (fv : Value) (w : World) :
  Calls Try.prog 71 #[.slice a 0 c, fv] w fun e w' => e = .returned (.int .i64 (-1)) ∧ w' = w := AnyE.slices_IndexFunc_empty Try.laysSlH6_f71 a c fv w
def Try.laysSlH10_f51_ren : Go.Shelf.Ren := ⟨fun | 10 => 51 | 6 => 71 | n => n, fun | 22 => 34 | 23 => 3 | 25 => 71 | 3 => 3 | 4 => 4 | 0 => 0 | n => n, fun | n => n⟩
theorem Try.laysSlH10_f51 : Go.Proofs.SlLaysH.n10 Try.prog Try.laysSlH10_f51_ren := {
 mixed := by kernel_rfl
 f6 := ⟨Try.f71.name, by decide, Try.func71.trans (congrArg some (by kernel_rfl))⟩
 f10 := ⟨Try.f51.name, by decide, Try.func51.trans (congrArg some (by kernel_rfl))⟩
 t0 := Try.underlying0
 a0 := Try.isAgg0
 z0 := Try.sizeOf0
 v0 := Try.zeroValue0
 t3 := Try.underlying3
 a3 := Try.isAgg3
 z3 := Try.sizeOf3
 v3 := Try.zeroValue3
 t4 := Try.underlying4
 a4 := Try.isAgg4
 z4 := Try.sizeOf4
 v4 := Try.zeroValue4
 t22 := Try.underlying34
 a22 := Try.isAgg34
 z22 := Try.sizeOf34
 v22 := Try.zeroValue34
 a23 := Try.isAgg3
 z23 := Try.sizeOf3
 t25 := Try.underlying71
 a25 := Try.isAgg71
 z25 := Try.sizeOf71
 v25 := Try.zeroValue71 }
open Go.RowKit Go.Lib Go.Sort in
theorem Try.slices_DeleteFunc {α : Type} [Inhabited α] (enc : α → Value) (hO : OneCell enc) (p : α → Bool) (g : Nat) (lb : Array Value) (eg : ∀ args w, (callFunc g args).run Try.prog w = .ok (.enter g args) w) (zr : α) (v23 : ∀ w, (zeroValue 3).run Try.prog w = .ok (enc zr) w) (blk off cap : Nat) (d : Array α) (w : World) (hp : PredAt Try.prog g lb enc p w) (hpo : PredOver Try.prog g lb enc p blk off d.size w) (hH : Holds enc w blk off d) (hsz : d.size ≤ 9223372036854775807) (hcap : d.size ≤ cap) :
  Calls Try.prog 51 #[.slice (some ⟨blk, off, none⟩) d.size cap, .func (.func g) #[] lb] w fun e w' => e = .returned (.slice (some ⟨blk, off, none⟩) (d.toList.filter fun x => !p x).length cap) ∧ ∃ q, w' = putRow enc (Sort.ahead w q) blk off ((d.toList.filter fun x => !p x) ++ List.replicate (d.size - (d.toList.filter fun x => !p x).length) zr).toArray := AnyE.slices_DeleteFunc Try.laysSlH10_f51 enc hO p g lb eg zr v23 blk off cap d w hp hpo hH hsz hcap
end Go.Proofs

/- Rows of ints of one's own under the library's Sort, Compact, DeleteFunc: the shelf's contracts in the words of the printed walks. -/
namespace Go.Proofs.Ytclhjalgflebfaa.Q
open Go.RowKit Go.Proofs.YtclhjalgflebfaaW.PrintWords Go.Proofs.YtclhjalgflebfaaW.PrintLast Go.Proofs.YtclhjalgflebfaaW.PrintMore
set_option linter.unusedVariables false
set_option linter.unusedSimpArgs false
open Go.Sort Go.Shelf Go.Lib
section
variable {e base : Nat} {ok : Nat → Prop} {w : World} {v : Value} {xs : List Int}
theorem grow_none (W : World) : grow W #[] = W := by simp [grow]
theorem int_row (h : (Kd.int .i64).R e w base ok v xs) : (v = .slice none 0 0 ∧ xs = []) ∨ ∃ g c, v = .slice (some ⟨g, 0, none⟩) xs.length c ∧ xs.length ≤ c ∧ c ≤ maxLen ∧ Holds (Value.int .i64) w g 0 xs.toArray ∧ g < w.heap.size ∧ base ≤ g ∧
  ∀ (q : Nat) (os : Array Obj) (ts : List Int), ts.length = xs.length → (Kd.int .i64).R e (grow (putRow (Value.int .i64) (Sort.ahead w q) g 0 ts.toArray) os) base ok (.slice (some ⟨g, 0, none⟩) xs.length c) ts ∧ w.grownBy (grow (putRow (Value.int .i64) (Sort.ahead w q) g 0 ts.toArray) os) (some g) := by
 have ho := Kd.own_of_R h
 rcases ho.2 with ⟨h1, h2⟩ | ⟨g, cap, cur, rfl, hbase, hb, h1, h2, h3, h4⟩
 ·left
  have hl := (Kd.R_own h).choose_spec.1
  refine ⟨h1, ?_⟩
  rw [h1] at h
  obtain ⟨hn, _⟩ := Kd.R_reads' h
  exact List.eq_nil_of_length_eq_zero hn.symm
 ·right
  refine ⟨g, cap, rfl, h1, h2, holds_of_blockI hb (by simpa [encs] using h4), (Array.getElem?_eq_some_iff.1 hb).1, hbase, fun q os ts hl => ⟨?_, grownBy_sortedI _⟩⟩
  have hs := ownsRow_sortedI (n := q) (os := os) (ts := ts) (ss := xs) hl hbase hb h1 h2 h3
  exact Kd.R_of_own (by rw [hl]; exact hs) (fun k hk => h.1 k hk)
end
theorem grown_self (w : World) (row : Option Nat) : w.grownBy w row := ⟨rfl, rfl, rfl, Nat.le_refl _, fun _ _ _ => rfl⟩
theorem compact_le (xs : List Int) : (Lib.compact xs).length ≤ xs.length := by
 unfold Lib.compact Lib.compactUpTo
 rw [List.length_map]
 refine Nat.le_trans (List.length_filter_le _ _) ?_
 simp
theorem sort_R {base : Nat} {ok : Nat → Prop} {w : World} {v : Value} {xs : List Int} (h : (Kd.int .i64).R 3 w base ok v xs) (hsz : xs.length < 4611686018427387904) :
  Calls Try.prog 55 #[v] w fun e w' => e = .returned (.tuple #[]) ∧ (Kd.int .i64).R 3 w' base ok v (xs.mergeSort fun x y => decide (x ≤ y)) ∧ w.grownBy w' v.ownBlock := by
 rcases int_row h with ⟨rfl, rfl⟩ | ⟨g, c, rfl, h1, h2, h3, h4, h5, h6⟩
 ·refine (Try.slices_Sort_int_none none 0 w).mono ?_
  rintro e w' ⟨rfl, rfl⟩
  exact ⟨rfl, by rw [List.mergeSort_nil]; exact Kd.R_nil _ _ _ _ _, grown_self _ _⟩
 ·refine (Try.slices_Sort_int g 0 c xs w h3 h4 hsz).mono ?_
  rintro e w' ⟨rfl, n, os, rfl⟩
  obtain ⟨q1, q2⟩ := h6 n os (xs.mergeSort fun x y => decide (x ≤ y)) (List.length_mergeSort _)
  exact ⟨rfl, q1, q2⟩
theorem compact_R {base : Nat} {ok : Nat → Prop} {w : World} {v : Value} {xs : List Int} (h : (Kd.int .i64).R 3 w base ok v xs) :
  Calls Try.prog 50 #[v] w fun e w' => ∃ v', e = .returned v' ∧ (Kd.int .i64).R 3 w' base ok v' (Lib.compact xs) ∧ w.grownBy w' v.ownBlock ∧ v'.ownBlock = v.ownBlock := by
 rcases int_row h with ⟨rfl, rfl⟩ | ⟨g, c, rfl, h1, h2, h3, h4, h5, h6⟩
 ·refine (Try.slices_Compact_int_empty none 0 w).mono ?_
  rintro e w' ⟨rfl, rfl⟩
  exact ⟨_, rfl, Kd.R_nil _ _ _ _ _, grown_self _ _, rfl⟩
 ·refine (Try.slices_Compact_int g 0 c xs w h3 (by unfold maxLen at h2; omega) h1).mono ?_
  rintro e w' ⟨rfl, q, rfl⟩
  have hc := compact_le xs
  obtain ⟨q1, q2⟩ := h6 q #[] (Lib.compact xs ++ List.replicate (xs.length - (Lib.compact xs).length) 0) (by simp; omega)
  rw [grow_none] at q1 q2
  have q3 := Kd.R_take (m := (Lib.compact xs).length) q1 (by simp)
  rw [List.take_left'  rfl] at q3
  exact ⟨_, rfl, q3, q2, rfl⟩
set_option maxHeartbeats 400000 in
/-- DeleteFunc at a closure that reads one cell of a block (B, j) of another make. -/
theorem delete_R {base : Nat} {ok : Nat → Prop} {w : World} {v : Value} {xs : List Int} (h : (Kd.int .i64).R 3 w base ok v xs) (gf B j : Nat) (u : Value) (p : Int → Bool) (eg : ∀ args w, (callFunc gf args).run Try.prog w = .ok (.enter gf args) w)
  (hcell : w.cell? ⟨B, j, none⟩ = some u) (hne : ∀ k, v.ownBlock = some k → B ≠ k) (hgives : ∀ (W : World) (x : Int), W.cell? ⟨B, j, none⟩ = some u → FnGives Try.prog gf #[.pointer (some ⟨B, 0, none⟩)] #[.int .i64 x] (.bool (p x)) W) :
  Calls Try.prog 51 #[v, .func (.func gf) #[] #[.pointer (some ⟨B, 0, none⟩)]] w fun e w' => ∃ v', e = .returned v' ∧ (Kd.int .i64).R 3 w' base ok v' (xs.filter fun x => !p x) ∧ w.grownBy w' v.ownBlock ∧ v'.ownBlock = v.ownBlock := by
 rcases int_row h with ⟨rfl, rfl⟩ | ⟨g, c, rfl, h1, h2, h3, h4, h5, h6⟩
 ·go_enter Try.func51, Try.ntmps51
  go_wp2_with fail
  refine (Try.slices_IndexFunc_empty (α := Int) none 0 _ w).mono ?_
  rintro e w' ⟨rfl, rfl⟩
  go_wp2
  go_ret
  exact ⟨_, rfl, Kd.R_nil _ _ _ _ _, grown_self _ _, rfl⟩
 ·have hB : B < w.heap.size := World.block_lt_of_cell? w _ hcell
  have hn := hne g rfl
  have hcon := Try.slices_DeleteFunc (Value.int .i64) (fun _ => rfl) p gf #[.pointer (some ⟨B, 0, none⟩)] eg 0 Try.zeroValue3 g 0 c xs.toArray w
   (fun W x hb => hgives W x ((hb.cell (p := ⟨B, j, none⟩) hB).trans hcell))
   (fun n os dk x _ => hgives _ x (by
    unfold sortWorld
    rw [cell?_grow _ _ _ (by show B < (putRow _ _ _ _ _).heap.size; rw [size_putRow]; exact hB), cell?_putRow_other _ _ g _ _ _ (Or.inl hn)]
    exact hcell)) h3 (by unfold maxLen at h2; simp; omega) (by simpa using h1)
  simp only [List.size_toArray] at hcon
  refine hcon.mono ?_
  rintro e w' ⟨rfl, q, rfl⟩
  have hc : (xs.filter fun x => !p x).length ≤ xs.length := List.length_filter_le _ _
  obtain ⟨q1, q2⟩ := h6 q #[] ((xs.filter fun x => !p x) ++ List.replicate (xs.length - (xs.filter fun x => !p x).length) 0) (by simp only [List.length_append, List.length_replicate]; omega)
  rw [grow_none] at q1 q2
  have q3 := Kd.R_take (m := (xs.filter fun x => !p x).length) q1 (by simp only [List.length_append]; omega)
  rw [List.take_left' rfl] at q3
  exact ⟨_, rfl, q3, q2, rfl⟩
end Go.Proofs.Ytclhjalgflebfaa.Q

/- 'flow.Next': by hand. -/

namespace Go.Proofs.Ytclhjalgflebfaa.Q
open Go.RowKit Go.Proofs.YtclhjalgflebfaaW.PrintWords Go.Proofs.YtclhjalgflebfaaW.PrintLast Go.Proofs.YtclhjalgflebfaaW.PrintMore
set_option linter.unusedVariables false
set_option linter.unusedSimpArgs false
/-- Where a block's end names. -/
def jumpTo (b : S40) : List Int := if b.f1 = 1 then [b.f3.f0] else if b.f1 = 2 then (if b.f3.f0 = b.f3.f1 then [b.f3.f0] else [b.f3.f0, b.f3.f1]) else []
def inB (n : Nat) (i : Int) : Bool := decide (0 ≤ i) && decide (i < (n : Int))
def nextOf (l : List S40) (b : Int) : List Int := if 0 ≤ b ∧ b < (l.length : Int) then (jumpTo (rd_T40 l b)).filter (inB l.length) else []
def flow_Next.f (a0_0 : ByteArray) (l0_1 : List ByteArray) (a0_2 : ByteArray) (l0_3 : List ByteArray) (l0_4 : List (S58)) (l0_5 : List (S40)) (a1 : Int) : Option (List Int) := some (nextOf l0_5 a1)
theorem next_gives (b c5 n : Nat) (A5 : Option Addr) (W : World) (i : Int) (hc : W.cell? ⟨b, 5, none⟩ = some (.slice A5 n c5)) :
  FnGives Try.prog 52 #[.pointer (some ⟨b, 0, none⟩)] #[.int .i64 i] (.bool (!inB n i)) W := by
 show Calls Try.prog 52 #[.int .i64 i, .pointer (some ⟨b, 0, none⟩)] W _
 by_cases h0 : i < 0
 ·have e : inB n i = false := by simp [inB]; omega
  rw [e]
  go_enter Try.func52, Try.ntmps52
  go_wp2
  go_ret
  exact ⟨rfl, 0, rfl⟩
 ·have hd : decide (i < 0) = false := decide_eq_false h0
  have e : inB n i = decide (i < (n : Int)) := by simp [inB]; omega
  rw [e]
  by_cases h1 : (n : Int) ≤ i
  ·have e1 : decide (i < (n : Int)) = false := decide_eq_false (by omega)
   rw [e1]
   go_enter Try.func52, Try.ntmps52
   go_wp2
   go_ret
   exact ⟨rfl, 0, rfl⟩
  ·have e1 : decide (i < (n : Int)) = true := decide_eq_true (by omega)
   rw [e1]
   go_enter Try.func52, Try.ntmps52
   go_wp2
   go_ret
   exact ⟨rfl, 0, rfl⟩
theorem lit1 {W : World} {base g : Nat} (hg : W.heap.size = g) (hb : base ≤ W.heap.size) (x : Int) : (Kd.int .i64).R 3 (W.alloc (.cells #[.int .i64 x] 3)) base (fun _ => True) (.slice (some ⟨g, 0, none⟩) 1 1) [x] := by
 subst hg
 exact lit_R (Kd.int .i64) base 3 (xs := [x]) (inner := [.int .i64 x]) (okp := fun _ => True) (Reps.one (show Kd.M (Kd.int .i64) _ _ _ x [.int .i64 x] from rfl) (Reps.none _ _)) (fun _ h => h) trivial hb (by simp)
theorem lit2 {W : World} {base g : Nat} (hg : W.heap.size = g) (hb : base ≤ W.heap.size) (x y : Int) : (Kd.int .i64).R 3 (W.alloc (.cells #[.int .i64 x, .int .i64 y] 3)) base (fun _ => True) (.slice (some ⟨g, 0, none⟩) 2 2) [x, y] := by
 subst hg
 exact lit_R (Kd.int .i64) base 3 (xs := [x, y]) (inner := [.int .i64 x, .int .i64 y]) (okp := fun _ => True) (Reps.one (show Kd.M (Kd.int .i64) _ _ _ x [.int .i64 x] from rfl) (Reps.one (show Kd.M (Kd.int .i64) _ _ _ y [.int .i64 y] from rfl) (Reps.none _ _))) (fun _ h => h) trivial hb (by simp)
theorem box_cell (w : World) (cs : Array Value) (T : TypeId) (j : Nat) (v : Value) (hj : cs[j]? = some v) : (w.alloc (.cells cs T)).cell? ⟨w.heap.size, j, none⟩ = some v := by
 rw [World.cell?_alloc_at _ _ _ _ rfl]; exact hj
theorem cell_al {w : World} {a : Addr} {v : Value} (h : w.cell? a = some v) (o : Obj) : (w.alloc o).cell? a = some v := pw_cell_below (below_alloc (Below.refl _ _) o) h
theorem filter_nn (n : Nat) (xs : List Int) : (xs.filter fun x => !(!inB n x)) = xs.filter (inB n) := by simp
theorem next_eg : ∀ args w, (callFunc 52 args).run Try.prog w = .ok (.enter 52 args) w := enters_of Try.func52 (by kernel_rfl) rfl
/-- Behind the literal: those that are blocks. -/
theorem next_del {w W : World} {v A5 : _} {xs : List Int} {n c5 b : Nat} (hb : Below w.heap.size w W) (h : (Kd.int .i64).R 3 W w.heap.size (fun _ => True) v xs) (hc : W.cell? ⟨b, 5, none⟩ = some (.slice A5 n c5)) (hne : ∀ k, v.ownBlock = some k → b ≠ k) :
  Calls Try.prog 51 #[v, .func (.func 52) #[] #[.pointer (some ⟨b, 0, none⟩)]] W fun e w' => ∃ A c, e = .returned (.slice A (xs.filter (inB n)).length c) ∧ (Kd.int .i64).R 3 w' w.heap.size (fun _ => True) (.slice A (xs.filter (inB n)).length c) (xs.filter (inB n)) ∧ Below w.heap.size w w' := by
 refine (delete_R h 52 b 5 _ (fun i => !inB n i) next_eg hc hne (fun W x hx => next_gives b c5 n A5 W x hx)).mono ?_
 rintro e w' ⟨v', rfl, q1, q2, q3⟩
 rw [filter_nn] at q1
 obtain ⟨A, c, rfl⟩ := Kd.R_slice q1
 exact ⟨A, c, rfl, q1, pw_below_grown hb _ hb.size q2 (fun k hk => Kd.R_base h k hk)⟩
theorem compact_two (x y : Int) : Lib.compact [x, y] = if x = y then [x] else [x, y] := by
 unfold Lib.compact Lib.compactUpTo
 by_cases h : x = y
 ·simp [h, List.range_succ, Lib.keeps]
 ·simp [h, List.range_succ, Lib.keeps, Ne.symm h]
set_option maxRecDepth 100000 in
set_option maxHeartbeats 1000000 in
theorem flow_Next.calls (a0_0 : ByteArray) (A0_1 : Option Addr) (c0_1 : Nat) (l0_1 : List ByteArray) (a0_2 : ByteArray) (A0_3 : Option Addr) (c0_3 : Nat) (l0_3 : List ByteArray) (A0_4 : Option Addr) (c0_4 : Nat) (l0_4 : List (S58)) (A0_5 : Option Addr) (c0_5 : Nat) (l0_5 : List (S40)) (a1 : Int) (r : List Int) (w : World) (hr0_1 : Kd.C Kd.string w A0_1 l0_1.length l0_1) (hc0_1 : l0_1.length ≤ c0_1) (hr0_3 : Kd.C Kd.string w A0_3 l0_3.length l0_3) (hc0_3 : l0_3.length ≤ c0_3) (hr0_4 : Kd.C k58 w A0_4 l0_4.length l0_4) (hc0_4 : l0_4.length ≤ c0_4) (hr0_5 : Kd.C k40 w A0_5 l0_5.length l0_5) (hc0_5 : l0_5.length ≤ c0_5) (h : flow_Next.f a0_0 l0_1 a0_2 l0_3 l0_4 l0_5 a1 = some r) :
  Calls Try.prog 20 #[.agg #[.string a0_0, .slice A0_1 l0_1.length c0_1, .string a0_2, .slice A0_3 l0_3.length c0_3, .slice A0_4 l0_4.length c0_4, .slice A0_5 l0_5.length c0_5], .int .i64 a1] w fun e w' => ∃ v0_ : Value, e = .returned (v0_) ∧ Kd.R (Kd.int .i64) 3 w' w.heap.size (fun _ => True) v0_ r ∧ Below w.heap.size w w' := by
 have hr := Option.some.inj h
 clear h
 have HR0 := Aside0.mk hr0_5
 have HC0 := Aside0.mk hc0_5
 clear hr0_1 hc0_1 hr0_3 hc0_3 hr0_4 hc0_4 hr0_5 hc0_5
 unfold nextOf at hr
 by_cases hin : 0 ≤ a1 ∧ a1 < (l0_5.length : Int)
 case neg =>
  rw [if_neg hin] at hr
  subst hr
  by_cases h0 : a1 < 0
  ·go_enter Try.func20, Try.ntmps20
   go_wp2
   go_ret
   exact ⟨_, rfl, Kd.R_nil _ _ _ _ _, below_alloc (Below.refl _ _) _⟩
  ·have hd : decide (a1 < 0) = false := decide_eq_false h0
   have h1 : (l0_5.length : Int) ≤ a1 := by omega
   go_enter Try.func20, Try.ntmps20
   go_wp2
   go_ret
   exact ⟨_, rfl, Kd.R_nil _ _ _ _ _, below_alloc (Below.refl _ _) _⟩
 case pos =>
  rw [if_pos hin] at hr
  have hd0 : decide (a1 < 0) = false := decide_eq_false (by omega)
  have hd1 : decide ((l0_5.length : Int) ≤ a1) = false := decide_eq_false (by omega)
  obtain ⟨ad, A0, c0, e1, hx0, hx1, hx2, hx3, hx4, hl, hC⟩ := at_T40 (Kd.C_alloc HR0.out (.cells #[.string a0_0, .slice A0_1 l0_1.length c0_1, .string a0_2, .slice A0_3 l0_3.length c0_3, .slice A0_4 l0_4.length c0_4, .slice A0_5 l0_5.length c0_5] 26)) a1 hin.1 hin.2
  subst e1
  clear hl hC
  generalize hb : rd_T40 l0_5 a1 = b at hr hx0 hx1 hx2 hx3 hx4
  clear hb
  by_cases hg : b.f1 = 1
  ·unfold jumpTo at hr
   rw [if_pos hg] at hr
   rw [hg] at hx1
   go_enter Try.func20, Try.ntmps20
   go_wp2_with fail
   have hb3 := below_alloc (below_alloc (below_alloc (Below.refl w.heap.size w) (.cells #[.string a0_0, .slice A0_1 l0_1.length c0_1, .string a0_2, .slice A0_3 l0_3.length c0_3, .slice A0_4 l0_4.length c0_4, .slice (some ad) l0_5.length c0_5] 26)) (.cells #[.slice A0 b.f0.length c0, .int .i64 1, .int .i64 b.f2, .int .i64 b.f3.f0, .int .i64 b.f3.f1] 40)) (.cells #[.int .i64 b.f3.f0] 3)
   refine (next_del (b := w.heap.size) (n := l0_5.length) (c5 := c0_5) (A5 := some ad) hb3 (lit1 (by rw [World.size_alloc, World.size_alloc]) (below_alloc (below_alloc (Below.refl _ _) _) _).size b.f3.f0) (cell_al (cell_al (box_cell _ _ _ _ _ rfl) _) _) ?_).mono ?_
   ·intro k hk; simp only [Value.ownBlock, Option.map_some, Option.some.injEq] at hk; omega
   rintro e w' ⟨A, c, rfl, q1, q2⟩
   have Q1 := Aside0.mk q1; have Q2 := Aside0.mk q2; clear q1 q2 hb3
   go_wp2
   go_ret
   exact ⟨_, rfl, by rw [← hr]; exact Q1.out, Q2.out⟩
  ·unfold jumpTo at hr
   rw [if_neg hg] at hr
   have hd2 : decide (b.f1 = 1) = false := decide_eq_false hg
   have hd2' : (b.f1 == 1) = false := beq_eq_false_iff_ne.mpr hg
   by_cases hg2 : b.f1 = 2
   ·rw [if_pos hg2] at hr
    rw [hg2] at hx1
    clear hg hd2 hd2'
    go_enter Try.func20, Try.ntmps20
    go_wp2_with fail
    have hb3 := below_alloc (below_alloc (below_alloc (Below.refl w.heap.size w) (.cells #[.string a0_0, .slice A0_1 l0_1.length c0_1, .string a0_2, .slice A0_3 l0_3.length c0_3, .slice A0_4 l0_4.length c0_4, .slice (some ad) l0_5.length c0_5] 26)) (.cells #[.slice A0 b.f0.length c0, .int .i64 2, .int .i64 b.f2, .int .i64 b.f3.f0, .int .i64 b.f3.f1] 40)) (.cells #[.int .i64 b.f3.f0, .int .i64 b.f3.f1] 3)
    have hq := lit2 (W := (w.alloc (.cells #[.string a0_0, .slice A0_1 l0_1.length c0_1, .string a0_2, .slice A0_3 l0_3.length c0_3, .slice A0_4 l0_4.length c0_4, .slice (some ad) l0_5.length c0_5] 26)).alloc (.cells #[.slice A0 b.f0.length c0, .int .i64 2, .int .i64 b.f2, .int .i64 b.f3.f0, .int .i64 b.f3.f1] 40)) (base := w.heap.size) (g := w.heap.size + 1 + 1) (by rw [World.size_alloc, World.size_alloc]) (below_alloc (below_alloc (Below.refl _ _) _) _).size b.f3.f0 b.f3.f1
    have hc5 : (((w.alloc (.cells #[.string a0_0, .slice A0_1 l0_1.length c0_1, .string a0_2, .slice A0_3 l0_3.length c0_3, .slice A0_4 l0_4.length c0_4, .slice (some ad) l0_5.length c0_5] 26)).alloc (.cells #[.slice A0 b.f0.length c0, .int .i64 2, .int .i64 b.f2, .int .i64 b.f3.f0, .int .i64 b.f3.f1] 40)).alloc (.cells #[.int .i64 b.f3.f0, .int .i64 b.f3.f1] 3)).cell? ⟨w.heap.size, 5, none⟩ = some (.slice (some ad) l0_5.length c0_5) := cell_al (cell_al (box_cell _ _ _ _ _ rfl) _) _
    refine (compact_R hq).mono ?_
    rintro e w4 ⟨v4, rfl, q1, q2, q3⟩
    have hcell := cell_grown q2 hc5 (by intro hk; simp only [Value.ownBlock, Option.map_some, Option.some.injEq] at hk; omega)
    have Q1 := Aside0.mk q1
    have Q3 := Aside0.mk q3
    have Q2 := Aside0.mk (pw_below_grown hb3 _ hb3.size q2 (fun k hk => Kd.R_base hq k hk))
    clear q1 q2 hb3 hq hc5
    go_wp2_with fail
    refine (next_del (b := w.heap.size) (n := l0_5.length) (c5 := c0_5) (A5 := some ad) Q2.out Q1.out hcell ?_).mono ?_
    ·intro k hk; rw [Q3.out] at hk; simp only [Value.ownBlock, Option.map_some, Option.some.injEq] at hk; omega
    rintro e w' ⟨A, c, rfl, q1, q2⟩
    have Q4 := Aside0.mk q1; have Q5 := Aside0.mk q2; clear q1 q2
    go_wp2
    go_ret
    exact ⟨_, rfl, by rw [← hr, ← compact_two]; exact Q4.out, Q5.out⟩
   ·rw [if_neg hg2] at hr
    have hd3 : decide (b.f1 = 2) = false := decide_eq_false hg2
    have hd3' : (b.f1 == 2) = false := beq_eq_false_iff_ne.mpr hg2
    go_enter Try.func20, Try.ntmps20
    go_wp2_with fail
    have hb3 := below_alloc (below_alloc (Below.refl w.heap.size w) (.cells #[.string a0_0, .slice A0_1 l0_1.length c0_1, .string a0_2, .slice A0_3 l0_3.length c0_3, .slice A0_4 l0_4.length c0_4, .slice (some ad) l0_5.length c0_5] 26)) (.cells #[.slice A0 b.f0.length c0, .int .i64 b.f1, .int .i64 b.f2, .int .i64 b.f3.f0, .int .i64 b.f3.f1] 40)
    refine (next_del (b := w.heap.size) (n := l0_5.length) (c5 := c0_5) (A5 := some ad) hb3 (Kd.R_nil _ _ _ _ _) (cell_al (box_cell _ _ _ _ _ rfl) _) ?_).mono ?_
    ·intro k hk; simp [Value.ownBlock] at hk
    rintro e w' ⟨A, c, rfl, q1, q2⟩
    have Q1 := Aside0.mk q1; have Q2 := Aside0.mk q2; clear q1 q2 hb3
    go_wp2
    go_ret
    exact ⟨_, rfl, by rw [← hr]; exact Q1.out, Q2.out⟩
end Go.Proofs.Ytclhjalgflebfaa.Q

namespace Go.Proofs.Ytclhjalgflebfaa.Q
open Go.RowKit Go.Proofs.YtclhjalgflebfaaW.PrintWords Go.Proofs.YtclhjalgflebfaaW.PrintLast Go.Proofs.YtclhjalgflebfaaW.PrintMore
attribute [local go_sem] max2_int min2_int max_two min_two max_three min_three max_four min_four   -- for this text's walks alone
set_option linter.unusedVariables false
set_option linter.unusedSimpArgs false

/-! ### flow_Ahead: function 16 -/
mutual
def flow_Ahead.l0 : Nat → List (List Int) → Int → Int → ByteArray → List ByteArray → ByteArray → List ByteArray → List (S58) → List (S40) → Option ((List (List Int)))
 | 0, _, _, _, _, _, _, _, _, _ => none
 | k + 1, x3, x13, x14, x116000, x116001, x116002, x116003, x116004, x116005 => if x14 < x13 then ((flow_Next.f x116000 x116001 x116002 x116003 x116004 x116005 x14).bind fun t119 => (flow_Ahead.l1 k x3 x14 x13 x14 t119 (t119.length : Int) 0 x116000 x116001 x116002 x116003 x116004 x116005)) else (some x3)
def flow_Ahead.l1 : Nat → List (List Int) → Int → Int → Int → List Int → Int → Int → ByteArray → List ByteArray → ByteArray → List ByteArray → List (S58) → List (S40) → Option ((List (List Int)))
 | 0, _, _, _, _, _, _, _, _, _, _, _, _, _ => none
 | k + 1, x3, x4, x13, x14, x19, x20, x21, x116000, x116001, x116002, x116003, x116004, x116005 => if x21 < x20 then (if 0 ≤ x21 then (if x21 < (x19.length : Int) then (if 0 ≤ (rd x19 x21) then (if (rd x19 x21) < (x3.length : Int) then (if (rd_L2 x3 (rd x19 x21)).length < 17592186044416 then (flow_Ahead.l1 k (x3.set ((rd x19 x21) : Int).toNat ((rd_L2 x3 (rd x19 x21)) ++ [x4])) x4 x13 x14 x19 x20 (wrap64 (x21 + 1)) x116000 x116001 x116002 x116003 x116004 x116005) else (none)) else (none)) else (none)) else (none)) else (none)) else (flow_Ahead.l0 k x3 x13 (wrap64 (x14 + 1)) x116000 x116001 x116002 x116003 x116004 x116005)
end
def flow_Ahead.f (k : Nat) (a0_0 : ByteArray) (l0_1 : List ByteArray) (a0_2 : ByteArray) (l0_3 : List ByteArray) (l0_4 : List (S58)) (l0_5 : List (S40)) : Option ((List (List Int))) := if 0 ≤ (l0_5.length : Int) then (if ((l0_5.length : Int) : Int).toNat ≤ 11728124029610 then (flow_Ahead.l0 k (List.replicate ((l0_5.length : Int) : Int).toNat []) (l0_5.length : Int) 0 a0_0 l0_1 a0_2 l0_3 l0_4 l0_5) else (none)) else (none)
theorem flow_Ahead.mono_l : ∀ k, (∀ y0 y1 y2 y3 y4 y5 y6 y7 y8, LeO (flow_Ahead.l0 k y0 y1 y2 y3 y4 y5 y6 y7 y8) (flow_Ahead.l0 (k + 1) y0 y1 y2 y3 y4 y5 y6 y7 y8)) ∧ (∀ y0 y1 y2 y3 y4 y5 y6 y7 y8 y9 y10 y11 y12, LeO (flow_Ahead.l1 k y0 y1 y2 y3 y4 y5 y6 y7 y8 y9 y10 y11 y12) (flow_Ahead.l1 (k + 1) y0 y1 y2 y3 y4 y5 y6 y7 y8 y9 y10 y11 y12))
 | 0 => ⟨fun _ _ _ _ _ _ _ _ _ r h => by simp [flow_Ahead.l0] at h, fun _ _ _ _ _ _ _ _ _ _ _ _ _ r h => by simp [flow_Ahead.l1] at h⟩
 | k + 1 => by
  obtain ⟨ih0, ih1⟩ := flow_Ahead.mono_l k
  refine ⟨?_, ?_⟩
  ·intro y0 y1 y2 y3 y4 y5 y6 y7 y8
   unfold flow_Ahead.l0
   repeat' first
   | (with_reducible exact ih0 _ _ _ _ _ _ _ _ _)
   | (with_reducible exact ih1 _ _ _ _ _ _ _ _ _ _ _ _ _)
   | (with_reducible exact LeO.refl _)
   | (with_reducible exact LeO.none _)
   | (with_reducible refine LeO.ite ?_ ?_)
   | (with_reducible refine LeO.bind ?_ (fun _ => ?_))
   | exact ih0 _ _ _ _ _ _ _ _ _
   | exact ih1 _ _ _ _ _ _ _ _ _ _ _ _ _
   | exact LeO.none _
   | refine LeO.ite ?_ ?_
   | refine LeO.bind ?_ (fun _ => ?_)
  ·intro y0 y1 y2 y3 y4 y5 y6 y7 y8 y9 y10 y11 y12
   unfold flow_Ahead.l1
   repeat' first
   | (with_reducible exact ih0 _ _ _ _ _ _ _ _ _)
   | (with_reducible exact ih1 _ _ _ _ _ _ _ _ _ _ _ _ _)
   | (with_reducible exact LeO.refl _)
   | (with_reducible exact LeO.none _)
   | (with_reducible refine LeO.ite ?_ ?_)
   | (with_reducible refine LeO.bind ?_ (fun _ => ?_))
   | exact ih0 _ _ _ _ _ _ _ _ _
   | exact ih1 _ _ _ _ _ _ _ _ _ _ _ _ _
   | exact LeO.none _
   | refine LeO.ite ?_ ?_
   | refine LeO.bind ?_ (fun _ => ?_)
theorem flow_Ahead.mono : ∀ a0 a1 a2 a3 a4 a5 k, LeO (flow_Ahead.f k a0 a1 a2 a3 a4 a5) (flow_Ahead.f (k + 1) a0 a1 a2 a3 a4 a5) := by
 intro a0 a1 a2 a3 a4 a5 k
 obtain ⟨ih0, ih1⟩ := flow_Ahead.mono_l k
 unfold flow_Ahead.f
 repeat' first
   | (with_reducible exact ih0 _ _ _ _ _ _ _ _ _)
   | (with_reducible exact ih1 _ _ _ _ _ _ _ _ _ _ _ _ _)
   | (with_reducible exact LeO.refl _)
   | (with_reducible exact LeO.none _)
   | (with_reducible refine LeO.ite ?_ ?_)
   | (with_reducible refine LeO.bind ?_ (fun _ => ?_))
   | exact ih0 _ _ _ _ _ _ _ _ _
   | exact ih1 _ _ _ _ _ _ _ _ _ _ _ _ _
   | exact LeO.none _
   | refine LeO.ite ?_ ?_
   | refine LeO.bind ?_ (fun _ => ?_)
set_option maxHeartbeats 8000000 in
set_option maxRecDepth 100000 in
theorem flow_Ahead.calls (k : Nat) (a0_0 : ByteArray) (A0_1 : Option Addr) (c0_1 : Nat) (l0_1 : List ByteArray) (a0_2 : ByteArray) (A0_3 : Option Addr) (c0_3 : Nat) (l0_3 : List ByteArray) (A0_4 : Option Addr) (c0_4 : Nat) (l0_4 : List (S58)) (A0_5 : Option Addr) (c0_5 : Nat) (l0_5 : List (S40)) (r : List (List Int)) (w : World) (hr0_1 : Kd.C Kd.string w A0_1 l0_1.length l0_1) (hc0_1 : l0_1.length ≤ c0_1) (hr0_3 : Kd.C Kd.string w A0_3 l0_3.length l0_3) (hc0_3 : l0_3.length ≤ c0_3) (hr0_4 : Kd.C k58 w A0_4 l0_4.length l0_4) (hc0_4 : l0_4.length ≤ c0_4) (hr0_5 : Kd.C k40 w A0_5 l0_5.length l0_5) (hc0_5 : l0_5.length ≤ c0_5) (h : flow_Ahead.f k a0_0 l0_1 a0_2 l0_3 l0_4 l0_5 = some r) :
  Calls Try.prog 16 #[.agg #[.string a0_0, .slice A0_1 l0_1.length c0_1, .string a0_2, .slice A0_3 l0_3.length c0_3, .slice A0_4 l0_4.length c0_4, .slice A0_5 l0_5.length c0_5]] w fun e w' => ∃ v0_ : Value, e = .returned (v0_) ∧ Kd.S (Kd.slice 3 (Kd.int .i64)) 34 w' w.heap.size (fun _ => True) v0_ r ∧ Below w.heap.size w w' := by
 have hu26 := Try.underlying26
 have HR0_1 := Aside0.mk hr0_1
 have HC0_1 := Aside0.mk hc0_1
 clear hr0_1 hc0_1
 have HR0_3 := Aside0.mk hr0_3
 have HC0_3 := Aside0.mk hc0_3
 clear hr0_3 hc0_3
 have HR0_4 := Aside0.mk hr0_4
 have HC0_4 := Aside0.mk hc0_4
 clear hr0_4 hc0_4
 have HR0_5 := Aside0.mk hr0_5
 have HC0_5 := Aside0.mk hc0_5
 clear hr0_5 hc0_5
 have HB := Aside0.mk (Below.refl w.heap.size w)
 have H : (if 0 ≤ (l0_5.length : Int) then (if ((l0_5.length : Int) : Int).toNat ≤ 11728124029610 then (flow_Ahead.l0 k (List.replicate ((l0_5.length : Int) : Int).toNat []) (l0_5.length : Int) 0 a0_0 l0_1 a0_2 l0_3 l0_4 l0_5) else (none)) else (none)) = some r := h
 clear h
 by_cases c2 : 0 ≤ (l0_5.length : Int)
 ·rw [if_pos c2] at H
  have c2b0 := eq_true c2
  have c2b1 : decide (0 ≤ (l0_5.length : Int)) = true := decide_eq_true c2
  clear c2
  by_cases c3 : ((l0_5.length : Int) : Int).toNat ≤ 11728124029610
  ·rw [if_pos c3] at H
   have c3b0 := eq_true c3
   have c3b1 : decide (((l0_5.length : Int) : Int).toNat ≤ 11728124029610) = true := decide_eq_true c3
   clear c3
   obtain ⟨y116, hy116⟩ : ∃ y_ : List (List Int), y_ = (List.replicate ((l0_5.length : Int) : Int).toNat []) := ⟨_, rfl⟩
   replace H : (flow_Ahead.l0 k y116 (l0_5.length : Int) 0 a0_0 l0_1 a0_2 l0_3 l0_4 l0_5) = some r := by first | (rw [hy116]; with_reducible exact H) | (have H2_ := (Option.bind_some _ _).symm.trans H; rw [hy116]; with_reducible exact H2_) | (have H2_ := (Option.bind_some _ _).symm.trans H; with_reducible exact H2_) | with_reducible exact H | (rw [hy116]; exact H) | exact H
   have Ny116 := Aside0.mk hy116
   clear hy116
   have H' := Aside0.mk H
   clear H
   go_enter Try.func16, Try.ntmps16
   go_wp2_with (first | ((with_reducible refine gate_dst (N := 1) rfl ?_); refine box_event ?hg (N := 1) ?hd (cs := #[.string a0_0, .slice A0_1 l0_1.length c0_1, .string a0_2, .slice A0_3 l0_3.length c0_3, .slice A0_4 l0_4.length c0_4, .slice A0_5 l0_5.length c0_5]) (t := 26) ?hr ?_; (case hd => rfl); (case hg => rfl); (case hr => first | (go_simp; done) | (go_simp; rfl)); intro gb115 hg w4 hbox hb; have n0_ := Aside0.mk (below_step (by repeat (first | (with_reducible first | exact HB.out | apply below_alloc | apply pw_below_drewN | apply below_drew1) | exact HB.out)) hb); have n1_ := Aside0.mk (hbox); have n2_ := Aside0.mk ((by rw [hg]; exact (below_size (by repeat (first | (with_reducible first | exact HB.out | apply below_alloc | apply pw_below_drewN | apply below_drew1) | exact HB.out))) : w.heap.size ≤ gb115)); have n3_ := Aside0.mk ((by rw [hg]; exact (below_size (by repeat (first | (with_reducible first | exact HB.out | apply below_alloc | apply pw_below_drewN | apply below_drew1) | exact HB.out))) : w.heap.size ≤ gb115)); clear HB; have HB := n0_; have BK115 := n1_; have GW115 := n2_; have GE115 := n3_; clear n0_ n1_ n2_ n3_; clear hb hbox hg; have hcz5_0 : w4.cell? ⟨gb115, 0, none⟩ = some (.string a0_0) := (blk_cell BK115.out 0).trans rfl; have hcz5_1 : w4.cell? ⟨gb115, 1, none⟩ = some (.slice A0_1 l0_1.length c0_1) := (blk_cell BK115.out 1).trans rfl; have hcz5_2 : w4.cell? ⟨gb115, 2, none⟩ = some (.string a0_2) := (blk_cell BK115.out 2).trans rfl; have hcz5_3 : w4.cell? ⟨gb115, 3, none⟩ = some (.slice A0_3 l0_3.length c0_3) := (blk_cell BK115.out 3).trans rfl; have hcz5_4 : w4.cell? ⟨gb115, 4, none⟩ = some (.slice A0_4 l0_4.length c0_4) := (blk_cell BK115.out 4).trans rfl; have hcz5_5 : w4.cell? ⟨gb115, 5, none⟩ = some (.slice A0_5 l0_5.length c0_5) := (blk_cell BK115.out 5).trans rfl; have hfz5_0 := blk_frozen BK115.out 0; have hfz5_1 := blk_frozen BK115.out 1; have hfz5_2 := blk_frozen BK115.out 2; have hfz5_3 := blk_frozen BK115.out 3; have hfz5_4 := blk_frozen BK115.out 4; have hfz5_5 := blk_frozen BK115.out 5) | ((with_reducible refine gate_dst (N := 10) rfl ?_); refine Kd.S_make (Kd.slice 3 (Kd.int .i64)) _ 34 rfl (N := 10) rfl 29 _ _ rfl (l0_5.length : Int) rfl rfl Try.underlying29 (.slice none 0 0) 24 info34 rfl (by decide) (by omega) [] (ok := fun _ => True) (okp := fun _ => True) ⟨_, rfl, Kd.R_nil _ _ _ _ _⟩ (fun _ hk => hk) trivial (of_decide_eq_true (by first | (with_reducible assumption) | assumption)) (Nat.le_trans (Nat.mul_le_mul_right _ (of_decide_eq_true (by first | (with_reducible assumption) | assumption) : (l0_5.length : Int).toNat ≤ 11728124029610)) (by omega)) (Below.refl _ _) (Nat.le_refl _) ?_; intro v117 w6 ho7 hb hg_ hnew_; clear hg_ hnew_; (first | rw [← Ny116.out] at ho7 | (simp only [Int.reduceToNat] at ho7; rw [← Ny116.out] at ho7)); have n0_ := Aside0.mk (Kd.S_lower ho7 (below_size (by repeat (first | (with_reducible first | exact HB.out | apply below_alloc | apply pw_below_drewN | apply below_drew1 | refine below_set ?_ GE115.out) | exact HB.out)))); have n1_ := Aside0.mk (blk_below (g := gb115) (o := .cells #[.string a0_0, .slice A0_1 l0_1.length c0_1, .string a0_2, .slice A0_3 l0_3.length c0_3, .slice A0_4 l0_4.length c0_4, .slice A0_5 l0_5.length c0_5] 26 (0, 0)) (by (with_reducible repeat (first | refine blk_drewN ?_ _ | refine blk_drew ?_ | refine blk_alloc ?_ _)); exact BK115.out) hb); have n2_ := Aside0.mk (below_step (by repeat (first | (with_reducible first | exact HB.out | apply below_alloc | apply pw_below_drewN | apply below_drew1 | refine below_set ?_ GE115.out) | exact HB.out)) hb); clear BK115; clear HB; have HO118 := n0_; have BK115 := n1_; have HB := n2_; clear n0_ n1_ n2_; clear hb ho7; have hcz8_0 : w6.cell? ⟨gb115, 0, none⟩ = some (.string a0_0) := (blk_cell BK115.out 0).trans rfl; have hcz8_1 : w6.cell? ⟨gb115, 1, none⟩ = some (.slice A0_1 l0_1.length c0_1) := (blk_cell BK115.out 1).trans rfl; have hcz8_2 : w6.cell? ⟨gb115, 2, none⟩ = some (.string a0_2) := (blk_cell BK115.out 2).trans rfl; have hcz8_3 : w6.cell? ⟨gb115, 3, none⟩ = some (.slice A0_3 l0_3.length c0_3) := (blk_cell BK115.out 3).trans rfl; have hcz8_4 : w6.cell? ⟨gb115, 4, none⟩ = some (.slice A0_4 l0_4.length c0_4) := (blk_cell BK115.out 4).trans rfl; have hcz8_5 : w6.cell? ⟨gb115, 5, none⟩ = some (.slice A0_5 l0_5.length c0_5) := (blk_cell BK115.out 5).trans rfl; have hfz8_0 := blk_frozen BK115.out 0; have hfz8_1 := blk_frozen BK115.out 1; have hfz8_2 := blk_frozen BK115.out 2; have hfz8_3 := blk_frozen BK115.out 3; have hfz8_4 := blk_frozen BK115.out 4; have hfz8_5 := blk_frozen BK115.out 5))
   go_loopg [14] k (fun kq v14 w' => ∃ (x3_1 : List (List Int)) (x14_1 : Int), v14 = .int .i64 x14_1 ∧ Aside0 (flow_Ahead.l0 kq x3_1 (l0_5.length : Int) x14_1 a0_0 l0_1 a0_2 l0_3 l0_4 l0_5 = some r) ∧ Aside0 (kq ≤ k) ∧ Aside0 (Kd.S (Kd.slice 3 (Kd.int .i64)) 34 w' w.heap.size (fun _ => True) v117 x3_1) ∧ Aside0 (w'.heap[gb115]? = some (.cells #[.string a0_0, (.slice A0_1 l0_1.length c0_1), .string a0_2, (.slice A0_3 l0_3.length c0_3), (.slice A0_4 l0_4.length c0_4), (.slice A0_5 l0_5.length c0_5)] 26 (0, 0))) ∧ Aside0 (Below w.heap.size w w'))
   case atStart => exact ⟨(y116), (0), (by first | rfl | (simp; done) | (simp [*]; done)), H', ⟨Nat.le_refl _⟩, ⟨by (with_reducible repeat (first | apply Kd.S_alloc | apply Kd.S_drewN | apply Kd.S_drew)); exact HO118.out⟩, ⟨by (with_reducible repeat (first | refine blk_drewN ?_ _ | refine blk_drew ?_ | refine blk_alloc ?_ _)); exact BK115.out⟩, ⟨by repeat (first | (with_reducible first | exact HB.out | apply below_alloc | apply pw_below_drewN | apply below_drew1 | refine below_set ?_ GE115.out) | exact HB.out)⟩⟩
   case round =>
    clear H'
    try clear c1
    try clear c2
    try clear c2b0
    try clear c2b1
    try clear p2
    try clear c3
    try clear c3b0
    try clear c3b1
    try clear hcz5_0
    try clear hcz5_1
    try clear hcz5_2
    try clear hcz5_3
    try clear hcz5_4
    try clear hcz5_5
    try clear hcz8_0
    try clear hcz8_1
    try clear hcz8_2
    try clear hcz8_3
    try clear hcz8_4
    try clear hcz8_5
    try clear hfz5_0
    try clear hfz5_1
    try clear hfz5_2
    try clear hfz5_3
    try clear hfz5_4
    try clear hfz5_5
    try clear hfz8_0
    try clear hfz8_1
    try clear hfz8_2
    try clear hfz8_3
    try clear hfz8_4
    try clear hfz8_5
    obtain ⟨x3_1, x14_1, rfl, HA, HK1, HO_3, BK115, HB⟩ := hrel
    cases gk with
    | zero => exact absurd HA.out (by simp [flow_Ahead.l0])
    | succ k1 =>
     have H := HA.out
     clear HA
     simp only [flow_Ahead.l0] at H
     by_cases c9 : x14_1 < (l0_5.length : Int)
     ·rw [if_pos c9] at H
      have c9b0 : decide (x14_1 < (l0_5.length : Int)) = true := decide_eq_true c9
      clear c9
      replace H := Option.bind_eq_some_iff.mp H
      obtain ⟨t119, A100, H⟩ := H
      replace H : (flow_Ahead.l1 k1 x3_1 x14_1 (l0_5.length : Int) x14_1 t119 (t119.length : Int) 0 a0_0 l0_1 a0_2 l0_3 l0_4 l0_5) = some r := H
      have A10 := Aside0.mk A100
      clear A100
      have H' := Aside0.mk H
      clear H
      have hcz11_0 : wr.cell? ⟨gb115, 0, none⟩ = some (.string a0_0) := (blk_cell BK115.out 0).trans rfl
      have hcz11_1 : wr.cell? ⟨gb115, 1, none⟩ = some (.slice A0_1 l0_1.length c0_1) := (blk_cell BK115.out 1).trans rfl
      have hcz11_2 : wr.cell? ⟨gb115, 2, none⟩ = some (.string a0_2) := (blk_cell BK115.out 2).trans rfl
      have hcz11_3 : wr.cell? ⟨gb115, 3, none⟩ = some (.slice A0_3 l0_3.length c0_3) := (blk_cell BK115.out 3).trans rfl
      have hcz11_4 : wr.cell? ⟨gb115, 4, none⟩ = some (.slice A0_4 l0_4.length c0_4) := (blk_cell BK115.out 4).trans rfl
      have hcz11_5 : wr.cell? ⟨gb115, 5, none⟩ = some (.slice A0_5 l0_5.length c0_5) := (blk_cell BK115.out 5).trans rfl
      have hfz11_0 := blk_frozen BK115.out 0
      have hfz11_1 := blk_frozen BK115.out 1
      have hfz11_2 := blk_frozen BK115.out 2
      have hfz11_3 := blk_frozen BK115.out 3
      have hfz11_4 := blk_frozen BK115.out 4
      have hfz11_5 := blk_frozen BK115.out 5
      go_wp2_with (first | ((with_reducible refine gate_callee (f := 20) rfl ?_); refine goesL_ (some 19) rfl rfl Try.func20 (by kernel_rfl) rfl #[.agg #[.string a0_0, .slice A0_1 l0_1.length c0_1, .string a0_2, .slice A0_3 l0_3.length c0_3, .slice A0_4 l0_4.length c0_4, .slice A0_5 l0_5.length c0_5], .int .i64 x14_1] rfl (by (try simp only [List.map_toArray, List.map_cons, List.map_nil]); first | done | rfl | (simp only [List.length_drop, List.length_take]; rfl)) ?_; (with_reducible refine (flow_Next.calls a0_0 _ _ l0_1 a0_2 _ _ l0_3 _ _ l0_4 _ _ l0_5 x14_1 t119 _ ?side1 ?side2 ?side3 ?side4 ?side5 ?side6 ?side7 ?side8 A10.out).mono ?_); (case side1 => repeat (first | exact (Kd.C_below HR0_1.out HB.out) | (with_reducible refine Kd.C_alloc ?_ _) | (with_reducible refine Kd.C_drewN ?_ _) | (with_reducible refine Kd.C_drew ?_))); (case side2 => exact HC0_1.out); (case side3 => repeat (first | exact (Kd.C_below HR0_3.out HB.out) | (with_reducible refine Kd.C_alloc ?_ _) | (with_reducible refine Kd.C_drewN ?_ _) | (with_reducible refine Kd.C_drew ?_))); (case side4 => exact HC0_3.out); (case side5 => repeat (first | exact (Kd.C_below HR0_4.out HB.out) | (with_reducible refine Kd.C_alloc ?_ _) | (with_reducible refine Kd.C_drewN ?_ _) | (with_reducible refine Kd.C_drew ?_))); (case side6 => exact HC0_4.out); (case side7 => repeat (first | exact (Kd.C_below HR0_5.out HB.out) | (with_reducible refine Kd.C_alloc ?_ _) | (with_reducible refine Kd.C_drewN ?_ _) | (with_reducible refine Kd.C_drew ?_))); (case side8 => exact HC0_5.out); rintro e w12 ⟨v120, rfl, ho0, hb⟩; refine ⟨_, rfl, ?_⟩; have n0_ := Aside0.mk (Kd.S_elder' (by (with_reducible repeat (first | apply Kd.S_alloc | apply Kd.S_drewN | apply Kd.S_drew)); exact HO_3.out) (Kd.R_base ho0) hb); have n1_ := Aside0.mk (Kd.R_lower ho0 (below_size (by repeat (first | (with_reducible first | exact HB.out | apply below_alloc | apply pw_below_drewN | apply below_drew1 | refine below_set ?_ GE115.out) | exact HB.out)))); have n2_ := Aside0.mk (blk_below (g := gb115) (o := .cells #[.string a0_0, .slice A0_1 l0_1.length c0_1, .string a0_2, .slice A0_3 l0_3.length c0_3, .slice A0_4 l0_4.length c0_4, .slice A0_5 l0_5.length c0_5] 26 (0, 0)) (by (with_reducible repeat (first | refine blk_drewN ?_ _ | refine blk_drew ?_ | refine blk_alloc ?_ _)); exact BK115.out) hb); have n3_ := Aside0.mk (below_step (by repeat (first | (with_reducible first | exact HB.out | apply below_alloc | apply pw_below_drewN | apply below_drew1 | refine below_set ?_ GE115.out) | exact HB.out)) hb); clear HO_3; clear BK115; clear HB; have HO_3 := n0_; have HO121 := n1_; have BK115 := n2_; have HB := n3_; clear n0_ n1_ n2_ n3_; (try clear hb); (try clear hb2); (try clear hk); (try clear hi); (try clear ho0); obtain ⟨Ao13, co13, eo13⟩ := Kd.R_slice HO121.out; subst eo13))
      go_loopg [21] k1 (fun kq v21 w' => ∃ (x3_2 : List (List Int)) (x21_2 : Int), v21 = .int .i64 x21_2 ∧ Aside0 (flow_Ahead.l1 kq x3_2 x14_1 (l0_5.length : Int) x14_1 t119 (t119.length : Int) x21_2 a0_0 l0_1 a0_2 l0_3 l0_4 l0_5 = some r) ∧ Aside0 (kq ≤ k1) ∧ Aside0 (Kd.S (Kd.slice 3 (Kd.int .i64)) 34 w' w.heap.size (fun k_ => some k_ ≠ ((.slice Ao13 t119.length co13) : Value).ownBlock) v117 x3_2) ∧ Aside0 (Kd.R (Kd.int .i64) 3 w' w.heap.size (fun _ => True) (.slice Ao13 t119.length co13) t119) ∧ Aside0 (w'.heap[gb115]? = some (.cells #[.string a0_0, (.slice A0_1 l0_1.length c0_1), .string a0_2, (.slice A0_3 l0_3.length c0_3), (.slice A0_4 l0_4.length c0_4), (.slice A0_5 l0_5.length c0_5)] 26 (0, 0))) ∧ Aside0 (Below w.heap.size w w'))
      case atStart => exact ⟨(x3_1), (0), (by first | rfl | (simp; done) | (simp [*]; done)), H', ⟨Nat.le_refl _⟩, ⟨by (with_reducible repeat (first | apply Kd.S_alloc | apply Kd.S_drewN | apply Kd.S_drew)); exact Kd.S_mono HO_3.out (fun _ hk => hk.2)⟩, ⟨by (with_reducible repeat (first | apply Kd.R_alloc | apply Kd.R_drewN | apply Kd.R_drew)); exact HO121.out⟩, ⟨by (with_reducible repeat (first | refine blk_drewN ?_ _ | refine blk_drew ?_ | refine blk_alloc ?_ _)); exact BK115.out⟩, ⟨by repeat (first | (with_reducible first | exact HB.out | apply below_alloc | apply pw_below_drewN | apply below_drew1 | refine below_set ?_ GE115.out) | exact HB.out)⟩⟩
      case round =>
       clear H'
       try clear c1
       try clear c2
       try clear c2b0
       try clear c2b1
       try clear p2
       try clear c3
       try clear c3b0
       try clear c3b1
       try clear c9
       try clear c9b0
       try clear hcz11_0
       try clear hcz11_1
       try clear hcz11_2
       try clear hcz11_3
       try clear hcz11_4
       try clear hcz11_5
       try clear hcz5_0
       try clear hcz5_1
       try clear hcz5_2
       try clear hcz5_3
       try clear hcz5_4
       try clear hcz5_5
       try clear hcz8_0
       try clear hcz8_1
       try clear hcz8_2
       try clear hcz8_3
       try clear hcz8_4
       try clear hcz8_5
       try clear hfz11_0
       try clear hfz11_1
       try clear hfz11_2
       try clear hfz11_3
       try clear hfz11_4
       try clear hfz11_5
       try clear hfz5_0
       try clear hfz5_1
       try clear hfz5_2
       try clear hfz5_3
       try clear hfz5_4
       try clear hfz5_5
       try clear hfz8_0
       try clear hfz8_1
       try clear hfz8_2
       try clear hfz8_3
       try clear hfz8_4
       try clear hfz8_5
       try clear p2
       obtain ⟨x3_2, x21_2, rfl, HA, HK2, HO_3, HO_19, BK115, HB⟩ := hrel
       cases gk with
       | zero => exact absurd HA.out (by simp [flow_Ahead.l1])
       | succ k2 =>
        have H := HA.out
        clear HA
        simp only [flow_Ahead.l1] at H
        by_cases c14 : x21_2 < (t119.length : Int)
        ·rw [if_pos c14] at H
         have c14b0 : decide (x21_2 < (t119.length : Int)) = true := decide_eq_true c14
         clear c14
         by_cases c15 : 0 ≤ x21_2
         ·rw [if_pos c15] at H
          have c15b0 : decide (0 ≤ x21_2) = true := decide_eq_true c15
          clear c15
          by_cases c16 : x21_2 < (t119.length : Int)
          ·rw [if_pos c16] at H
           have c16b0 : decide (x21_2 < (t119.length : Int)) = true := decide_eq_true c16
           clear c16
           by_cases c17 : 0 ≤ (rd t119 x21_2)
           ·rw [if_pos c17] at H
            have c17b0 : decide (0 ≤ (rd t119 x21_2)) = true := decide_eq_true c17
            clear c17
            by_cases c18 : (rd t119 x21_2) < (x3_2.length : Int)
            ·rw [if_pos c18] at H
             have c18b0 : decide ((rd t119 x21_2) < (x3_2.length : Int)) = true := decide_eq_true c18
             clear c18
             by_cases c19 : (rd_L2 x3_2 (rd t119 x21_2)).length < 17592186044416
             ·rw [if_pos c19] at H
              have LMc19 := Aside0.mk c19
              clear c19
              obtain ⟨y124, hy124⟩ : ∃ y_ : List Int, y_ = ((rd_L2 x3_2 (rd t119 x21_2)) ++ [x14_1]) := ⟨_, rfl⟩
              replace H : (flow_Ahead.l1 k2 (x3_2.set ((rd t119 x21_2) : Int).toNat y124) x14_1 (l0_5.length : Int) x14_1 t119 (t119.length : Int) (wrap64 (x21_2 + 1)) a0_0 l0_1 a0_2 l0_3 l0_4 l0_5) = some r := by first | (rw [hy124]; with_reducible exact H) | (have H2_ := (Option.bind_some _ _).symm.trans H; rw [hy124]; with_reducible exact H2_) | (have H2_ := (Option.bind_some _ _).symm.trans H; with_reducible exact H2_) | with_reducible exact H | (rw [hy124]; exact H) | exact H
              have Ny124 := Aside0.mk hy124
              clear hy124
              obtain ⟨y127, hy127⟩ : ∃ y_ : List (List Int), y_ = (x3_2.set ((rd t119 x21_2) : Int).toNat y124) := ⟨_, rfl⟩
              replace H : (flow_Ahead.l1 k2 y127 x14_1 (l0_5.length : Int) x14_1 t119 (t119.length : Int) (wrap64 (x21_2 + 1)) a0_0 l0_1 a0_2 l0_3 l0_4 l0_5) = some r := by first | (rw [hy127]; with_reducible exact H) | (have H2_ := (Option.bind_some _ _).symm.trans H; rw [hy127]; with_reducible exact H2_) | (have H2_ := (Option.bind_some _ _).symm.trans H; with_reducible exact H2_) | with_reducible exact H | (rw [hy127]; exact H) | exact H
              have Ny127 := Aside0.mk hy127
              clear hy127
              have H' := Aside0.mk H
              clear H
              have p122 : 0 ≤ (x21_2 : Int) := of_decide_eq_true (by first | (with_reducible assumption) | assumption)
              have q122 : x21_2 < (t119.length : Int) := of_decide_eq_true (by first | (with_reducible assumption) | assumption)
              obtain ⟨ad122, e122, hx122_0⟩ := Kd.at_int (Kd.R_reads' HO_19.out).2.2 x21_2 p122 q122
              cases e122
              replace p122 := eq_true p122
              replace q122 := eq_true q122
              obtain ⟨Ao21, co21, eo21⟩ := Kd.S_slice HO_3.out
              subst eo21
              have p123 : 0 ≤ ((rd t119 x21_2) : Int) := of_decide_eq_true (by first | (with_reducible assumption) | assumption)
              have q123 : (rd t119 x21_2) < (x3_2.length : Int) := of_decide_eq_true (by first | (with_reducible assumption) | assumption)
              obtain ⟨ad123, A123_0, c123_0, e123, hx123_0, hl123_0, hi123_0⟩ := at_L2 (Kd.S_reads' HO_3.out).2.2 (rd t119 x21_2) p123 q123
              cases e123
              obtain ⟨ce123, hce123, hMe123, hcc123⟩ := Kd.S_get HO_3.out [] (rd t119 x21_2) p123 (by first | exact q123 | exact of_decide_eq_true (by first | (with_reducible assumption) | assumption) | (have e_ := (Kd.S_reads' HO_3.out).1; omega))
              obtain ⟨ve123_0, rfl, ge123_0⟩ := hMe123
              have hv123_0 := hcc123 0 _ rfl
              rw [Nat.add_zero, show ((Kd.slice 3 (Kd.int .i64))).sz = 1 from rfl, Nat.mul_one] at hv123_0
              replace hv123_0 := Option.some.inj (hv123_0.symm.trans hx123_0)
              rw [hv123_0] at ge123_0
              have HL123_0 := Aside0.mk (show Kd.R (Kd.int .i64) 3 _ _ _ _ (rd_L2 x3_2 (rd t119 x21_2)) from ge123_0)
              clear hv123_0 ge123_0
              have HX123_0 := Aside0.mk hx123_0
              clear hcc123 hce123
              have HR123_0 := Aside0.mk hi123_0
              have HC123_0 := Aside0.mk hl123_0
              clear hi123_0 hl123_0
              replace p123 := eq_true p123
              replace q123 := eq_true q123
              obtain ⟨go22, co22, eo22, gb22, gl22, cl22, HG22⟩ := Kd.S_form HO_3.out (by have h_ : ((rd t119 x21_2) : Int) < ((x3_2.length : Int) : Int) := of_decide_eq_true (by first | (with_reducible assumption) | assumption); have h2_ : 0 ≤ ((rd t119 x21_2) : Int) := (of_decide_eq_true (by first | (with_reducible assumption) | assumption)); omega)
              (first | cases eo22 | (injection eo22 with ea_ en_ ec_; (first | subst ea_ | (injection ea_ with ea_; subst ea_)); subst ec_; clear en_))
              have GB22 := Aside0.mk gb22
              have GG22 := Aside0.mk HG22
              clear gb22 gl22 HG22
              (first | simp only [add_plain] at hx123_0 | skip)
              obtain ⟨oki22, ce22, hcl22, hM22, hcc22, _, _, hH22⟩ := Kd.S_elem HO_3.out [] ((rd t119 x21_2) : Int) (of_decide_eq_true (by first | (with_reducible assumption) | assumption)) (by have h_ : ((rd t119 x21_2) : Int) < ((x3_2.length : Int) : Int) := of_decide_eq_true (by first | (with_reducible assumption) | assumption); first | exact h_ | (have e_ := (Kd.S_reads' HO_3.out).1; omega) | simpa using h_)
              obtain ⟨ve22_0, rfl, ge22_0⟩ := hM22
              have hv22 := hcc22 0 _ rfl
              have hX22 := HX123_0.out
              (try simp only [add_plain] at hX22)
              (try simp only [Nat.add_zero] at hv22)
              (try rw [show ((Kd.slice 3 (Kd.int .i64))).sz = 1 from rfl, Nat.mul_one] at hv22)
              replace hv22 := Option.some.inj (hv22.symm.trans hX22)
              subst hv22
              clear hX22 hcc22 hcl22
              have UU22 := Aside0.mk (show Kd.R (Kd.int .i64) 3 _ w.heap.size oki22 (.slice A123_0 (rd_L2 x3_2 (rd t119 x21_2)).length c123_0) (rd_L2 x3_2 (rd t119 x21_2)) from ge22_0)
              have HH22 := Aside0.mk hH22
              have HN22 := Aside0.mk (Kd.S_reads' HO_3.out).1
              clear hH22 ge22_0
              go_wp2_with (first | ((with_reducible refine gate_builtin (b := .append) (xs := #[.tmp 30, .tmp 32]) rfl ?_); at_builtin; refine Kd.R_append (Kd.int .i64) (w0 := w) w.heap.size rfl (.tmp 30) (.tmp 32) 34 3 (.int .i64 0) 8 rfl Try.underlying34 info3 rfl (by decide) (by omega) (.slice A123_0 (rd_L2 x3_2 (rd t119 x21_2)).length c123_0) (rd_L2 x3_2 (rd t119 x21_2)) x14_1 [.int .i64 x14_1] (fun k_ => oki22 k_ ∨ ((fun k_ => some k_ ≠ (.slice (some ad122) t119.length co13 : Value).ownBlock)) k_ ∧ wr.heap.size ≤ k_) (fun _ => False) rfl rfl ?aP (fun _ hk => hk.elim) ?aF ?aO ?aB ?aS ?aL ?_; (case aP => exact rfl); (case aB => exact (by repeat (first | (with_reducible first | exact HB.out | apply below_alloc | apply pw_below_drewN | apply below_drew1 | refine below_set ?_ GE115.out) | exact HB.out))); (case aF => exact (fun k_ hk => .inr ⟨Kd.fresh' (Kd.R_lt (by (with_reducible repeat (first | apply Kd.R_alloc | apply Kd.R_drewN | apply Kd.R_drew)); exact HO_19.out)) k_ hk, hk⟩)); (case aO => exact (by (with_reducible repeat (first | apply Kd.R_alloc | apply Kd.R_drewN | apply Kd.R_drew)); exact Kd.R_mono UU22.out (fun _ hk => .inl hk))); (case aS => exact (below_size (by repeat (first | (with_reducible first | exact HB.out | apply below_alloc | apply pw_below_drewN | apply below_drew1 | refine below_set ?_ GE115.out) | exact HB.out)))); (case aL => have := LMc19.out; omega); intro v125 w23 ho hb hg hat; rw [← Ny124.out] at ho; have n0_ := Aside0.mk (Kd.R_grown2 (by (with_reducible repeat (first | apply Kd.R_alloc | apply Kd.R_drewN | apply Kd.R_drew)); exact HO_19.out) rfl hg (fun k_ e_ => (HL123_0.out.1 k_ e_).1)); have n1_ := Aside0.mk (blk_grown (g := gb115) (o := .cells #[.string a0_0, .slice A0_1 l0_1.length c0_1, .string a0_2, .slice A0_3 l0_3.length c0_3, .slice A0_4 l0_4.length c0_4, .slice A0_5 l0_5.length c0_5] 26 (0, 0)) (by (with_reducible repeat (first | refine blk_drewN ?_ _ | refine blk_drew ?_ | refine blk_alloc ?_ _)); exact BK115.out) hg (Kd.R_ne HL123_0.out BK115.out (by decide))); have n2_ := Aside0.mk (hb); have n3_ := Aside0.mk (Kd.H_grown (Kd.H_widen (by repeat (first | exact HH22.out | refine Kd.H_alloc ?_ _ | refine Kd.H_drewN ?_ _ | refine Kd.H_drew ?_))) hg (fun k_ e_ => .inl (UU22.out.1 k_ e_))); have n4_ := Aside0.mk (ho); clear HO_19; clear BK115; clear HB; clear HH22; clear HO_3; clear UU22; clear HL123_0; have HO_19 := n0_; have BK115 := n1_; have HB := n2_; have HH22 := n3_; have HO126 := n4_; clear n0_ n1_ n2_ n3_ n4_; clear ho hb hg hat; have p20 : 0 ≤ ((rd t119 x21_2) : Int) := of_decide_eq_true (by first | (with_reducible assumption) | assumption); have q20 : ((rd t119 x21_2) : Int) < ((x3_2.length : Int) : Int) := of_decide_eq_true (by first | (with_reducible assumption) | assumption); replace p20 := eq_true p20; replace q20 := eq_true q20; obtain ⟨Ao26, co26, eo26⟩ := Kd.R_slice HO126.out; subst eo26; obtain ⟨_, _, hraw24, _, _, hcc24, _⟩ := Kd.H_raw HH22.out (of_decide_eq_true (by first | (with_reducible assumption) | assumption)) (by have h_ : ((rd t119 x21_2) : Int) < ((x3_2.length : Int) : Int) := of_decide_eq_true (by first | (with_reducible assumption) | assumption); first | exact h_ | (have e_ := (HN22.out); omega) | simpa using h_); obtain ⟨_, hfr24⟩ := Kd.H_at HH22.out (of_decide_eq_true (by first | (with_reducible assumption) | assumption)) (by have h_ : ((rd t119 x21_2) : Int) < ((x3_2.length : Int) : Int) := of_decide_eq_true (by first | (with_reducible assumption) | assumption); first | exact h_ | (have e_ := (HN22.out); omega) | simpa using h_); have hx24_0 := hcc24 0 _ rfl; have hf24_0 := hfr24 0; (try simp only [Nat.add_zero] at hx24_0 hf24_0); (try rw [show ((Kd.slice 3 (Kd.int .i64))).sz = 1 from rfl, Nat.mul_one] at hx24_0); (try rw [show ((Kd.slice 3 (Kd.int .i64))).sz = 1 from rfl, Nat.mul_one] at hf24_0); have HP24 := Kd.S_seg0 HH22.out (of_decide_eq_true (by first | (with_reducible assumption) | assumption)) (by have h_ : ((rd t119 x21_2) : Int) < ((x3_2.length : Int) : Int) := of_decide_eq_true (by first | (with_reducible assumption) | assumption); first | exact h_ | (have e_ := (HN22.out); omega) | simpa using h_) (seg := [.slice Ao26 y124.length co26]) (j := 0) (show 1 ≤ 1 from by decide) (x' := y124) (Kd.M_row HO126.out) (fun _ hk => hk); (try simp only [show ((Kd.slice 3 (Kd.int .i64))).sz = 1 from rfl, Nat.mul_one, Nat.add_zero] at HP24); clear hcc24 hfr24) | ((with_reducible refine gate_store (t := 34) (p := 34) rfl ?_); refine store_event (t := 34) (p := 34) (v := ?vo_w25) (w1 := (w23.setCell ⟨go22, ((rd t119 x21_2) : Int).toNat, none⟩ (.slice Ao26 y124.length co26))) ?hg ?ho ?hn ?hr ?_; (case ho => rfl); (case hg => rfl); (case hn => rfl); (case hr => first | (go_simp; done) | (go_simp; rfl)); intro w25 hw; have hg : w23.grownBy w25 (some go22) := (by rw [hw]; exact HP24.2); have hp_ : Kd.S (Kd.slice 3 (Kd.int .i64)) 34 w25 w.heap.size (fun k_ => some k_ ≠ (.slice (some ad122) t119.length co13 : Value).ownBlock) (.slice (some ⟨go22, 0, none⟩) x3_2.length co21) y127 := (by rw [hw, Ny127.out]; exact HP24.1); clear HP24; have n0_ := Aside0.mk (Kd.R_over' (v := (.slice (some ⟨go22, 0, none⟩) x3_2.length co21)) (by (with_reducible repeat (first | apply Kd.R_alloc | apply Kd.R_drewN | apply Kd.R_drew)); exact HO_19.out) (Kd.R_typed hraw24) (by decide) hg); have n1_ := Aside0.mk (blk_grown (g := gb115) (o := .cells #[.string a0_0, .slice A0_1 l0_1.length c0_1, .string a0_2, .slice A0_3 l0_3.length c0_3, .slice A0_4 l0_4.length c0_4, .slice A0_5 l0_5.length c0_5] 26 (0, 0)) (by (with_reducible repeat (first | refine blk_drewN ?_ _ | refine blk_drew ?_ | refine blk_alloc ?_ _)); exact BK115.out) hg (Kd.R_ne hraw24 BK115.out (by decide))); have n2_ := Aside0.mk ((by rw [hw]; exact below_set HB.out GB22.out : Below w.heap.size w w25)); have n3_ := Aside0.mk (hp_); clear HO_19; clear BK115; clear HB; clear HO126; clear HH22; have HO_19 := n0_; have BK115 := n1_; have HB := n2_; have HO_3 := n3_; clear n0_ n1_ n2_ n3_; clear hg hw hp_ hraw24))
              go_roundg k2
              case measure => have := HK1.out; have := HK2.out; omega
              case rel => exact ⟨(y127), (wrap64 (x21_2 + 1)), (by first | rfl | (simp; done) | (simp [*]; done)), H', ⟨by have := HK1.out; have := HK2.out; omega⟩, ⟨by (with_reducible repeat (first | apply Kd.S_alloc | apply Kd.S_drewN | apply Kd.S_drew)); exact HO_3.out⟩, ⟨by (with_reducible repeat (first | apply Kd.R_alloc | apply Kd.R_drewN | apply Kd.R_drew)); exact HO_19.out⟩, ⟨by (with_reducible repeat (first | refine blk_drewN ?_ _ | refine blk_drew ?_ | refine blk_alloc ?_ _)); exact BK115.out⟩, ⟨by repeat (first | (with_reducible first | exact HB.out | apply below_alloc | apply pw_below_drewN | apply below_drew1 | refine below_set ?_ GE115.out) | exact HB.out)⟩⟩
             ·rw [if_neg c19] at H
              exact absurd H (by simp)
            ·rw [if_neg c18] at H
             exact absurd H (by simp)
           ·rw [if_neg c17] at H
            exact absurd H (by simp)
          ·rw [if_neg c16] at H
           exact absurd H (by simp)
         ·rw [if_neg c15] at H
          exact absurd H (by simp)
        ·rw [if_neg c14] at H
         have c14b0 : decide (x21_2 < (t119.length : Int)) = false := decide_eq_false c14
         clear c14
         have H' := Aside0.mk H
         clear H
         go_wp2
         go_roundg k2
         case measure => have := HK1.out; have := HK2.out; omega
         case rel => exact ⟨(x3_2), (wrap64 (x14_1 + 1)), (by first | rfl | (simp; done) | (simp [*]; done)), H', ⟨by have := HK1.out; have := HK2.out; omega⟩, ⟨by (with_reducible repeat (first | apply Kd.S_alloc | apply Kd.S_drewN | apply Kd.S_drew)); exact Kd.S_mono HO_3.out (fun _ hk => trivial)⟩, ⟨by (with_reducible repeat (first | refine blk_drewN ?_ _ | refine blk_drew ?_ | refine blk_alloc ?_ _)); exact BK115.out⟩, ⟨by repeat (first | (with_reducible first | exact HB.out | apply below_alloc | apply pw_below_drewN | apply below_drew1 | refine below_set ?_ GE115.out) | exact HB.out)⟩⟩
     ·rw [if_neg c9] at H
      have c9b0 : decide (x14_1 < (l0_5.length : Int)) = false := decide_eq_false c9
      clear c9
      obtain rfl := Option.some.inj H
      go_wp2
      go_ret
      exact ⟨_, by first | rfl | (simp [errW_none, errW_some] <;> rfl) | (simp [*, errW_none, errW_some] <;> rfl), by (with_reducible repeat (first | apply Kd.S_alloc | apply Kd.S_drewN | apply Kd.S_drew)); exact HO_3.out, by repeat (first | (with_reducible first | exact HB.out | apply below_alloc | apply pw_below_drewN | apply below_drew1 | refine below_set ?_ GE115.out) | exact HB.out)⟩
  ·rw [if_neg c3] at H
   exact absurd H (by simp)
 ·rw [if_neg c2] at H
  exact absurd H (by simp)

end Go.Proofs.Ytclhjalgflebfaa.Q

/- 'flow.walk', 'visit', 'Reached', 'Order': by hand. -/

namespace Go.Proofs.Ytclhjalgflebfaa.Q
open Go.RowKit Go.Proofs.YtclhjalgflebfaaW.PrintWords Go.Proofs.YtclhjalgflebfaaW.PrintLast Go.Proofs.YtclhjalgflebfaaW.PrintMore
set_option linter.unusedVariables false
set_option linter.unusedSimpArgs false
def LIMF : Nat := 17592186044416
/-- A walk from a block on: what it has seen, what is done; k: how deep at most. -/
def visitO (l : List S40) : Nat → Int → List Bool → List Int → Option (List Bool × List Int)
 | 0, _, _, _ => none
 | k + 1, b, s, d =>
  if 0 ≤ b ∧ b < (s.length : Int) then
   ((nextOf l b).foldlM (fun (sd : List Bool × List Int) x => if 0 ≤ x ∧ x < (sd.1.length : Int) then (if rdOf false sd.1 x = true then some sd else visitO l k x sd.1 sd.2) else none) (s.set b.toNat true, d)).bind
    fun sd => if sd.2.length < LIMF then some (sd.1, sd.2 ++ [b]) else none
  else none
def stepO (l : List S40) (k : Nat) (sd : List Bool × List Int) (x : Int) : Option (List Bool × List Int) := if 0 ≤ x ∧ x < (sd.1.length : Int) then (if rdOf false sd.1 x = true then some sd else visitO l k x sd.1 sd.2) else none
theorem visitO_succ (l : List S40) (k : Nat) (b : Int) (s : List Bool) (d : List Int) : visitO l (k + 1) b s d = if 0 ≤ b ∧ b < (s.length : Int) then ((nextOf l b).foldlM (stepO l k) (s.set b.toNat true, d)).bind (fun sd => if sd.2.length < LIMF then some (sd.1, sd.2 ++ [b]) else none) else none := rfl
/-- What the walker holds: block bw its cells, block bs what is seen, v what is done. -/
structure Wk (W : World) (base : Nat) (f1 f2 f3 f4 f5 f6 : Value) (bw bs : Nat) (v : Value) (s : List Bool) (d : List Int) : Prop where
 blk : W.heap[bw]? = some (.cells #[f1, f2, f3, f4, f5, f6, .slice (some ⟨bs, 0, none⟩) s.length s.length, v] 66 (0, 0))
 seen : Kd.bool.R 4 W base (fun _ => True) (.slice (some ⟨bs, 0, none⟩) s.length s.length) s
 done : (Kd.int .i64).R 3 W base (fun _ => True) v d
 low : base ≤ bw
/-- Blocks that a walk may turn. -/
def Turn (bw bs : Nat) (v : Value) : Nat → Prop := fun k => k = bw ∨ k = bs ∨ some k = v.ownBlock
def OwnLater (W : World) (v v' : Value) : Prop := v'.ownBlock = v.ownBlock ∨ ∀ k, v'.ownBlock = some k → W.heap.size ≤ k
section
variable {W W1 : World} {base : Nat} {f1 f2 f3 f4 f5 f6 : Value} {bw bs : Nat} {v : Value} {s : List Bool} {d : List Int}
theorem Wk.below (h : Wk W base f1 f2 f3 f4 f5 f6 bw bs v s d) (hb : Below W.heap.size W W1) : Wk W1 base f1 f2 f3 f4 f5 f6 bw bs v s d := ⟨blk_below h.blk hb, Kd.R_below h.seen hb, Kd.R_below h.done hb, h.low⟩
theorem Wk.ne (h : Wk W base f1 f2 f3 f4 f5 f6 bw bs v s d) : bw ≠ bs := by
 obtain ⟨cs, hcs⟩ := Kd.R_typed h.seen bs rfl
 exact blk_ne h.blk hcs (by decide)
theorem Wk.mark (h : Wk W base f1 f2 f3 f4 f5 f6 bw bs v s d) (b : Int) : Wk (W.setCell ⟨bs, b.toNat, none⟩ (.bool true)) base f1 f2 f3 f4 f5 f6 bw bs v (s.set b.toNat true) d ∧ W.grownBy (W.setCell ⟨bs, b.toNat, none⟩ (.bool true)) (some bs) := by
 obtain ⟨h1, h2⟩ := Kd.R_put h.seen b true
 refine ⟨⟨?_, ?_, Kd.R_over' (v := .slice (some ⟨bs, 0, none⟩) s.length s.length) h.done (Kd.R_typed h.seen) (by decide) h2, h.low⟩, h2⟩
 ·rw [List.length_set]
  exact blk_far h.blk h.ne _
 ·rw [List.length_set]
  exact h1
theorem Wk.turn (h : Wk W base f1 f2 f3 f4 f5 f6 bw bs v s d) : ∀ k, Turn bw bs v k → base ≤ k ∧ k < W.heap.size := by
 rintro k (rfl | rfl | hk)
 ·exact ⟨h.low, blk_lt h.blk⟩
 ·exact ⟨Kd.R_base h.seen k rfl, Kd.R_lt h.seen k rfl⟩
 ·exact ⟨Kd.R_base h.done k hk.symm, Kd.R_lt h.done k hk.symm⟩
theorem turn_own {W w2 : World} {bw bs : Nat} {v v2 : Value} (hle : w2.heap.size ≤ W.heap.size) (h : OwnLater w2 v v2) : ∀ k, some k = v2.ownBlock → Turn bw bs v k ∨ w2.heap.size ≤ k := fun k hk => by
 rcases h with h | h
 ·exact .inl (.inr (.inr (hk.trans h)))
 ·exact .inr (h k hk.symm)
theorem turn_later {W w2 : World} {bw bs : Nat} {v v2 : Value} (hle : w2.heap.size ≤ W.heap.size) (h : OwnLater w2 v v2) : ∀ k, Turn bw bs v2 k → Turn bw bs v k ∨ w2.heap.size ≤ k := by
 rintro k (rfl | rfl | hk)
 ·exact .inl (.inl rfl)
 ·exact .inl (.inr (.inl rfl))
 ·exact turn_own hle h k hk
theorem OwnLater.then_ {W w2 : World} {v v2 v3 : Value} (h : OwnLater w2 v v2) (hle : w2.heap.size ≤ W.heap.size) (k : OwnLater W v2 v3) : OwnLater w2 v v3 := by
 rcases k with k | k
 ·rcases h with h | h
  ·exact .inl (k.trans h)
  ·exact .inr (fun j hj => h j (k ▸ hj))
 ·exact .inr (fun j hj => Nat.le_trans hle (k j hj))
theorem OwnLater.lower {W w2 : World} {v v2 : Value} (h : OwnLater w2 v v2) (hle : W.heap.size ≤ w2.heap.size) : OwnLater W v v2 := h.imp id (fun h k hk => Nat.le_trans hle (h k hk))
theorem below_set {w W : World} {g j : Nat} {u : Value} (h : Below w.heap.size w W) (hg : w.heap.size ≤ g) : Below w.heap.size w (W.setCell ⟨g, j, none⟩ u) :=
 ⟨h.os, h.tape, h.output, by simpa using h.size, fun k hk => (Below.heap_setCell W ⟨g, j, none⟩ u k (by show k ≠ g; omega)).trans (h.block k hk)⟩
/-- The row that Next has made stays, whatever the walk turns. -/
theorem Wk.row {A : Option Addr} {n c : Nat} {xs : List Int} {w2 : World} (h : Wk W1 base f1 f2 f3 f4 f5 f6 bw bs v s d) (hr : (Kd.int .i64).R 3 w2 W1.heap.size (fun _ => True) (.slice A n c) xs) : ∀ W', Kept w2 W' (Turn bw bs v) → (Kd.int .i64).C W' A n xs :=
 Kd.C_kept_own (Kd.R_mono (Kd.R_bound hr) (fun k hk => hk.2.1)) (fun k hk ht => by have := (h.turn k ht).2; omega)
end
set_option maxRecDepth 100000 in
set_option maxHeartbeats 1000000 in
theorem visit_calls (a0_0 : ByteArray) (A0_1 : Option Addr) (c0_1 : Nat) (l0_1 : List ByteArray) (a0_2 : ByteArray) (A0_3 : Option Addr) (c0_3 : Nat) (l0_3 : List ByteArray) (A0_4 : Option Addr) (c0_4 : Nat) (l0_4 : List (S58)) (A0_5 : Option Addr) (c0_5 : Nat) (l0_5 : List (S40)) (w : World) (hr0_1 : Kd.C Kd.string w A0_1 l0_1.length l0_1) (hc0_1 : l0_1.length ≤ c0_1) (hr0_3 : Kd.C Kd.string w A0_3 l0_3.length l0_3) (hc0_3 : l0_3.length ≤ c0_3) (hr0_4 : Kd.C k58 w A0_4 l0_4.length l0_4) (hc0_4 : l0_4.length ≤ c0_4) (hr0_5 : Kd.C k40 w A0_5 l0_5.length l0_5) (hc0_5 : l0_5.length ≤ c0_5) : ∀ (k : Nat) (b : Int) (s : List Bool) (d : List Int) (s' : List Bool) (d' : List Int), visitO l0_5 k b s d = some (s', d') → ∀ (W : World) (bw bs : Nat) (v : Value), Below w.heap.size w W → Wk W w.heap.size (.string a0_0) (.slice A0_1 l0_1.length c0_1) (.string a0_2) (.slice A0_3 l0_3.length c0_3) (.slice A0_4 l0_4.length c0_4) (.slice A0_5 l0_5.length c0_5) bw bs v s d →
  Calls Try.prog 70 #[.pointer (some ⟨bw, 0, none⟩), .int .i64 b] W fun e W' => e = .returned (.tuple #[]) ∧ ∃ v', Wk W' w.heap.size (.string a0_0) (.slice A0_1 l0_1.length c0_1) (.string a0_2) (.slice A0_3 l0_3.length c0_3) (.slice A0_4 l0_4.length c0_4) (.slice A0_5 l0_5.length c0_5) bw bs v' s' d' ∧ Below w.heap.size w W' ∧ Kept W W' (Turn bw bs v) ∧ OwnLater W v v'
 | 0, b, s, d, s', d', h => by cases h
 | k + 1, b, s, d, s', d', h => by
  intro W bw bs v HB HK
  rw [visitO_succ] at h
  split at h
  case isFalse => cases h
  rename_i hb
  obtain ⟨⟨s1, d1⟩, hfold, hend⟩ := Option.bind_eq_some_iff.mp h
  split at hend
  case isFalse => cases hend
  rename_i hlim
  simp only [Option.some.injEq, Prod.mk.injEq] at hend
  obtain ⟨rfl, rfl⟩ := hend
  have HF := Aside0.mk hfold; clear hfold h
  have HL := Aside0.mk hlim; clear hlim
  have HKA := Aside0.mk HK
  have hk0 := blk_cell HK.blk 0
  have hk1 := blk_cell HK.blk 1
  have hk2 := blk_cell HK.blk 2
  have hk3 := blk_cell HK.blk 3
  have hk4 := blk_cell HK.blk 4
  have hk5 := blk_cell HK.blk 5
  have hk6 := blk_cell HK.blk 6
  have hk7 := blk_cell HK.blk 7
  have hne := HK.ne
  obtain ⟨hs1, hs2⟩ := Kd.R_cell false HK.seen b hb.1 hb.2
  obtain ⟨hm1, hm2⟩ := HK.mark b
  have HK1 := Aside0.mk hm1; clear hm1
  have HB1 := Aside0.mk (HB.grown hm2 HB.size (fun k hk => by injection hk with hk; rw [← hk]; exact Kd.R_base HK.seen bs rfl))
  have HKept1 : Aside0 (Kept W (W.setCell ⟨bs, b.toNat, none⟩ (.bool true)) (Turn bw bs v)) := ⟨Kept.of_grown hm2 (Kept.refl W _) (fun k hk => .inl (.inr (.inl (by injection hk with hk; exact hk.symm))))⟩
  clear HK hm2
  go_enter Try.func70, Try.ntmps70
  go_wp2_with fail
  refine (flow_Next.calls a0_0 A0_1 c0_1 l0_1 a0_2 A0_3 c0_3 l0_3 A0_4 c0_4 l0_4 A0_5 c0_5 l0_5 b _ _ (Kd.C_below hr0_1 HB1.out) hc0_1 (Kd.C_below hr0_3 HB1.out) hc0_3 (Kd.C_below hr0_4 HB1.out) hc0_4 (Kd.C_below hr0_5 HB1.out) hc0_5 rfl).mono ?_
  rintro e w2 ⟨v0, rfl, hv0, hb2⟩
  clear hk0 hk1 hk2 hk3 hk4 hk5 hk6 hk7 hs1 hs2 hne
  obtain ⟨A3, c3, rfl, hkl, hkC⟩ := Kd.R_reads hv0
  have HROW := Aside0.mk (HK1.out.row hv0)
  have HM := Aside0.mk (Kd.C_max hkC)
  have hm := HM.out
  have HB2 := Aside0.mk (below_step HB1.out hb2)
  have HK2 := Aside0.mk (HK1.out.below hb2)
  have HKept2 := Aside0.mk (HKept1.out.below hb2)
  have HLE := Aside0.mk hb2.size
  clear hv0 hkC hb2 hkl
  generalize hxs : nextOf l0_5 b = xs at HF HROW HM hm ⊢
  clear hxs
  go_wp2_with fail
  go_loopw [5, 19] (fun _ v19 wr => ∃ (i : Nat) (s2 : List Bool) (d2 : List Int) (v2 : Value), v19 = .int .i64 i ∧ i ≤ xs.length ∧ Aside0 ((xs.drop i).foldlM (stepO l0_5 k) (s2, d2) = some (s1, d1)) ∧ Aside0 (Wk wr w.heap.size (.string a0_0) (.slice A0_1 l0_1.length c0_1) (.string a0_2) (.slice A0_3 l0_3.length c0_3) (.slice A0_4 l0_4.length c0_4) (.slice A0_5 l0_5.length c0_5) bw bs v2 s2 d2) ∧ Aside0 (Below w.heap.size w wr) ∧ Aside0 (Kept w2 wr (Turn bw bs v)) ∧ Aside0 (OwnLater w2 v v2)) (fun _ v19 _ => xs.length - (intOf v19).toNat)
  case atStart => exact ⟨0, _, _, v, rfl, Nat.zero_le _, HF, HK2, HB2, ⟨Kept.refl _ _⟩, ⟨.inl rfl⟩⟩
  case round =>
   clear HF HK2 HB2
   obtain ⟨i, s2, d2, v2, rfl, hi, HF, HK2, HB2, HKE, HOL⟩ := hrel
   by_cases hlt : i < xs.length
   ·obtain ⟨ak, ea, hkc⟩ := at_int (HROW.out wr HKE.out) i hlt
    cases ea
    obtain ⟨x, hx⟩ : ∃ x, x = xs.getD i 0 := ⟨_, rfl⟩
    rw [← hx] at hkc
    have hd : xs.drop i = x :: xs.drop (i + 1) := by rw [hx, getD_at xs 0 hlt, List.drop_eq_getElem_cons hlt]
    have hf := HF.out
    rw [hd, List.foldlM_cons] at hf
    obtain ⟨⟨s3, d3⟩, hst, hf3⟩ := Option.bind_eq_some_iff.mp hf
    have HF3 := Aside0.mk hf3
    clear HF hf hf3 hd hx
    unfold stepO at hst
    split at hst
    case isFalse => cases hst
    rename_i hxb
    have hk6 := blk_cell HK2.out.blk 6
    have hsx := (Kd.R_cell false HK2.out.seen x hxb.1 hxb.2).1
    simp only at hst hxb
    have hx0 := hxb.1
    have hx1 := hxb.2
    split at hst
    ·rename_i hyes
     simp only [Option.some.injEq, Prod.mk.injEq] at hst
     obtain ⟨rfl, rfl⟩ := hst
     rw [hyes] at hsx
     clear hyes
     go_wp2
     go_roundw
     case rel => exact ⟨i + 1, _, _, v2, by go_num, by omega, HF3, HK2, HB2, HKE, HOL⟩
     case measure => simp [intOf]; omega
    ·rename_i hno
     have HST := Aside0.mk hst; clear hst
     simp only [Bool.not_eq_true] at hno
     rw [hno] at hsx
     clear hno
     go_wp2_with fail
     refine (visit_calls a0_0 A0_1 c0_1 l0_1 a0_2 A0_3 c0_3 l0_3 A0_4 c0_4 l0_4 A0_5 c0_5 l0_5 w hr0_1 hc0_1 hr0_3 hc0_3 hr0_4 hc0_4 hr0_5 hc0_5 k x s2 d2 s3 d3 HST.out wr bw bs v2 HB2.out HK2.out).mono ?_
     rintro e w3 ⟨rfl, v3, hK3, hB3, hk3, ho3⟩
     have HK3 := Aside0.mk hK3
     have HB3 := Aside0.mk hB3
     have HKE3 := Aside0.mk (HKE.out.then_ hk3 (turn_later HKE.out.1 HOL.out))
     have HOL3 := Aside0.mk (HOL.out.then_ HKE.out.1 ho3)
     clear hK3 hB3 hk3 ho3 hk6 hsx hkc
     go_wp2
     go_roundw
     case rel => exact ⟨i + 1, _, _, v3, by go_num, by omega, HF3, HK3, HB3, HKE3, HOL3⟩
     case measure => simp [intOf]; omega
   ·have hie : i = xs.length := by omega
    have hf := HF.out
    rw [hie, List.drop_length] at hf
    simp only [List.foldlM_nil, Option.pure_def, Option.some.injEq, Prod.mk.injEq] at hf
    obtain ⟨rfl, rfl⟩ := hf
    clear HF
    have hk7 := blk_cell HK2.out.blk 7
    have hk7f := blk_frozen HK2.out.blk 7
    go_wp2_with (at_builtin; refine Kd.R_append (Kd.int .i64) (w0 := w) w.heap.size rfl (.tmp 39) (.tmp 41) 34 3 (.int .i64 0) 8 rfl Try.underlying34 info3 rfl (by decide) (by decide) v2 d2 b [.int .i64 b] (fun _ => True) (fun _ => False) rfl rfl ?aP (fun _ hk => hk.elim) ?aF HK2.out.done HB2.out HB2.out.size ?aL ?_)
    case aP => exact rfl
    case aF => exact fun _ _ => trivial
    case aL => have := HL.out; unfold LIMF at this; omega
    intro v1 w8 hq8 hb8 hg8 hat8
    have hbn := Kd.R_ne HK2.out.done HK2.out.blk (by decide)
    have hblk := blk_grown HK2.out.blk hg8 hbn
    have hc7 := blk_cell hblk 7
    have hf7 := blk_frozen hblk 7
    have hfin : Aside0 (Wk (w8.setCell ⟨bw, 7, none⟩ v1) w.heap.size (.string a0_0) (.slice A0_1 l0_1.length c0_1) (.string a0_2) (.slice A0_3 l0_3.length c0_3) (.slice A0_4 l0_4.length c0_4) (.slice A0_5 l0_5.length c0_5) bw bs v1 s2 (d2 ++ [b]) ∧ Below w.heap.size w (w8.setCell ⟨bw, 7, none⟩ v1) ∧ Kept W (w8.setCell ⟨bw, 7, none⟩ v1) (Turn bw bs v) ∧ OwnLater W v v1) := ⟨by
     have hb8' := hb8
     refine ⟨⟨?_, Kd.R_set (Kd.R_over' HK2.out.seen (Kd.R_typed HK2.out.done) (by decide) hg8) hblk (by decide) 7 v1, Kd.R_set hq8 hblk (by decide) 7 v1, HK2.out.low⟩, ?_, ?_, ?_⟩
     ·have := blk_set hblk 7 v1
      simpa using this
     ·exact below_set hb8 HK2.out.low
     ·have h1 : Kept w2 w8 (Turn bw bs v) := Kept.of_grown hg8 HKE.out (fun k hk => turn_own HKE.out.1 HOL.out k hk.symm)
      have h2 : Kept w2 (w8.setCell ⟨bw, 7, none⟩ v1) (Turn bw bs v) := h1.setCell (.inl (.inl rfl)) v1
      exact HKept2.out.then_ h2 (fun k hk => .inl hk)
     ·exact (HOL.out.then_ HKE.out.1 (hat8.imp id (fun ⟨b_, hb1, hb2⟩ k hk => by rw [hb1] at hk; injection hk with hk; omega))).lower HKept2.out.1⟩
    obtain ⟨A8, c8, hv8⟩ := Kd.R_slice hq8
    clear hq8 hb8 hg8 hat8 hblk hk7 hk7f hbn
    rw [List.length_append, List.length_singleton] at hv8
    rw [hv8] at hfin ⊢
    go_wp2
    go_end0
    exact ⟨rfl, _, hfin.out⟩
end Go.Proofs.Ytclhjalgflebfaa.Q

/- 'slices.Repeat' of one number: by hand. -/
namespace Go.Proofs.Ytclhjalgflebfaa.Q
open Go.RowKit Go.Proofs.YtclhjalgflebfaaW.PrintWords Go.Proofs.YtclhjalgflebfaaW.PrintLast Go.Proofs.YtclhjalgflebfaaW.PrintMore
set_option linter.unusedVariables false
set_option linter.unusedSimpArgs false
def slices_Repeat_int_int.f (l0 : List Int) (a1 : Int) : Option (List Int) := if l0.length = 1 ∧ 0 ≤ a1 ∧ a1 < (LIMF : Int) then some (List.replicate a1.toNat (rd l0 0)) else none
theorem copy_run {w0 W : World} {base g off dLen dCap sLen sCap : Nat} {dp sp : Option Addr} {L cs : List Value} (hg : W.heap[g]? = some (.cells L.toArray 3 (0, 0))) (hn : cs.length = Nat.min sLen dLen)
  (hpos : 0 < cs.length → dp = some ⟨g, off, none⟩ ∧ ∃ ad, sp = some ad ∧ ∀ j v, cs[j]? = some v → W.cell? (ad.add j) = some v) (hfit : off + cs.length ≤ L.length) (h1 : ∀ v ∈ cs, v.oneCell' = true) (hb : Below base w0 W) (hBg : base ≤ g) :
  ∃ W2, (Builtin.copy_ #[34, 34] 3 #[.slice dp dLen dCap, .slice sp sLen sCap]).run Try.prog W = .ok (.int .i64 (cs.length : Int)) W2 ∧ W2.heap[g]? = some (.cells (splice L off cs).toArray 3 (0, 0)) ∧ Below base w0 W2 := by
 have hin3 : (Try.prog.info? 3).map (·.size) = some 1 := by kernel_rfl
 by_cases h0 : cs.length = 0
 ·obtain rfl : cs = [] := List.eq_nil_of_length_eq_zero h0
  exact ⟨W, run_copy_none (P := Try.prog) W _ _ _ 3 dp sp dLen dCap sLen sCap Try.underlying34 hin3 (by simpa using hn.symm), by simpa [splice] using hg, hb⟩
 ·obtain ⟨rfl, ad, rfl, hsrc⟩ := hpos (by omega)
  refine ⟨_, run_copy_row (P := Try.prog) W _ _ _ 3 g off dLen dCap ad sLen sCap L.toArray 3 cs Try.underlying34 hin3 hg hn hsrc (by simpa using hfit) h1, ?_, below_setRow hb hBg _⟩
  simpa [splice] using setRow_heap W g _ _ 3 _ hg
def fillN (N k : Nat) (x : Int) : List Value := List.replicate k (.int .i64 x) ++ List.replicate (N - k) (.int .i64 0)
theorem fill_splice {N k m : Nat} {x : Int} (h : k + m ≤ N) : splice (fillN N k x) k (List.replicate m (.int .i64 x)) = fillN N (k + m) x := by
 have e : (List.replicate k (Value.int .i64 x) ++ List.replicate (N - k) (Value.int .i64 0)).drop (k + m) = List.replicate (N - (k + m)) (Value.int .i64 0) := by
  rw [List.drop_append]
  simp only [List.drop_replicate, List.length_replicate]
  rw [show k - (k + m) = 0 by omega, show N - k - (k + m - k) = N - (k + m) by omega]
  rfl
 unfold splice fillN
 rw [List.take_left' (by simp), List.length_replicate, e, ← List.replicate_append_replicate, List.append_assoc]
theorem fill_at {N k j : Nat} {x : Int} (h : j < k) : (fillN N k x)[j]? = some (.int .i64 x) := by
 unfold fillN
 rw [List.getElem?_append_left (by simpa using h)]
 simp [h]
theorem fill_full (N : Nat) (x : Int) : fillN N N x = encs (Value.int .i64) (List.replicate N x) := by simp [fillN, encs]
theorem lim_max {N : Nat} (h : N < 17592186044416) : N ≤ maxLen := by unfold maxLen; omega
theorem fill_own {w wr : World} {N : Nat} {x : Int} (h : wr.heap[w.heap.size]? = some (.cells (fillN N N x).toArray 3 (0, 0))) (hN : N < 17592186044416) : Kd.R (Kd.int .i64) 3 wr w.heap.size (fun _ => True) (.slice (some ⟨w.heap.size, 0, none⟩) N N) (List.replicate N x) :=
 Kd.R_of_own (by rw [List.length_replicate]; exact ⟨by simp [encs], .inr ⟨w.heap.size, N, _, rfl, Nat.le_refl _, h, Nat.le_refl _, lim_max hN, by simp [fillN], by rw [fill_full, Nat.mul_one, List.take_of_length_le (by simp [encs])]⟩⟩) (fun _ _ => trivial)
theorem wrap_sum {k m N : Nat} (hN : N < 17592186044416) (hk : k ≤ N) (hm : m ≤ N) : wrap64 ((k : Int) + (m : Int)) = ((k + m : Nat) : Int) := by unfold wrap64; omega
set_option maxRecDepth 100000 in
set_option maxHeartbeats 1000000 in
theorem slices_Repeat_int_int.calls (A0 : Option Addr) (c0 : Nat) (l0 : List Int) (a1 : Int) (r : List Int) (w : World) (hr0 : Kd.C (Kd.int .i64) w A0 l0.length l0) (hc0 : l0.length ≤ c0) (h : slices_Repeat_int_int.f l0 a1 = some r) :
  Calls Try.prog 54 #[.slice A0 l0.length c0, .int .i64 a1] w fun e w' => ∃ v0_ : Value, e = .returned (v0_) ∧ Kd.R (Kd.int .i64) 3 w' w.heap.size (fun _ => True) v0_ r ∧ Below w.heap.size w w' := by
 unfold slices_Repeat_int_int.f at h
 split at h
 case isFalse => cases h
 rename_i hin
 obtain ⟨h1, h2, h3⟩ := hin
 obtain rfl := Option.some.inj h
 clear h
 obtain ⟨N, rfl⟩ := Int.eq_ofNat_of_zero_le h2
 obtain ⟨ad, ea, hx⟩ := Kd.at_int hr0 0 (by omega) (by omega)
 subst ea
 clear h2 hr0
 unfold LIMF at h3
 have h3 : N < 17592186044416 := by omega
 rw [h1] at hc0 ⊢
 have HMUL := Aside0.mk <| Try.bits_Mul 1 N (by decide) (by omega) w
 rw [show 1 * N / 18446744073709551616 = 0 by omega, show 1 * N % 18446744073709551616 = N by omega] at HMUL
 have HMK := Aside0.mk <| print_make (P := Try.prog) 34 3 .i64 8 Try.underlying34 info3 (by decide) N (by omega)
 rw [Int.toNat_natCast]
 have H3 := Aside0.mk h3; clear h3
 have hd0 : ¬ ((N : Int) < 0) := by omega
 have hd1 : decide ((9223372036854775807 : Int) < (N : Int)) = false := decide_eq_false (by have := H3.out; omega)
 have hmk := HMK.out
 obtain ⟨x, hxx⟩ : ∃ x, x = rd l0 0 := ⟨_, rfl⟩
 rw [← hxx] at hx ⊢
 clear hxx h1
 have hin3 : (Try.prog.info? 3).map (·.size) = some 1 := by kernel_rfl
 go_enter Try.func54, Try.ntmps54
 obtain ⟨W2, hcp, hg2, hb2⟩ := copy_run (w0 := w) (W := w.alloc (.cells (madeCells #[.int .i64 0] N) 3)) (base := w.heap.size) (g := w.heap.size) (off := 0) (dLen := N) (dCap := N) (sLen := 1) (sCap := c0) (dp := some ⟨w.heap.size, 0, none⟩) (sp := some ad) (L := fillN N 0 x) (cs := List.replicate (min 1 N) (.int .i64 x))
  (by rw [blk_new]; simp [fillN, ← toList_madeCells_one]) (by simp) (fun _ => ⟨rfl, ad, rfl, fun j v hj => by
   obtain ⟨hj1, hj2⟩ := List.getElem?_eq_some_iff.mp hj
   simp at hj1 hj2
   have : j = 0 := by omega
   subst this hj2
   exact pw_cell_below (below_alloc (Below.refl _ _) _) hx⟩) (by simp [fillN]; omega) (fun v hv => by rw [List.eq_of_mem_replicate hv]; rfl) (below_alloc (Below.refl _ _) _) (Nat.le_refl _)
 rw [fill_splice (by omega), List.length_replicate, Nat.zero_add] at *
 obtain ⟨k0, hk0⟩ : ∃ k0, k0 = min 1 N := ⟨_, rfl⟩
 rw [← hk0] at hcp hg2
 have HG2 := Aside0.mk hg2; have HB2 := Aside0.mk hb2; have HK0 := Aside0.mk hk0
 clear hg2 hb2 hk0
 go_wp2_with fail
 refine HMUL.out.mono ?_
 rintro e w' ⟨rfl, hw'⟩
 rw [hw']
 clear hw' w'
 go_wp2_with fail
 go_loopw [8] (fun v8 wr => ∃ k : Nat, v8 = .int .i64 k ∧ k ≤ N ∧ (0 < N → 0 < k) ∧ Aside0 (wr.heap[w.heap.size]? = some (.cells (fillN N k x).toArray 3 (0, 0))) ∧ Aside0 (Below w.heap.size w wr)) (fun v8 _ => N - (intOf v8).toNat)
 case atStart => exact ⟨k0, rfl, by rw [HK0.out]; omega, fun _ => by rw [HK0.out]; omega, HG2, HB2⟩
 case round =>
  clear HG2 HB2
  obtain ⟨k, rfl, hk, hk1, HG, HB⟩ := hrel
  by_cases hlt : k < N
  ·have hk1 : 0 < k := hk1 (by omega)
   obtain ⟨W3, hcp3, hg3, hb3⟩ := copy_run (w0 := w) (W := wr.drew) (base := w.heap.size) (g := w.heap.size) (off := k) (dLen := N - k) (dCap := N - k) (sLen := k) (sCap := N) (dp := some ⟨w.heap.size, k, none⟩) (sp := some ⟨w.heap.size, 0, none⟩) (L := fillN N k x) (cs := List.replicate (min k (N - k)) (.int .i64 x))
    (blk_drew HG.out) (by simp) (fun _ => ⟨rfl, _, rfl, fun j v hj => by
     obtain ⟨hj1, hj2⟩ := List.getElem?_eq_some_iff.mp hj
     simp at hj1 hj2
     rw [add_plain, blk_cell (blk_drew HG.out), List.getElem?_toArray, fill_at (by omega), hj2]⟩) (by simp [fillN]; omega) (fun v hv => by rw [List.eq_of_mem_replicate hv]; rfl) (below_drew HB.out) (Nat.le_refl _)
   rw [fill_splice (by omega), List.length_replicate] at *
   obtain ⟨m, hm⟩ : ∃ m, m = min k (N - k) := ⟨_, rfl⟩
   rw [← hm] at hcp3 hg3
   have HG3 := Aside0.mk hg3; have HB3 := Aside0.mk hb3; have HM := Aside0.mk hm
   clear hg3 hb3 hm
   go_wp2_with fail
   go_region
   go_wp2
   go_roundw
   case rel => exact ⟨k + m, by rw [wrap_sum H3.out hk (by have := HM.out; omega)], by have := HM.out; omega, fun _ => by omega, HG3, HB3⟩
   case measure => rw [wrap_sum H3.out hk (by have := HM.out; omega)]; have := HM.out; simp only [intOf]; omega
  ·have hkN : k = N := by omega
   subst hkN
   go_wp2
   go_ret
   exact ⟨_, rfl, fill_own HG.out H3.out, HB.out⟩
end Go.Proofs.Ytclhjalgflebfaa.Q

namespace Go.Proofs.Ytclhjalgflebfaa.Q
open Go.RowKit Go.Proofs.YtclhjalgflebfaaW.PrintWords Go.Proofs.YtclhjalgflebfaaW.PrintLast Go.Proofs.YtclhjalgflebfaaW.PrintMore
attribute [local go_sem] max2_int min2_int max_two min_two max_three min_three max_four min_four   -- for this text's walks alone
set_option linter.unusedVariables false
set_option linter.unusedSimpArgs false

/-! ### slices_Reverse_int_int: function 53 -/
def slices_Reverse_int_int.l0 : Nat → List Int → Int → Int → Option (List Int)
 | 0, _, _, _ => none
 | k + 1, x0, x2, x3 => if x2 < x3 then (if 0 ≤ x3 then (if x3 < (x0.length : Int) then (if 0 ≤ x2 then (if x2 < (x0.length : Int) then (slices_Reverse_int_int.l0 k ((x0.set (x2 : Int).toNat (rd x0 x3)).set (x3 : Int).toNat (rd x0 x2)) (wrap64 (x2 + 1)) (wrap64 (x3 - 1))) else (none)) else (none)) else (none)) else (none)) else (some x0)
def slices_Reverse_int_int.f (k : Nat) (l0 : List Int) : Option (List Int) := slices_Reverse_int_int.l0 k l0 0 (wrap64 ((l0.length : Int) - 1))
theorem slices_Reverse_int_int.mono_l : ∀ k, (∀ y0 y1 y2, LeO (slices_Reverse_int_int.l0 k y0 y1 y2) (slices_Reverse_int_int.l0 (k + 1) y0 y1 y2))
 | 0 => fun _ _ _ r h => by simp [slices_Reverse_int_int.l0] at h
 | k + 1 => by
  have ih0 := slices_Reverse_int_int.mono_l k
  ·intro y0 y1 y2
   unfold slices_Reverse_int_int.l0
   repeat' first
   | (with_reducible exact ih0 _ _ _)
   | (with_reducible exact LeO.refl _)
   | (with_reducible exact LeO.none _)
   | (with_reducible refine LeO.ite ?_ ?_)
   | (with_reducible refine LeO.bind ?_ (fun _ => ?_))
   | exact ih0 _ _ _
   | exact LeO.none _
   | refine LeO.ite ?_ ?_
   | refine LeO.bind ?_ (fun _ => ?_)
theorem slices_Reverse_int_int.mono : ∀ a0 k, LeO (slices_Reverse_int_int.f k a0) (slices_Reverse_int_int.f (k + 1) a0) := by
 intro a0 k
 have ih0 := slices_Reverse_int_int.mono_l k
 unfold slices_Reverse_int_int.f
 repeat' first
   | (with_reducible exact ih0 _ _ _)
   | (with_reducible exact LeO.refl _)
   | (with_reducible exact LeO.none _)
   | (with_reducible refine LeO.ite ?_ ?_)
   | (with_reducible refine LeO.bind ?_ (fun _ => ?_))
   | exact ih0 _ _ _
   | exact LeO.none _
   | refine LeO.ite ?_ ?_
   | refine LeO.bind ?_ (fun _ => ?_)
def slices_Reverse_int_int.T3 : Bool × List (List Nat × List Nat) := (true, [([], []), ([], []), ([], []), ([], []), ([], []), ([], []), ([4, 5], [4, 5]), ([6], [6]), ([], []), ([], []), ([8, 9], [8, 9]), ([10], [10]), ([0, 1, 0, 1, 4, 5, 6, 7, 11], [0, 1]), ([12, 7, 0, 1, 4, 5, 6, 7, 11], [7, 12]), ([2, 3, 0, 1, 2, 3, 4, 5, 6, 7, 8, 9, 10, 11, 12, 13], [2, 3]), ([14, 11, 13, 0, 1, 2, 3, 4, 5, 6, 7, 8, 9, 10, 11, 12, 13], [11, 14])])
def slices_Reverse_int_int.B3 : List Nat := [0, 0, 0, 0, 0, 0, 48, 112, 0, 0, 768, 1792, 4083, 8179, 16383, 32767]
theorem slices_Reverse_int_int.tab3 : rtab .any (opsOf Try.f53 3) = slices_Reverse_int_int.T3 := by kernel_rfl
theorem slices_Reverse_int_int.bits3 : waitsOk slices_Reverse_int_int.T3.2 slices_Reverse_int_int.B3 = true := by kernel_rfl
set_option maxHeartbeats 8000000 in
set_option maxRecDepth 100000 in
theorem slices_Reverse_int_int.calls (k : Nat) (P0_ : Nat → Prop) (u9000_ : Value) (l0 : List Int) (r : List Int) (w0 w : World) (hB : Below w0.heap.size w0 w) (ho0 : Kd.R (Kd.int .i64) 3 w w0.heap.size P0_ u9000_ l0) (h : slices_Reverse_int_int.f k l0 = some r) :
  Calls Try.prog 53 #[u9000_] w fun e w' => e = .returned (.tuple #[]) ∧ Kd.R (Kd.int .i64) 3 w' w0.heap.size (fun k_ => (P0_ k_ ∨ w.heap.size ≤ k_)) u9000_ r ∧ Below w0.heap.size w0 w' ∧ Kept w w' (fun k_ => P0_ k_) := by
 have HO0 := Aside0.mk (show Kd.R (Kd.int .i64) 3 w w0.heap.size (fun k_ => (P0_ k_ ∨ w.heap.size ≤ k_)) u9000_ l0 from Kd.R_mono ho0 (fun k_ hk => (.inl hk)))
 have HK := Aside0.mk (Kept.refl w (fun k_ => P0_ k_))
 have HW0 := Aside0.mk hB.size
 have HB := Aside0.mk hB
 clear hB
 have H : (slices_Reverse_int_int.l0 k l0 0 (wrap64 ((l0.length : Int) - 1))) = some r := h
 clear h
 have H' := Aside0.mk H
 clear H
 obtain ⟨Ao2, co2, eo2⟩ := Kd.R_slice HO0.out
 subst eo2
 go_enter Try.func53, Try.ntmps53
 go_wp2
 go_loopg [2, 3] k (fun kq v2 v3 w' => ∃ (x0_1 : List Int) (x2_1 : Int) (x3_1 : Int), v2 = .int .i64 x2_1 ∧ v3 = .int .i64 x3_1 ∧ Aside0 (slices_Reverse_int_int.l0 kq x0_1 x2_1 x3_1 = some r) ∧ Aside0 (kq ≤ k) ∧ Aside0 (Kd.R (Kd.int .i64) 3 w' w0.heap.size (fun k_ => (P0_ k_ ∨ w.heap.size ≤ k_)) (.slice Ao2 l0.length co2) x0_1) ∧ Aside0 (Kept w w' (fun k_ => P0_ k_)) ∧ Aside0 (Below w0.heap.size w0 w'))
 case atStart => exact ⟨(l0), (0), (wrap64 ((l0.length : Int) - 1)), (by first | rfl | (simp; done) | (simp [*]; done)), (by first | rfl | (simp; done) | (simp [*]; done)), H', ⟨Nat.le_refl _⟩, ⟨by (with_reducible repeat (first | apply Kd.R_alloc | apply Kd.R_drewN | apply Kd.R_drew)); exact HO0.out⟩, ⟨by repeat (first | (with_reducible first | exact HK.out | apply Kept.alloc | apply Kept.drewN | apply Kept.drew) | exact HK.out)⟩, ⟨by repeat (first | (with_reducible first | exact HB.out | apply below_alloc | apply pw_below_drewN | apply below_drew1) | exact HB.out)⟩⟩
 case round =>
  clear H'
  try clear p2
  obtain ⟨x0_1, x2_1, x3_1, rfl, rfl, HA, HK1, HO_0, HK, HB⟩ := hrel
  have hl0_1 := (Kd.R_reads' HO_0.out).1
  rw [hl0_1] at HO_0
  (try simp only [hl0_1])
  cases gk with
  | zero => exact absurd HA.out (by simp [slices_Reverse_int_int.l0])
  | succ k1 =>
   have H := HA.out
   clear HA
   simp only [slices_Reverse_int_int.l0] at H
   by_cases c3 : x2_1 < x3_1
   ·rw [if_pos c3] at H
    have c3b0 : decide (x2_1 < x3_1) = true := decide_eq_true c3
    clear c3
    by_cases c4 : 0 ≤ x3_1
    ·rw [if_pos c4] at H
     have c4b0 : decide (0 ≤ x3_1) = true := decide_eq_true c4
     clear c4
     by_cases c5 : x3_1 < (x0_1.length : Int)
     ·rw [if_pos c5] at H
      have c5b0 : decide (x3_1 < (x0_1.length : Int)) = true := decide_eq_true c5
      clear c5
      by_cases c6 : 0 ≤ x2_1
      ·rw [if_pos c6] at H
       have c6b0 : decide (0 ≤ x2_1) = true := decide_eq_true c6
       clear c6
       by_cases c7 : x2_1 < (x0_1.length : Int)
       ·rw [if_pos c7] at H
        have c7b0 : decide (x2_1 < (x0_1.length : Int)) = true := decide_eq_true c7
        clear c7
        obtain ⟨y135, hy135⟩ : ∃ y_ : List Int, y_ = (x0_1.set (x2_1 : Int).toNat (rd x0_1 x3_1)) := ⟨_, rfl⟩
        replace H : (slices_Reverse_int_int.l0 k1 (y135.set (x3_1 : Int).toNat (rd x0_1 x2_1)) (wrap64 (x2_1 + 1)) (wrap64 (x3_1 - 1))) = some r := by first | (rw [hy135]; with_reducible exact H) | (have H2_ := (Option.bind_some _ _).symm.trans H; rw [hy135]; with_reducible exact H2_) | (have H2_ := (Option.bind_some _ _).symm.trans H; with_reducible exact H2_) | with_reducible exact H | (rw [hy135]; exact H) | exact H
        have Ny135 := Aside0.mk hy135
        clear hy135
        obtain ⟨y136, hy136⟩ : ∃ y_ : List Int, y_ = (y135.set (x3_1 : Int).toNat (rd x0_1 x2_1)) := ⟨_, rfl⟩
        replace H : (slices_Reverse_int_int.l0 k1 y136 (wrap64 (x2_1 + 1)) (wrap64 (x3_1 - 1))) = some r := by first | (rw [hy136]; with_reducible exact H) | (have H2_ := (Option.bind_some _ _).symm.trans H; rw [hy136]; with_reducible exact H2_) | (have H2_ := (Option.bind_some _ _).symm.trans H; with_reducible exact H2_) | with_reducible exact H | (rw [hy136]; exact H) | exact H
        have Ny136 := Aside0.mk hy136
        clear hy136
        have H' := Aside0.mk H
        clear H
        try go_wp2
        have n0_ := Aside0.mk (Kd.R_drew HO_0.out)
        have n1_ := Aside0.mk (Kept.drew HK.out)
        have n2_ := Aside0.mk (below_drew1 HB.out)
        clear HO_0
        clear HK
        clear HB
        have HO_0 := n0_
        have HK := n1_
        have HB := n2_
        clear n0_ n1_ n2_
        have p133 : 0 ≤ (x3_1 : Int) := of_decide_eq_true (by first | (with_reducible assumption) | assumption)
        have q133 : x3_1 < (x0_1.length : Int) := of_decide_eq_true (by first | (with_reducible assumption) | assumption)
        obtain ⟨ad133, e133, hx133_0⟩ := Kd.at_int (Kd.R_reads' HO_0.out).2.2 x3_1 p133 q133
        cases e133
        replace p133 := eq_true p133
        replace q133 := eq_true q133
        have p134 : 0 ≤ (x2_1 : Int) := of_decide_eq_true (by first | (with_reducible assumption) | assumption)
        have q134 : x2_1 < (x0_1.length : Int) := of_decide_eq_true (by first | (with_reducible assumption) | assumption)
        obtain ⟨ad134, e134, hx134_0⟩ := Kd.at_int (Kd.R_reads' HO_0.out).2.2 x2_1 p134 q134
        obtain rfl : ad133 = ad134 := (by injection e134)
        replace p134 := eq_true p134
        replace q134 := eq_true q134
        have p8 : 0 ≤ (x2_1 : Int) := of_decide_eq_true (by first | (with_reducible assumption) | assumption)
        have q8 : (x2_1 : Int) < ((x0_1.length : Int) : Int) := of_decide_eq_true (by first | (with_reducible assumption) | assumption)
        obtain ⟨go8, co8, eo8, gb8, gl8, cl8, HG8⟩ := Kd.R_form HO_0.out (by omega)
        (first | cases eo8 | (injection eo8 with ea_ en_ ec_; (first | subst ea_ | (injection ea_ with ea_; subst ea_)); subst ec_; clear en_))
        have GB8 := Aside0.mk gb8
        have GG8 := Aside0.mk HG8
        clear gb8 gl8 HG8
        have HMgo8 := Aside0.mk (show (P0_ go8 ∨ w.heap.size ≤ go8) from (HO_0.out.1 _ rfl))
        (first | simp only [add_plain] at hx133_0 | skip)
        (first | simp only [add_plain] at hx134_0 | skip)
        obtain ⟨hx8_0, hf8_0⟩ := Kd.R_celln 0 HO_0.out (x2_1 : Int) p8 q8
        replace p8 := eq_true p8
        replace q8 := eq_true q8
        have HP11 := Kd.R_putn HO_0.out (x2_1 : Int) (rd x0_1 x3_1)
        rw [← Ny135.out] at HP11
        have HQ11 := Aside0.mk HP11
        clear HP11
        have p9 : 0 ≤ (x3_1 : Int) := of_decide_eq_true (by first | (with_reducible assumption) | assumption)
        have q9 : (x3_1 : Int) < ((x0_1.length : Int) : Int) := of_decide_eq_true (by first | (with_reducible assumption) | assumption)
        obtain ⟨hx9_0, hf9_0⟩ := Kd.R_celln 0 HQ11.out (x3_1 : Int) p9 q9
        replace p9 := eq_true p9
        replace q9 := eq_true q9
        have HP12 := Kd.R_putn HQ11.out (x3_1 : Int) (rd x0_1 x2_1)
        rw [← Ny136.out] at HP12
        have HQ12 := Aside0.mk HP12
        clear HP12
        refine start_ (n := 16) (S := fun w' => w'.cell? ⟨go8, (x3_1).toNat, none⟩ = some (.int .i64 (rd x0_1 x3_1)) ∧ w'.cell? ⟨go8, (x2_1).toNat, none⟩ = some (.int .i64 (rd x0_1 x2_1))) (ds := [13, 15]) #[false, false, false, false, false, false, false, false, false, false, false, false, false, false, false, false] (by kernel_rfl) rfl rfl ⟨hx133_0, hx134_0⟩ (fun hHeld => ?_); refine with_tabW slices_Reverse_int_int.tab3 slices_Reverse_int_int.bits3 (fun HT_ HW_ => ?_)
        generalize wr.drew = w10 at HO_0 HK HB GG8 HQ11 HQ12 hf8_0 hf9_0 hx133_0 hx134_0 hx8_0 hx9_0 hHeld ⊢
        refine pure_ (i := 0) (N := some 14) (v := ?_) (a' := ?_) #[true, false, false, false, false, false, false, false, false, false, false, false, false, false, false, false] rfl rfl (any_of HT_.out (by kernel_rfl)) (fun _ _ _ h => h) (Or.inl ⟨by rfl, ?_⟩) ?_ ?_
        rotate_left
        ·intro w'
         go_simp
         with_reducible rfl
        rotate_left
        ·simp only [Act.put, List.setIfInBounds_toArray, List.set_cons_zero, List.set_cons_succ, i64_w, i32_w]
         rfl
        refine pure_ (i := 1) (N := some 15) (v := ?_) (a' := ?_) #[true, true, false, false, false, false, false, false, false, false, false, false, false, false, false, false] rfl rfl (any_of HT_.out (by kernel_rfl)) (fun _ _ _ h => h) (Or.inl ⟨by rfl, ?_⟩) ?_ ?_
        rotate_left
        ·intro w'
         go_simp
         with_reducible rfl
        rotate_left
        ·simp only [Act.put, List.setIfInBounds_toArray, List.set_cons_zero, List.set_cons_succ, i64_w, i32_w]
         rfl
        refine pure_ (i := 2) (N := some 16) (v := ?_) (a' := ?_) #[true, true, true, false, false, false, false, false, false, false, false, false, false, false, false, false] rfl rfl (any_of HT_.out (by kernel_rfl)) (fun _ _ _ h => h) (Or.inl ⟨by rfl, ?_⟩) ?_ ?_
        rotate_left
        ·intro w'
         go_simp
         with_reducible rfl
        rotate_left
        ·simp only [Act.put, List.setIfInBounds_toArray, List.set_cons_zero, List.set_cons_succ, i64_w, i32_w]
         rfl
        refine pure_ (i := 3) (N := some 17) (v := ?_) (a' := ?_) #[true, true, true, true, false, false, false, false, false, false, false, false, false, false, false, false] rfl rfl (any_of HT_.out (by kernel_rfl)) (fun _ _ _ h => h) (Or.inl ⟨by rfl, ?_⟩) ?_ ?_
        rotate_left
        ·intro w'
         go_simp
         with_reducible rfl
        rotate_left
        ·simp only [Act.put, List.setIfInBounds_toArray, List.set_cons_zero, List.set_cons_succ, i64_w, i32_w]
         rfl
        refine pure_ (i := 4) (N := some 18) (v := ?_) (a' := ?_) #[true, true, true, true, true, false, false, false, false, false, false, false, false, false, false, false] rfl rfl (any_of HT_.out (by kernel_rfl)) (fun _ _ _ h => h) (Or.inl ⟨by rfl, ?_⟩) ?_ ?_
        rotate_left
        ·intro w'
         go_simp
         with_reducible rfl
        rotate_left
        ·simp only [Act.put, List.setIfInBounds_toArray, List.set_cons_zero, List.set_cons_succ, i64_w, i32_w]
         rfl
        refine pure_ (i := 5) (N := some 19) (v := ?_) (a' := ?_) #[true, true, true, true, true, true, false, false, false, false, false, false, false, false, false, false] rfl rfl (any_of HT_.out (by kernel_rfl)) (fun _ _ _ h => h) (Or.inl ⟨by rfl, ?_⟩) ?_ ?_
        rotate_left
        ·intro w'
         go_simp
         with_reducible rfl
        rotate_left
        ·simp only [Act.put, List.setIfInBounds_toArray, List.set_cons_zero, List.set_cons_succ, i64_w, i32_w]
         rfl
        refine pure_ (i := 6) (N := some 20) (v := ?_) (a' := ?_) #[true, true, true, true, true, true, true, false, false, false, false, false, false, false, false, false] rfl rfl (any_of HT_.out (by kernel_rfl)) (fun _ _ _ h => h) (Or.inl ⟨by rfl, ?_⟩) ?_ ?_
        rotate_left
        ·intro w'
         go_simp
         with_reducible rfl
        rotate_left
        ·simp only [Act.put, List.setIfInBounds_toArray, List.set_cons_zero, List.set_cons_succ, i64_w, i32_w]
         rfl
        refine pure_ (i := 8) (N := some 22) (v := ?_) (a' := ?_) #[true, true, true, true, true, true, true, false, true, false, false, false, false, false, false, false] rfl rfl (any_of HT_.out (by kernel_rfl)) (fun _ _ _ h => h) (Or.inl ⟨by rfl, ?_⟩) ?_ ?_
        rotate_left
        ·intro w'
         go_simp
         with_reducible rfl
        rotate_left
        ·simp only [Act.put, List.setIfInBounds_toArray, List.set_cons_zero, List.set_cons_succ, i64_w, i32_w]
         rfl
        refine pure_ (i := 9) (N := some 23) (v := ?_) (a' := ?_) #[true, true, true, true, true, true, true, false, true, true, false, false, false, false, false, false] rfl rfl (any_of HT_.out (by kernel_rfl)) (fun _ _ _ h => h) (Or.inl ⟨by rfl, ?_⟩) ?_ ?_
        rotate_left
        ·intro w'
         go_simp
         with_reducible rfl
        rotate_left
        ·simp only [Act.put, List.setIfInBounds_toArray, List.set_cons_zero, List.set_cons_succ, i64_w, i32_w]
         rfl
        refine pure_ (i := 10) (N := some 24) (v := ?_) (a' := ?_) #[true, true, true, true, true, true, true, false, true, true, true, false, false, false, false, false] rfl rfl (any_of HT_.out (by kernel_rfl)) (fun _ _ _ h => h) (Or.inl ⟨by rfl, ?_⟩) ?_ ?_
        rotate_left
        ·intro w'
         go_simp
         with_reducible rfl
        rotate_left
        ·simp only [Act.put, List.setIfInBounds_toArray, List.set_cons_zero, List.set_cons_succ, i64_w, i32_w]
         rfl
        refine take_ (i := 7) (N := some 21) (v := ?_) (a' := ?_) #[true, true, true, true, true, true, true, true, true, true, true, false, false, false, false, false] rfl rfl (take_ofW HT_.out HW_.out (by kernel_rfl)) (fun _ _ _ h => h) (Or.inl ⟨by rfl, ?_⟩) hHeld ?_ ?_
        rotate_left
        ·rintro w' ⟨s0, s1⟩
         go_simp
         with_reducible rfl
        rotate_left
        ·simp only [Act.put, List.setIfInBounds_toArray, List.set_cons_zero, List.set_cons_succ, i64_w, i32_w]
         rfl
        refine take_ (i := 11) (N := some 25) (v := ?_) (a' := ?_) #[true, true, true, true, true, true, true, true, true, true, true, true, false, false, false, false] rfl rfl (take_ofW HT_.out HW_.out (by kernel_rfl)) (fun _ _ _ h => h) (Or.inl ⟨by rfl, ?_⟩) hHeld ?_ ?_
        rotate_left
        ·rintro w' ⟨s0, s1⟩
         go_simp
         with_reducible rfl
        rotate_left
        ·simp only [Act.put, List.setIfInBounds_toArray, List.set_cons_zero, List.set_cons_succ, i64_w, i32_w]
         rfl
        refine pure_ (i := 12) (N := some 26) (v := ?_) (a' := ?_) #[true, true, true, true, true, true, true, true, true, true, true, true, true, false, false, false] rfl rfl (any_of HT_.out (by kernel_rfl)) (fun _ _ _ h => h) (Or.inl ⟨by rfl, ?_⟩) ?_ ?_
        rotate_left
        ·intro w'
         go_simp
         with_reducible rfl
        rotate_left
        ·simp only [Act.put, List.setIfInBounds_toArray, List.set_cons_zero, List.set_cons_succ, i64_w, i32_w]
         rfl
        refine last_ (i := 13) (N := none) #[true, true, true, true, true, true, true, true, true, true, true, true, true, true, false, false] rfl rfl (one_of HT_.out (by kernel_rfl)) (by decide) (fun K hK => ?_)
        refine skip_ (w1 := ?_) (by rfl) rfl ?_ ?_
        rotate_left
        ·go_simp
         rfl
        refine hK.out _ _ ?_
        clear hK K
        refine pure_ (i := 14) (N := some 27) (v := ?_) (a' := ?_) #[true, true, true, true, true, true, true, true, true, true, true, true, true, true, true, false] rfl rfl (any_of HT_.out (by kernel_rfl)) (fun _ _ _ h => h) (Or.inl ⟨by rfl, ?_⟩) ?_ ?_
        rotate_left
        ·intro w'
         go_simp
         with_reducible rfl
        rotate_left
        ·simp only [Act.put, List.setIfInBounds_toArray, List.set_cons_zero, List.set_cons_succ, i64_w, i32_w]
         rfl
        refine last_ (i := 15) (N := none) #[true, true, true, true, true, true, true, true, true, true, true, true, true, true, true, true] rfl rfl (one_of HT_.out (by kernel_rfl)) (by decide) (fun K hK => ?_)
        refine skip_ (w1 := ?_) (by rfl) rfl ?_ ?_
        rotate_left
        ·go_simp
         rfl
        refine hK.out _ _ ?_
        clear hK K
        refine done_ (done_of HT_.out (by kernel_rfl)) ?_
        try go_wp2
        (try simp only [← hl0_1])
        go_roundg k1
        case measure => have := HK1.out; omega
        case rel => exact ⟨(y136), (wrap64 (x2_1 + 1)), (wrap64 (x3_1 - 1)), (by first | rfl | (simp; done) | (simp [*]; done)), (by first | rfl | (simp; done) | (simp [*]; done)), H', ⟨by have := HK1.out; omega⟩, ⟨by (try simp only [hl0_1]); (with_reducible repeat (first | apply Kd.R_alloc | apply Kd.R_drewN | apply Kd.R_drew)); exact HQ12.out⟩, ⟨by repeat (first | (with_reducible first | exact HK.out | apply Kept.alloc | apply Kept.drewN | apply Kept.drew | refine Kept.setCell ?_ HMgo8.out _ | refine Kept.setCell ?_ HMgo8.out _) | exact HK.out)⟩, ⟨by repeat (first | (with_reducible first | exact HB.out | apply below_alloc | apply pw_below_drewN | apply below_drew1 | refine below_set ?_ GB8.out | refine below_set ?_ GB8.out) | exact HB.out)⟩⟩
       ·rw [if_neg c7] at H
        exact absurd H (by simp)
      ·rw [if_neg c6] at H
       exact absurd H (by simp)
     ·rw [if_neg c5] at H
      exact absurd H (by simp)
    ·rw [if_neg c4] at H
     exact absurd H (by simp)
   ·rw [if_neg c3] at H
    have c3b0 : decide (x2_1 < x3_1) = false := decide_eq_false c3
    clear c3
    obtain rfl := Option.some.inj H
    go_wp2
    first | go_end0 | ((try simp only [Exit.inBlock, Exit.then]); refine bodyPost_ret (results_none rfl _ _ _) rfl ?_)
    exact ⟨by first | rfl | (simp [errW_none, errW_some] <;> rfl) | (simp [*, errW_none, errW_some] <;> rfl), (by first | exact (by (with_reducible repeat (first | apply Kd.R_alloc | apply Kd.R_drewN | apply Kd.R_drew)); exact HO_0.out) | (simp only [hl0_1]; exact (by (with_reducible repeat (first | apply Kd.R_alloc | apply Kd.R_drewN | apply Kd.R_drew)); exact HO_0.out))), by repeat (first | (with_reducible first | exact HB.out | apply below_alloc | apply pw_below_drewN | apply below_drew1) | exact HB.out), by repeat (first | (with_reducible first | exact HK.out | apply Kept.alloc | apply Kept.drewN | apply Kept.drew) | exact HK.out)⟩

end Go.Proofs.Ytclhjalgflebfaa.Q

/- 'flow.walk', 'Reached', 'Order': by hand. -/

namespace Go.Proofs.Ytclhjalgflebfaa.Q
open Go.RowKit Go.Proofs.YtclhjalgflebfaaW.PrintWords Go.Proofs.YtclhjalgflebfaaW.PrintLast Go.Proofs.YtclhjalgflebfaaW.PrintMore
set_option linter.unusedVariables false
set_option linter.unusedSimpArgs false
def walkO (l : List S40) : Option (List Bool × List Int) := if l.length < LIMF then (if l.length = 0 then some ([], []) else visitO l (l.length + 1) 0 (List.replicate l.length false) []) else none
theorem Wk.drew {W : World} {base : Nat} {f1 f2 f3 f4 f5 f6 : Value} {bw bs : Nat} {v : Value} {s : List Bool} {d : List Int} (h : Wk W base f1 f2 f3 f4 f5 f6 bw bs v s d) : Wk W.drew base f1 f2 f3 f4 f5 f6 bw bs v s d := h.below (below_drew (Below.refl _ _))
theorem wk_new {w W : World} {f1 f2 f3 f4 f5 f6 : Value} {n g : Nat} (hB : Below w.heap.size w W) (hg : W.heap.size = g) (hn : n < LIMF) :
  Wk ((W.alloc (.cells (madeCells #[.bool false] n) 4)).alloc (.cells #[f1, f2, f3, f4, f5, f6, .slice (some ⟨g, 0, none⟩) n n, .slice none 0 0] 66)) w.heap.size f1 f2 f3 f4 f5 f6 (g + 1) g (.slice none 0 0) (List.replicate n false) [] := by
 subst hg
 have hs := hB.size
 refine ⟨?_, ?_, Kd.R_nil _ _ _ _ _, by omega⟩
 ·have := blk_new (W.alloc (.cells (madeCells #[.bool false] n) 4)) (.cells #[f1, f2, f3, f4, f5, f6, .slice (some ⟨W.heap.size, 0, none⟩) n n, .slice none 0 0] 66)
  simpa using this
 ·have h := own_made_of (enc := Value.bool) (d := false) W w.heap.size 4 n hs (by unfold LIMF at hn; omega)
  have h2 : Kd.bool.R 4 (W.alloc (.cells (madeCells #[.bool false] n) 4)) w.heap.size (fun _ => True) (.slice (some ⟨W.heap.size, 0, none⟩) n n) (List.replicate n false) := Kd.R_of_own (by rw [List.length_replicate]; exact h) (fun _ _ => trivial)
  rw [List.length_replicate]
  exact Kd.R_alloc h2 _
set_option maxRecDepth 100000 in
set_option maxHeartbeats 1000000 in
theorem walk_calls (a0_0 : ByteArray) (A0_1 : Option Addr) (c0_1 : Nat) (l0_1 : List ByteArray) (a0_2 : ByteArray) (A0_3 : Option Addr) (c0_3 : Nat) (l0_3 : List ByteArray) (A0_4 : Option Addr) (c0_4 : Nat) (l0_4 : List (S58)) (A0_5 : Option Addr) (c0_5 : Nat) (l0_5 : List (S40)) (w : World) (hr0_1 : Kd.C Kd.string w A0_1 l0_1.length l0_1) (hc0_1 : l0_1.length ≤ c0_1) (hr0_3 : Kd.C Kd.string w A0_3 l0_3.length l0_3) (hc0_3 : l0_3.length ≤ c0_3) (hr0_4 : Kd.C k58 w A0_4 l0_4.length l0_4) (hc0_4 : l0_4.length ≤ c0_4) (hr0_5 : Kd.C k40 w A0_5 l0_5.length l0_5) (hc0_5 : l0_5.length ≤ c0_5) (s' : List Bool) (d' : List Int) (h : walkO l0_5 = some (s', d')) :
  Calls Try.prog 49 #[.agg #[.string a0_0, .slice A0_1 l0_1.length c0_1, .string a0_2, .slice A0_3 l0_3.length c0_3, .slice A0_4 l0_4.length c0_4, .slice A0_5 l0_5.length c0_5]] w fun e W' => ∃ bw bs v, e = .returned (.pointer (some ⟨bw, 0, none⟩)) ∧ Wk W' w.heap.size (.string a0_0) (.slice A0_1 l0_1.length c0_1) (.string a0_2) (.slice A0_3 l0_3.length c0_3) (.slice A0_4 l0_4.length c0_4) (.slice A0_5 l0_5.length c0_5) bw bs v s' d' ∧ Below w.heap.size w W' := by
 unfold walkO at h
 split at h
 case isFalse => cases h
 rename_i hlim
 have hmk := print_make_of (P := Try.prog) 31 4 (.bool false) 1 Try.underlying31 info4 rfl (by decide) l0_5.length (by unfold LIMF at hlim; omega)
 have HK := Aside0.mk (wk_new (f1 := .string a0_0) (f2 := .slice A0_1 l0_1.length c0_1) (f3 := .string a0_2) (f4 := .slice A0_3 l0_3.length c0_3) (f5 := .slice A0_4 l0_4.length c0_4) (f6 := .slice A0_5 l0_5.length c0_5) (n := l0_5.length) (below_alloc (Below.refl w.heap.size w) (.cells #[.string a0_0, .slice A0_1 l0_1.length c0_1, .string a0_2, .slice A0_3 l0_3.length c0_3, .slice A0_4 l0_4.length c0_4, .slice A0_5 l0_5.length c0_5] 26)) (World.size_alloc _ _) hlim).drew
 have HB := Aside0.mk (below_drew (below_alloc (below_alloc (below_alloc (Below.refl w.heap.size w) (.cells #[.string a0_0, .slice A0_1 l0_1.length c0_1, .string a0_2, .slice A0_3 l0_3.length c0_3, .slice A0_4 l0_4.length c0_4, .slice A0_5 l0_5.length c0_5] 26)) (.cells (madeCells #[.bool false] l0_5.length) 4)) (.cells #[.string a0_0, .slice A0_1 l0_1.length c0_1, .string a0_2, .slice A0_3 l0_3.length c0_3, .slice A0_4 l0_4.length c0_4, .slice A0_5 l0_5.length c0_5, .slice (some ⟨w.heap.size + 1, 0, none⟩) l0_5.length l0_5.length, .slice none 0 0] 66)))
 by_cases hz : l0_5.length = 0
 ·rw [if_pos hz] at h
  simp only [Option.some.injEq, Prod.mk.injEq] at h
  obtain ⟨rfl, rfl⟩ := h
  have hn0 : ¬ 0 < l0_5.length := by omega
  have he : List.replicate l0_5.length false = [] := by rw [hz]; rfl
  rw [he] at HK
  clear hz he
  go_enter Try.func49, Try.ntmps49
  go_wp2
  go_region
  go_wp2
  go_ret
  exact ⟨_, _, _, rfl, HK.out, HB.out⟩
 ·rw [if_neg hz] at h
  have HV := Aside0.mk h; clear h
  have hpos : 0 < l0_5.length := by omega
  go_enter Try.func49, Try.ntmps49
  go_wp2
  go_region
  go_wp2_with fail
  refine (visit_calls a0_0 A0_1 c0_1 l0_1 a0_2 A0_3 c0_3 l0_3 A0_4 c0_4 l0_4 A0_5 c0_5 l0_5 w hr0_1 hc0_1 hr0_3 hc0_3 hr0_4 hc0_4 hr0_5 hc0_5 _ _ _ _ _ _ HV.out _ _ _ _ HB.out HK.out).mono ?_
  rintro e w3 ⟨rfl, v3, hK3, hB3, hk3, ho3⟩
  have HK3 := Aside0.mk hK3
  have HB3 := Aside0.mk hB3
  clear hK3 hB3 hk3 ho3
  go_wp2
  go_ret
  exact ⟨_, _, _, rfl, HK3.out, HB3.out⟩
def flow_Reached.f (a0_0 : ByteArray) (l0_1 : List ByteArray) (a0_2 : ByteArray) (l0_3 : List ByteArray) (l0_4 : List (S58)) (l0_5 : List (S40)) : Option (List Bool) := (walkO l0_5).map (·.1)
set_option maxHeartbeats 1000000 in
theorem flow_Reached.calls (a0_0 : ByteArray) (A0_1 : Option Addr) (c0_1 : Nat) (l0_1 : List ByteArray) (a0_2 : ByteArray) (A0_3 : Option Addr) (c0_3 : Nat) (l0_3 : List ByteArray) (A0_4 : Option Addr) (c0_4 : Nat) (l0_4 : List (S58)) (A0_5 : Option Addr) (c0_5 : Nat) (l0_5 : List (S40)) (r : List Bool) (w : World) (hr0_1 : Kd.C Kd.string w A0_1 l0_1.length l0_1) (hc0_1 : l0_1.length ≤ c0_1) (hr0_3 : Kd.C Kd.string w A0_3 l0_3.length l0_3) (hc0_3 : l0_3.length ≤ c0_3) (hr0_4 : Kd.C k58 w A0_4 l0_4.length l0_4) (hc0_4 : l0_4.length ≤ c0_4) (hr0_5 : Kd.C k40 w A0_5 l0_5.length l0_5) (hc0_5 : l0_5.length ≤ c0_5) (h : flow_Reached.f a0_0 l0_1 a0_2 l0_3 l0_4 l0_5 = some r) :
  Calls Try.prog 17 #[.agg #[.string a0_0, .slice A0_1 l0_1.length c0_1, .string a0_2, .slice A0_3 l0_3.length c0_3, .slice A0_4 l0_4.length c0_4, .slice A0_5 l0_5.length c0_5]] w fun e w' => ∃ v0_ : Value, e = .returned (v0_) ∧ Kd.R Kd.bool 4 w' w.heap.size (fun _ => True) v0_ r ∧ Below w.heap.size w w' := by
 unfold flow_Reached.f at h
 obtain ⟨⟨s', d'⟩, hw, rfl⟩ := Option.map_eq_some_iff.mp h
 clear h
 have HW := Aside0.mk hw; clear hw
 have hb0 := below_alloc (Below.refl w.heap.size w) (.cells #[.string a0_0, .slice A0_1 l0_1.length c0_1, .string a0_2, .slice A0_3 l0_3.length c0_3, .slice A0_4 l0_4.length c0_4, .slice A0_5 l0_5.length c0_5] 26)
 have HB0 := Aside0.mk hb0; clear hb0
 go_enter Try.func17, Try.ntmps17
 go_wp2_with fail
 refine (walk_calls a0_0 A0_1 c0_1 l0_1 a0_2 A0_3 c0_3 l0_3 A0_4 c0_4 l0_4 A0_5 c0_5 l0_5 _ (Kd.C_below hr0_1 HB0.out) hc0_1 (Kd.C_below hr0_3 HB0.out) hc0_3 (Kd.C_below hr0_4 HB0.out) hc0_4 (Kd.C_below hr0_5 HB0.out) hc0_5 s' d' HW.out).mono ?_
 rintro e w3 ⟨bw, bs, v, rfl, hK3, hB3⟩
 have HK3 := Aside0.mk hK3
 have HB3 := Aside0.mk (below_step HB0.out hB3)
 have hk6 := blk_cell hK3.blk 6
 clear hK3 hB3
 go_wp2
 go_ret
 exact ⟨_, rfl, Kd.R_lower HK3.out.seen HB0.out.size, HB3.out⟩
theorem rev_loop (o : List Int) (hb : o.length < LIMF) : ∀ (d k : Nat) (x : List Int) (i : Nat), x.length = o.length → i ≤ o.length → (o.length : Int) - 1 - i + 1 - i ≤ d → d < k → (∀ p : Nat, p < o.length → x.getD p 0 = if p < i ∨ o.length - i ≤ p then o.getD (o.length - 1 - p) 0 else o.getD p 0) →
  slices_Reverse_int_int.l0 k x i ((o.length : Int) - 1 - i) = some o.reverse
 | d, k, x, i, hx, hi, hd, hk, hp => by
  unfold LIMF at hb
  obtain ⟨k, rfl⟩ : ∃ m, k = m + 1 := ⟨k - 1, by omega⟩
  simp only [slices_Reverse_int_int.l0]
  by_cases hlt : (i : Int) < (o.length : Int) - 1 - i
  ·rw [if_pos hlt, if_pos (by omega), if_pos (by omega), if_pos (by omega), if_pos (by omega)]
   have e1 : wrap64 ((i : Int) + 1) = ((i + 1 : Nat) : Int) := by unfold wrap64; omega
   have e2 : wrap64 ((o.length : Int) - 1 - i - 1) = (o.length : Int) - 1 - ((i + 1 : Nat) : Int) := by unfold wrap64; omega
   rw [e1, e2]
   obtain ⟨d, rfl⟩ : ∃ m, d = m + 1 := ⟨d - 1, by omega⟩
   have ej : ((o.length : Int) - 1 - i).toNat = o.length - 1 - i := by omega
   refine rev_loop o hb d k _ (i + 1) (by simp [hx]) (by omega) (by omega) (by omega) (fun p hpn => ?_)
   unfold rd
   rw [ej, Int.toNat_natCast]
   have q1 := hp i (by omega)
   have q2 := hp (o.length - 1 - i) (by omega)
   rw [if_neg (by omega)] at q1 q2
   rw [q1, q2]
   have q3 := hp p hpn
   by_cases h1 : p = o.length - 1 - i
   ·subst h1
    rw [if_pos (by omega)]
    simp [List.getD, List.getElem?_set, hx, show o.length - 1 - i < o.length by omega, show o.length - 1 - (o.length - 1 - i) = i by omega]
   ·by_cases h2 : p = i
    ·subst h2
     rw [if_pos (by omega)]
     simp [List.getD, List.getElem?_set, hx, show p < o.length by omega, show ¬ o.length - 1 - p = p by omega]
    ·have : ((x.set i (o.getD (o.length - 1 - i) 0)).set (o.length - 1 - i) (o.getD i 0)).getD p 0 = x.getD p 0 := by
      simp [List.getD, List.getElem?_set, show ¬ o.length - 1 - i = p by omega, show ¬ i = p by omega]
     rw [this, q3]
     by_cases h3 : p < i ∨ o.length - i ≤ p
     ·rw [if_pos h3, if_pos (by omega)]
     ·rw [if_neg h3, if_neg (by omega)]
  ·rw [if_neg hlt]
   congr 1
   refine lists_eq 0 (by simp [hx]) (fun p hpn => ?_)
   rw [hx] at hpn
   rw [hp p hpn]
   have er : o.reverse.getD p 0 = o.getD (o.length - 1 - p) 0 := by
    rw [getD_at _ _ (by simpa using hpn), getD_at _ _ (by omega), List.getElem_reverse]
   rw [er]
   by_cases h3 : p < i ∨ o.length - i ≤ p
   ·rw [if_pos h3]
   ·rw [if_neg h3]
    congr 1
    omega
theorem rev_some (o : List Int) (hb : o.length < LIMF) : slices_Reverse_int_int.f (o.length + 1) o = some o.reverse := by
 unfold slices_Reverse_int_int.f
 have e : wrap64 ((o.length : Int) - 1) = (o.length : Int) - 1 - ((0 : Nat) : Int) := by unfold LIMF at hb; unfold wrap64; omega
 rw [e]
 exact rev_loop o hb o.length _ o 0 rfl (Nat.zero_le _) (by omega) (by omega) (fun p hp => by rw [if_neg (by omega)])
def flow_Order.f (a0_0 : ByteArray) (l0_1 : List ByteArray) (a0_2 : ByteArray) (l0_3 : List ByteArray) (l0_4 : List (S58)) (l0_5 : List (S40)) : Option (List Int) := (walkO l0_5).bind fun sd => if sd.2.length < LIMF then some sd.2.reverse else none
set_option maxHeartbeats 1000000 in
theorem flow_Order.calls (a0_0 : ByteArray) (A0_1 : Option Addr) (c0_1 : Nat) (l0_1 : List ByteArray) (a0_2 : ByteArray) (A0_3 : Option Addr) (c0_3 : Nat) (l0_3 : List ByteArray) (A0_4 : Option Addr) (c0_4 : Nat) (l0_4 : List (S58)) (A0_5 : Option Addr) (c0_5 : Nat) (l0_5 : List (S40)) (r : List Int) (w : World) (hr0_1 : Kd.C Kd.string w A0_1 l0_1.length l0_1) (hc0_1 : l0_1.length ≤ c0_1) (hr0_3 : Kd.C Kd.string w A0_3 l0_3.length l0_3) (hc0_3 : l0_3.length ≤ c0_3) (hr0_4 : Kd.C k58 w A0_4 l0_4.length l0_4) (hc0_4 : l0_4.length ≤ c0_4) (hr0_5 : Kd.C k40 w A0_5 l0_5.length l0_5) (hc0_5 : l0_5.length ≤ c0_5) (h : flow_Order.f a0_0 l0_1 a0_2 l0_3 l0_4 l0_5 = some r) :
  Calls Try.prog 22 #[.agg #[.string a0_0, .slice A0_1 l0_1.length c0_1, .string a0_2, .slice A0_3 l0_3.length c0_3, .slice A0_4 l0_4.length c0_4, .slice A0_5 l0_5.length c0_5]] w fun e w' => ∃ v0_ : Value, e = .returned (v0_) ∧ Kd.R (Kd.int .i64) 3 w' w.heap.size (fun _ => True) v0_ r ∧ Below w.heap.size w w' := by
 unfold flow_Order.f at h
 obtain ⟨⟨s', d'⟩, hw, h⟩ := Option.bind_eq_some_iff.mp h
 split at h
 case isFalse => cases h
 rename_i hlim
 obtain rfl := Option.some.inj h
 clear h
 have HW := Aside0.mk hw; clear hw
 have HREV := Aside0.mk (rev_some d' hlim)
 clear hlim
 have hb0 := below_alloc (Below.refl w.heap.size w) (.cells #[.string a0_0, .slice A0_1 l0_1.length c0_1, .string a0_2, .slice A0_3 l0_3.length c0_3, .slice A0_4 l0_4.length c0_4, .slice A0_5 l0_5.length c0_5] 26)
 have HB0 := Aside0.mk hb0; clear hb0
 go_enter Try.func22, Try.ntmps22
 go_wp2_with fail
 refine (walk_calls a0_0 A0_1 c0_1 l0_1 a0_2 A0_3 c0_3 l0_3 A0_4 c0_4 l0_4 A0_5 c0_5 l0_5 _ (Kd.C_below hr0_1 HB0.out) hc0_1 (Kd.C_below hr0_3 HB0.out) hc0_3 (Kd.C_below hr0_4 HB0.out) hc0_4 (Kd.C_below hr0_5 HB0.out) hc0_5 s' d' HW.out).mono ?_
 rintro e w3 ⟨bw, bs, v, rfl, hK3, hB3⟩
 have HK3 := Aside0.mk hK3
 have HB3 := Aside0.mk (below_step HB0.out hB3)
 have hk7 := blk_cell hK3.blk 7
 have HD3 := Aside0.mk (Kd.R_lower hK3.done HB0.out.size)
 clear hK3 hB3
 go_wp2_with fail
 refine (slices_Reverse_int_int.calls _ (fun _ => True) v d' d'.reverse w w3 HB3.out HD3.out HREV.out).mono ?_
 rintro e w4 ⟨rfl, hR4, hB4, hk4⟩
 have HR4 := Aside0.mk (Kd.R_mono hR4 (fun _ _ => trivial) (ok' := fun _ => True))
 have HB4 := Aside0.mk hB4
 clear hR4 hB4 hk4
 go_wp2
 go_ret
 exact ⟨_, rfl, HR4.out, HB4.out⟩
end Go.Proofs.Ytclhjalgflebfaa.Q

namespace Go.Proofs.Ytclhjalgflebfaa.Q
open Go.RowKit Go.Proofs.YtclhjalgflebfaaW.PrintWords Go.Proofs.YtclhjalgflebfaaW.PrintLast Go.Proofs.YtclhjalgflebfaaW.PrintMore
attribute [local go_sem] max2_int min2_int max_two min_two max_three min_three max_four min_four   -- for this text's walks alone
set_option linter.unusedVariables false
set_option linter.unusedSimpArgs false

/-! ### truantref09_Next: function 21 -/
mutual
def truantref09_Next.j0 : Nat → Int → List Int → Bool → ByteArray → List ByteArray → ByteArray → List ByteArray → List (S58) → List (S40) → Option (List Int)
 | 0, _, _, _, _, _, _, _, _, _ => none
 | k + 1, x1, x5, x16, x330000, x330001, x330002, x330003, x330004, x330005 => if x16 = true then (some x5) else (if 0 ≤ x1 then (if x1 < (x330005.length : Int) then (if ((rd_T40 x330005 x1).f1) = 1 then (if ((rd_T40 x330005 x1).f3.f0) ≥ 0 then (truantref09_Next.j1 k x5 (decide (((rd_T40 x330005 x1).f3.f0) < (x330005.length : Int))) x330000 x330001 x330002 x330003 x330004 x330005 ((rd_T40 x330005 x1).f0) ((rd_T40 x330005 x1).f1) ((rd_T40 x330005 x1).f2) ((rd_T40 x330005 x1).f3.f0) ((rd_T40 x330005 x1).f3.f1)) else (truantref09_Next.j1 k x5 false x330000 x330001 x330002 x330003 x330004 x330005 ((rd_T40 x330005 x1).f0) ((rd_T40 x330005 x1).f1) ((rd_T40 x330005 x1).f2) ((rd_T40 x330005 x1).f3.f0) ((rd_T40 x330005 x1).f3.f1))) else (if ((rd_T40 x330005 x1).f1) = 2 then (if ((rd_T40 x330005 x1).f3.f0) ≥ 0 then (truantref09_Next.j1 k x5 (decide (((rd_T40 x330005 x1).f3.f0) < (x330005.length : Int))) x330000 x330001 x330002 x330003 x330004 x330005 ((rd_T40 x330005 x1).f0) ((rd_T40 x330005 x1).f1) ((rd_T40 x330005 x1).f2) ((rd_T40 x330005 x1).f3.f0) ((rd_T40 x330005 x1).f3.f1)) else (truantref09_Next.j1 k x5 false x330000 x330001 x330002 x330003 x330004 x330005 ((rd_T40 x330005 x1).f0) ((rd_T40 x330005 x1).f1) ((rd_T40 x330005 x1).f2) ((rd_T40 x330005 x1).f3.f0) ((rd_T40 x330005 x1).f3.f1))) else (truantref09_Next.j1 k x5 false x330000 x330001 x330002 x330003 x330004 x330005 ((rd_T40 x330005 x1).f0) ((rd_T40 x330005 x1).f1) ((rd_T40 x330005 x1).f2) ((rd_T40 x330005 x1).f3.f0) ((rd_T40 x330005 x1).f3.f1)))) else (none)) else (none))
def truantref09_Next.j1 : Nat → List Int → Bool → ByteArray → List ByteArray → ByteArray → List ByteArray → List (S58) → List (S40) → List Int → Int → Int → Int → Int → Option (List Int)
 | 0, _, _, _, _, _, _, _, _, _, _, _, _, _ => none
 | k + 1, x5, x45, x330000, x330001, x330002, x330003, x330004, x330005, x335000, x335001, x335002, x335003, x335004 => if x45 = true then (if x5.length < 17592186044416 then ((some (x5 ++ [x335003] : List Int)).bind fun y335 => (if x335001 = 2 then (if x335004 = x335003 then (some y335) else (if x335004 ≥ 0 then (if x335004 < (x330005.length : Int) then (if y335.length < 17592186044416 then (some (y335 ++ [x335004])) else (none)) else (some y335)) else (some y335))) else (some y335))) else (none)) else (if x335001 = 2 then (if x335004 = x335003 then (some x5) else (if x335004 ≥ 0 then (if x335004 < (x330005.length : Int) then (if x5.length < 17592186044416 then (some (x5 ++ [x335004])) else (none)) else (some x5)) else (some x5))) else (some x5))
end
def truantref09_Next.f (k : Nat) (a0_0 : ByteArray) (l0_1 : List ByteArray) (a0_2 : ByteArray) (l0_3 : List ByteArray) (l0_4 : List (S58)) (l0_5 : List (S40)) (a1 : Int) : Option (List Int) := (some (([] : List Int) : List Int)).bind fun y330 => (if a1 < 0 then (truantref09_Next.j0 k a1 y330 true a0_0 l0_1 a0_2 l0_3 l0_4 l0_5) else (truantref09_Next.j0 k a1 y330 (decide (a1 ≥ (l0_5.length : Int))) a0_0 l0_1 a0_2 l0_3 l0_4 l0_5))
theorem truantref09_Next.mono_l : ∀ k, (∀ y0 y1 y2 y3 y4 y5 y6 y7 y8, LeO (truantref09_Next.j0 k y0 y1 y2 y3 y4 y5 y6 y7 y8) (truantref09_Next.j0 (k + 1) y0 y1 y2 y3 y4 y5 y6 y7 y8)) ∧ (∀ y0 y1 y2 y3 y4 y5 y6 y7 y8 y9 y10 y11 y12, LeO (truantref09_Next.j1 k y0 y1 y2 y3 y4 y5 y6 y7 y8 y9 y10 y11 y12) (truantref09_Next.j1 (k + 1) y0 y1 y2 y3 y4 y5 y6 y7 y8 y9 y10 y11 y12))
 | 0 => ⟨fun _ _ _ _ _ _ _ _ _ r h => by simp [truantref09_Next.j0] at h, fun _ _ _ _ _ _ _ _ _ _ _ _ _ r h => by simp [truantref09_Next.j1] at h⟩
 | k + 1 => by
  obtain ⟨ih0, ih1⟩ := truantref09_Next.mono_l k
  refine ⟨?_, ?_⟩
  ·intro y0 y1 y2 y3 y4 y5 y6 y7 y8
   unfold truantref09_Next.j0
   repeat' first
   | (with_reducible exact ih0 _ _ _ _ _ _ _ _ _)
   | (with_reducible exact ih1 _ _ _ _ _ _ _ _ _ _ _ _ _)
   | (with_reducible exact LeO.refl _)
   | (with_reducible exact LeO.none _)
   | (with_reducible refine LeO.ite ?_ ?_)
   | (with_reducible refine LeO.bind ?_ (fun _ => ?_))
   | exact ih0 _ _ _ _ _ _ _ _ _
   | exact ih1 _ _ _ _ _ _ _ _ _ _ _ _ _
   | exact LeO.none _
   | refine LeO.ite ?_ ?_
   | refine LeO.bind ?_ (fun _ => ?_)
  ·intro y0 y1 y2 y3 y4 y5 y6 y7 y8 y9 y10 y11 y12
   unfold truantref09_Next.j1
   repeat' first
   | (with_reducible exact ih0 _ _ _ _ _ _ _ _ _)
   | (with_reducible exact ih1 _ _ _ _ _ _ _ _ _ _ _ _ _)
   | (with_reducible exact LeO.refl _)
   | (with_reducible exact LeO.none _)
   | (with_reducible refine LeO.ite ?_ ?_)
   | (with_reducible refine LeO.bind ?_ (fun _ => ?_))
   | exact ih0 _ _ _ _ _ _ _ _ _
   | exact ih1 _ _ _ _ _ _ _ _ _ _ _ _ _
   | exact LeO.none _
   | refine LeO.ite ?_ ?_
   | refine LeO.bind ?_ (fun _ => ?_)
theorem truantref09_Next.mono : ∀ a0 a1 a2 a3 a4 a5 a6 k, LeO (truantref09_Next.f k a0 a1 a2 a3 a4 a5 a6) (truantref09_Next.f (k + 1) a0 a1 a2 a3 a4 a5 a6) := by
 intro a0 a1 a2 a3 a4 a5 a6 k
 obtain ⟨ih0, ih1⟩ := truantref09_Next.mono_l k
 unfold truantref09_Next.f
 repeat' first
   | (with_reducible exact ih0 _ _ _ _ _ _ _ _ _)
   | (with_reducible exact ih1 _ _ _ _ _ _ _ _ _ _ _ _ _)
   | (with_reducible exact LeO.refl _)
   | (with_reducible exact LeO.none _)
   | (with_reducible refine LeO.ite ?_ ?_)
   | (with_reducible refine LeO.bind ?_ (fun _ => ?_))
   | exact ih0 _ _ _ _ _ _ _ _ _
   | exact ih1 _ _ _ _ _ _ _ _ _ _ _ _ _
   | exact LeO.none _
   | refine LeO.ite ?_ ?_
   | refine LeO.bind ?_ (fun _ => ?_)
set_option maxHeartbeats 8000000 in
set_option maxRecDepth 100000 in
theorem truantref09_Next.calls (k : Nat) (a0_0 : ByteArray) (A0_1 : Option Addr) (c0_1 : Nat) (l0_1 : List ByteArray) (a0_2 : ByteArray) (A0_3 : Option Addr) (c0_3 : Nat) (l0_3 : List ByteArray) (A0_4 : Option Addr) (c0_4 : Nat) (l0_4 : List (S58)) (A0_5 : Option Addr) (c0_5 : Nat) (l0_5 : List (S40)) (a1 : Int) (r : List Int) (w : World) (hr0_1 : Kd.C Kd.string w A0_1 l0_1.length l0_1) (hc0_1 : l0_1.length ≤ c0_1) (hr0_3 : Kd.C Kd.string w A0_3 l0_3.length l0_3) (hc0_3 : l0_3.length ≤ c0_3) (hr0_4 : Kd.C k58 w A0_4 l0_4.length l0_4) (hc0_4 : l0_4.length ≤ c0_4) (hr0_5 : Kd.C k40 w A0_5 l0_5.length l0_5) (hc0_5 : l0_5.length ≤ c0_5) (h : truantref09_Next.f k a0_0 l0_1 a0_2 l0_3 l0_4 l0_5 a1 = some r) :
  Calls Try.prog 21 #[.agg #[.string a0_0, .slice A0_1 l0_1.length c0_1, .string a0_2, .slice A0_3 l0_3.length c0_3, .slice A0_4 l0_4.length c0_4, .slice A0_5 l0_5.length c0_5], .int .i64 a1] w fun e w' => ∃ v0_ : Value, e = .returned (v0_) ∧ Kd.R (Kd.int .i64) 3 w' w.heap.size (fun _ => True) v0_ r ∧ Below w.heap.size w w' := by
 have hu26 := Try.underlying26
 have hu40 := Try.underlying40
 have HR0_1 := Aside0.mk hr0_1
 have HC0_1 := Aside0.mk hc0_1
 clear hr0_1 hc0_1
 have HR0_3 := Aside0.mk hr0_3
 have HC0_3 := Aside0.mk hc0_3
 clear hr0_3 hc0_3
 have HR0_4 := Aside0.mk hr0_4
 have HC0_4 := Aside0.mk hc0_4
 clear hr0_4 hc0_4
 have HR0_5 := Aside0.mk hr0_5
 have HC0_5 := Aside0.mk hc0_5
 clear hr0_5 hc0_5
 have HB := Aside0.mk (Below.refl w.heap.size w)
 have H : ((some (([] : List Int) : List Int)).bind fun y330 => (if a1 < 0 then (truantref09_Next.j0 k a1 y330 true a0_0 l0_1 a0_2 l0_3 l0_4 l0_5) else (truantref09_Next.j0 k a1 y330 (decide (a1 ≥ (l0_5.length : Int))) a0_0 l0_1 a0_2 l0_3 l0_4 l0_5))) = some r := h
 clear h
 obtain ⟨y330, hy330⟩ : ∃ y_ : List Int, y_ = (([] : List Int)) := ⟨_, rfl⟩
 replace H : (if a1 < 0 then (truantref09_Next.j0 k a1 y330 true a0_0 l0_1 a0_2 l0_3 l0_4 l0_5) else (truantref09_Next.j0 k a1 y330 (decide (a1 ≥ (l0_5.length : Int))) a0_0 l0_1 a0_2 l0_3 l0_4 l0_5)) = some r := by first | (rw [hy330]; with_reducible exact H) | (have H2_ := (Option.bind_some _ _).symm.trans H; rw [hy330]; with_reducible exact H2_) | (have H2_ := (Option.bind_some _ _).symm.trans H; with_reducible exact H2_) | with_reducible exact H | (rw [hy330]; exact H) | exact H
 have Ny330 := Aside0.mk hy330
 clear hy330
 have HC3 := Aside0.mk H
 clear H
 go_enter Try.func21, Try.ntmps21
 go_upto_region 2 with (first | ((with_reducible refine gate_dst (N := 2) rfl ?_); (try (refine gate_guard (by rfl) ?_; dsimp only)); refine box_event ?hg (N := 2) ?hd (cs := #[.string a0_0, .slice A0_1 l0_1.length c0_1, .string a0_2, .slice A0_3 l0_3.length c0_3, .slice A0_4 l0_4.length c0_4, .slice A0_5 l0_5.length c0_5]) (t := 26) ?hr ?_; (case hd => rfl); (case hg => rfl); (case hr => first | (go_simp; done) | (go_simp; rfl)); intro gb329 hg w4 hbox hb; have n0_ := Aside0.mk (below_step (by repeat (first | (with_reducible first | exact HB.out | apply below_alloc | apply pw_below_drewN | apply below_drew1) | exact HB.out)) hb); have n1_ := Aside0.mk (hbox); have n2_ := Aside0.mk ((by rw [hg]; exact (below_size (by repeat (first | (with_reducible first | exact HB.out | apply below_alloc | apply pw_below_drewN | apply below_drew1) | exact HB.out))) : w.heap.size ≤ gb329)); have n3_ := Aside0.mk ((by rw [hg]; exact (below_size (by repeat (first | (with_reducible first | exact HB.out | apply below_alloc | apply pw_below_drewN | apply below_drew1) | exact HB.out))) : w.heap.size ≤ gb329)); clear HB; have HB := n0_; have BK329 := n1_; have GW329 := n2_; have GE329 := n3_; clear n0_ n1_ n2_ n3_; clear hb hbox hg) | ((with_reducible refine gate_dst (N := 7) rfl ?_); (try (refine gate_guard (by rfl) ?_; dsimp only)); refine Kd.R_lit (Kd.int .i64) _ 3 ?hg (N := 7) ?hd (xs := ([] : List Int)) (inner := []) (ok := fun _ => True) (okp := fun _ => True) ?hr ?hp (fun _ hk => hk) trivial (Below.refl _ _) (Nat.le_refl _) (by simp) ?_; (case hd => rfl); (case hg => rfl); (case hr => first | (go_simp; done) | (go_simp; rfl)); (case hp => exact (Reps.none _ _)); intro v331 w5 ho6 hb hg_ hnew_; clear hg_ hnew_; (first | rw [← Ny330.out] at ho6 | (simp only [Int.reduceToNat] at ho6; rw [← Ny330.out] at ho6)); have n0_ := Aside0.mk (Kd.R_lower ho6 (below_size (by repeat (first | (with_reducible first | exact HB.out | apply below_alloc | apply pw_below_drewN | apply below_drew1 | refine below_set ?_ GE329.out) | exact HB.out)))); have n1_ := Aside0.mk (blk_below (g := gb329) (o := .cells #[.string a0_0, .slice A0_1 l0_1.length c0_1, .string a0_2, .slice A0_3 l0_3.length c0_3, .slice A0_4 l0_4.length c0_4, .slice A0_5 l0_5.length c0_5] 26 (0, 0)) (by (with_reducible repeat (first | refine blk_drewN ?_ _ | refine blk_drew ?_ | refine blk_alloc ?_ _)); exact BK329.out) hb); have n2_ := Aside0.mk (below_step (by repeat (first | (with_reducible first | exact HB.out | apply below_alloc | apply pw_below_drewN | apply below_drew1 | refine below_set ?_ GE329.out) | exact HB.out)) hb); clear BK329; clear HB; have HO332 := n0_; have BK329 := n1_; have HB := n2_; clear n0_ n1_ n2_; clear hb ho6))
 (try simp only [Act.put, List.setIfInBounds_toArray, List.set_cons_zero, List.set_cons_succ])
 go_cut [16] (fun v16 wc => ∃ (kq : Nat) (x16_2 : Bool), v16 = .bool x16_2 ∧ Aside0 (truantref09_Next.j0 kq a1 y330 x16_2 a0_0 l0_1 a0_2 l0_3 l0_4 l0_5 = some r) ∧ Aside0 (kq ≤ k) ∧ Aside0 (Kd.R (Kd.int .i64) 3 wc w.heap.size (fun _ => True) v331 y330) ∧ Aside0 (wc.heap[gb329]? = some (.cells #[.string a0_0, (.slice A0_1 l0_1.length c0_1), .string a0_2, (.slice A0_3 l0_3.length c0_3), (.slice A0_4 l0_4.length c0_4), (.slice A0_5 l0_5.length c0_5)] 26 (0, 0))) ∧ Aside0 (Below w.heap.size w wc))
 case first =>
  have H := HC3.out
  clear HC3
  by_cases c7 : a1 < 0
  ·rw [if_pos c7] at H
   have c7b0 : decide (a1 < 0) = true := decide_eq_true c7
   clear c7
   (first | rw [c7b0] | (simp only [i64_w, i32_w]; rw [c7b0]) | skip)
   have H' := Aside0.mk H
   clear H
   go_wp2
   go_meet
   case rel => exact ⟨_, (true), (by first | rfl | (simp; done) | (simp [*]; done)), H', ⟨by first | omega | exact Nat.le_refl _⟩, ⟨by (with_reducible repeat (first | apply Kd.R_alloc | apply Kd.R_drewN | apply Kd.R_drew)); exact HO332.out⟩, ⟨by (with_reducible repeat (first | refine blk_drewN ?_ _ | refine blk_drew ?_ | refine blk_alloc ?_ _)); exact BK329.out⟩, ⟨by repeat (first | (with_reducible first | exact HB.out | apply below_alloc | apply pw_below_drewN | apply below_drew1 | refine below_set ?_ GE329.out) | exact HB.out)⟩⟩
  ·rw [if_neg c7] at H
   have c7b0 : decide (a1 < 0) = false := decide_eq_false c7
   clear c7
   (first | rw [c7b0] | (simp only [i64_w, i32_w]; rw [c7b0]) | skip)
   have H' := Aside0.mk H
   clear H
   have hcz8_0 : w5.cell? ⟨gb329, 0, none⟩ = some (.string a0_0) := (blk_cell BK329.out 0).trans rfl
   have hcz8_1 : w5.cell? ⟨gb329, 1, none⟩ = some (.slice A0_1 l0_1.length c0_1) := (blk_cell BK329.out 1).trans rfl
   have hcz8_2 : w5.cell? ⟨gb329, 2, none⟩ = some (.string a0_2) := (blk_cell BK329.out 2).trans rfl
   have hcz8_3 : w5.cell? ⟨gb329, 3, none⟩ = some (.slice A0_3 l0_3.length c0_3) := (blk_cell BK329.out 3).trans rfl
   have hcz8_4 : w5.cell? ⟨gb329, 4, none⟩ = some (.slice A0_4 l0_4.length c0_4) := (blk_cell BK329.out 4).trans rfl
   have hcz8_5 : w5.cell? ⟨gb329, 5, none⟩ = some (.slice A0_5 l0_5.length c0_5) := (blk_cell BK329.out 5).trans rfl
   have hfz8_0 := blk_frozen BK329.out 0
   have hfz8_1 := blk_frozen BK329.out 1
   have hfz8_2 := blk_frozen BK329.out 2
   have hfz8_3 := blk_frozen BK329.out 3
   have hfz8_4 := blk_frozen BK329.out 4
   have hfz8_5 := blk_frozen BK329.out 5
   go_wp2
   go_meet
   case rel => exact ⟨_, (decide (a1 ≥ (l0_5.length : Int))), (by first | rfl | (simp; done) | (simp [*]; done)), H', ⟨by first | omega | exact Nat.le_refl _⟩, ⟨by (with_reducible repeat (first | apply Kd.R_alloc | apply Kd.R_drewN | apply Kd.R_drew)); exact HO332.out⟩, ⟨by (with_reducible repeat (first | refine blk_drewN ?_ _ | refine blk_drew ?_ | refine blk_alloc ?_ _)); exact BK329.out⟩, ⟨by repeat (first | (with_reducible first | exact HB.out | apply below_alloc | apply pw_below_drewN | apply below_drew1 | refine below_set ?_ GE329.out) | exact HB.out)⟩⟩
 case rest =>
  clear HC3
  try clear c2
  try clear p2
  try clear c7
  try clear c7b0
  try clear hcz8_0
  try clear hcz8_1
  try clear hcz8_2
  try clear hcz8_3
  try clear hcz8_4
  try clear hcz8_5
  try clear hfz8_0
  try clear hfz8_1
  try clear hfz8_2
  try clear hfz8_3
  try clear hfz8_4
  try clear hfz8_5
  obtain ⟨kq, x16_2, rfl, HA, HJ2, HO_5, BK329, HB⟩ := hcut
  cases kq with
  | zero => exact absurd HA.out (by simp [truantref09_Next.j0])
  | succ kj2 =>
   have H := HA.out
   clear HA
   simp only [truantref09_Next.j0] at H
   by_cases c9 : x16_2 = true
   ·subst c9
    have H1 : (some y330) = some r := by rw [if_pos rfl] at H; exact H
    clear H
    have H := H1
    clear H1
    obtain rfl := Option.some.inj H
    go_wp2
    go_ret
    exact ⟨_, by first | rfl | (simp [errW_none, errW_some] <;> rfl) | (simp [*, errW_none, errW_some] <;> rfl), by (with_reducible repeat (first | apply Kd.R_alloc | apply Kd.R_drewN | apply Kd.R_drew)); exact HO_5.out, by repeat (first | (with_reducible first | exact HB.out | apply below_alloc | apply pw_below_drewN | apply below_drew1 | refine below_set ?_ GE329.out) | exact HB.out)⟩
   ·replace c9 := Bool.eq_false_iff.mpr c9
    subst c9
    have H1 : (if 0 ≤ a1 then (if a1 < (l0_5.length : Int) then (if ((rd_T40 l0_5 a1).f1) = 1 then (if ((rd_T40 l0_5 a1).f3.f0) ≥ 0 then (truantref09_Next.j1 kj2 y330 (decide (((rd_T40 l0_5 a1).f3.f0) < (l0_5.length : Int))) a0_0 l0_1 a0_2 l0_3 l0_4 l0_5 ((rd_T40 l0_5 a1).f0) ((rd_T40 l0_5 a1).f1) ((rd_T40 l0_5 a1).f2) ((rd_T40 l0_5 a1).f3.f0) ((rd_T40 l0_5 a1).f3.f1)) else (truantref09_Next.j1 kj2 y330 false a0_0 l0_1 a0_2 l0_3 l0_4 l0_5 ((rd_T40 l0_5 a1).f0) ((rd_T40 l0_5 a1).f1) ((rd_T40 l0_5 a1).f2) ((rd_T40 l0_5 a1).f3.f0) ((rd_T40 l0_5 a1).f3.f1))) else (if ((rd_T40 l0_5 a1).f1) = 2 then (if ((rd_T40 l0_5 a1).f3.f0) ≥ 0 then (truantref09_Next.j1 kj2 y330 (decide (((rd_T40 l0_5 a1).f3.f0) < (l0_5.length : Int))) a0_0 l0_1 a0_2 l0_3 l0_4 l0_5 ((rd_T40 l0_5 a1).f0) ((rd_T40 l0_5 a1).f1) ((rd_T40 l0_5 a1).f2) ((rd_T40 l0_5 a1).f3.f0) ((rd_T40 l0_5 a1).f3.f1)) else (truantref09_Next.j1 kj2 y330 false a0_0 l0_1 a0_2 l0_3 l0_4 l0_5 ((rd_T40 l0_5 a1).f0) ((rd_T40 l0_5 a1).f1) ((rd_T40 l0_5 a1).f2) ((rd_T40 l0_5 a1).f3.f0) ((rd_T40 l0_5 a1).f3.f1))) else (truantref09_Next.j1 kj2 y330 false a0_0 l0_1 a0_2 l0_3 l0_4 l0_5 ((rd_T40 l0_5 a1).f0) ((rd_T40 l0_5 a1).f1) ((rd_T40 l0_5 a1).f2) ((rd_T40 l0_5 a1).f3.f0) ((rd_T40 l0_5 a1).f3.f1)))) else (none)) else (none)) = some r := by rw [if_neg (show ¬ (false = true) by decide)] at H; exact H
    clear H
    have H := H1
    clear H1
    by_cases c10 : 0 ≤ a1
    ·rw [if_pos c10] at H
     have c10b0 : decide (0 ≤ a1) = true := decide_eq_true c10
     clear c10
     by_cases c11 : a1 < (l0_5.length : Int)
     ·rw [if_pos c11] at H
      have c11b0 : decide (a1 < (l0_5.length : Int)) = true := decide_eq_true c11
      clear c11
      have HC12 := Aside0.mk H
      clear H
      have hcz13_0 : wc.cell? ⟨gb329, 0, none⟩ = some (.string a0_0) := (blk_cell BK329.out 0).trans rfl
      have hcz13_1 : wc.cell? ⟨gb329, 1, none⟩ = some (.slice A0_1 l0_1.length c0_1) := (blk_cell BK329.out 1).trans rfl
      have hcz13_2 : wc.cell? ⟨gb329, 2, none⟩ = some (.string a0_2) := (blk_cell BK329.out 2).trans rfl
      have hcz13_3 : wc.cell? ⟨gb329, 3, none⟩ = some (.slice A0_3 l0_3.length c0_3) := (blk_cell BK329.out 3).trans rfl
      have hcz13_4 : wc.cell? ⟨gb329, 4, none⟩ = some (.slice A0_4 l0_4.length c0_4) := (blk_cell BK329.out 4).trans rfl
      have hcz13_5 : wc.cell? ⟨gb329, 5, none⟩ = some (.slice A0_5 l0_5.length c0_5) := (blk_cell BK329.out 5).trans rfl
      have hfz13_0 := blk_frozen BK329.out 0
      have hfz13_1 := blk_frozen BK329.out 1
      have hfz13_2 := blk_frozen BK329.out 2
      have hfz13_3 := blk_frozen BK329.out 3
      have hfz13_4 := blk_frozen BK329.out 4
      have hfz13_5 := blk_frozen BK329.out 5
      have p333 : 0 ≤ (a1 : Int) := of_decide_eq_true (by first | (with_reducible assumption) | assumption)
      have q333 : a1 < (l0_5.length : Int) := of_decide_eq_true (by first | (with_reducible assumption) | assumption)
      obtain ⟨ad333, A333_0, c333_0, e333, hx333_0, hx333_1, hx333_2, hx333_3, hx333_4, hl333_0, hi333_0⟩ := at_T40 HR0_5.out a1 p333 q333
      cases e333
      replace hx333_0 := (HB.out.cell (World.block_lt_of_cell? w _ hx333_0)).trans hx333_0
      replace hx333_1 := (HB.out.cell (World.block_lt_of_cell? w _ hx333_1)).trans hx333_1
      replace hx333_2 := (HB.out.cell (World.block_lt_of_cell? w _ hx333_2)).trans hx333_2
      replace hx333_3 := (HB.out.cell (World.block_lt_of_cell? w _ hx333_3)).trans hx333_3
      replace hx333_4 := (HB.out.cell (World.block_lt_of_cell? w _ hx333_4)).trans hx333_4
      have HR333_0 := Aside0.mk hi333_0
      have HC333_0 := Aside0.mk hl333_0
      clear hi333_0 hl333_0
      replace p333 := eq_true p333
      replace q333 := eq_true q333
      go_upto_region 5 with (first | ((with_reducible refine gate_dst (N := 6) rfl ?_); (try (refine gate_guard (by rfl) ?_; dsimp only)); refine box_event ?hg (N := 6) ?hd (cs := #[.slice none 0 0, .int .i64 0, .int .i64 0, .int .i64 0, .int .i64 0]) (t := 40) ?hr ?_; (case hd => rfl); (case hg => rfl); (case hr => first | (go_simp; done) | (go_simp; rfl)); intro gb334 hg w14 hbox hb; have n0_ := Aside0.mk (Kd.R_below (by (with_reducible repeat (first | apply Kd.R_alloc | apply Kd.R_drewN | apply Kd.R_drew)); exact HO_5.out) hb); have n1_ := Aside0.mk (blk_below (g := gb329) (o := .cells #[.string a0_0, .slice A0_1 l0_1.length c0_1, .string a0_2, .slice A0_3 l0_3.length c0_3, .slice A0_4 l0_4.length c0_4, .slice (some ad333) l0_5.length c0_5] 26 (0, 0)) (by (with_reducible repeat (first | refine blk_drewN ?_ _ | refine blk_drew ?_ | refine blk_alloc ?_ _)); exact BK329.out) hb); have n2_ := Aside0.mk (below_step (by repeat (first | (with_reducible first | exact HB.out | apply below_alloc | apply pw_below_drewN | apply below_drew1 | refine below_set ?_ GE329.out) | exact HB.out)) hb); have n3_ := Aside0.mk (hbox); have n4_ := Aside0.mk ((by rw [hg]; exact (below_size (by repeat (first | (with_reducible first | exact HB.out | apply below_alloc | apply pw_below_drewN | apply below_drew1 | refine below_set ?_ GE329.out) | exact HB.out))) : w.heap.size ≤ gb334)); have n5_ := Aside0.mk ((by rw [hg]; exact (below_size (by repeat (first | (with_reducible first | exact HB.out | apply below_alloc | apply pw_below_drewN | apply below_drew1 | refine below_set ?_ GE329.out) | exact HB.out))) : w.heap.size ≤ gb334)); have n6_ := Aside0.mk ((by rw [hg]; exact Nat.ne_of_lt (blk_lt (g := gb329) (o := .cells #[.string a0_0, .slice A0_1 l0_1.length c0_1, .string a0_2, .slice A0_3 l0_3.length c0_3, .slice A0_4 l0_4.length c0_4, .slice (some ad333) l0_5.length c0_5] 26 (0, 0)) (by (with_reducible repeat (first | refine blk_drewN ?_ _ | refine blk_drew ?_ | refine blk_alloc ?_ _)); exact BK329.out)) : gb329 ≠ gb334)); have n7_ := Aside0.mk ((by rw [hg]; exact Nat.ne_of_gt (blk_lt (g := gb329) (o := .cells #[.string a0_0, .slice A0_1 l0_1.length c0_1, .string a0_2, .slice A0_3 l0_3.length c0_3, .slice A0_4 l0_4.length c0_4, .slice (some ad333) l0_5.length c0_5] 26 (0, 0)) (by (with_reducible repeat (first | refine blk_drewN ?_ _ | refine blk_drew ?_ | refine blk_alloc ?_ _)); exact BK329.out)) : gb334 ≠ gb329)); clear HO_5; clear BK329; clear HB; have HO_5 := n0_; have BK329 := n1_; have HB := n2_; have BK334 := n3_; have GW334 := n4_; have GE334 := n5_; have NB329_334 := n6_; have NB334_329 := n7_; clear n0_ n1_ n2_ n3_ n4_ n5_ n6_ n7_; clear hb hbox hg; have hnb15 := NB334_329.out; have hnc15 := NB329_334.out; have hcz16_0 : w14.cell? ⟨gb334, 0, none⟩ = some (.slice none 0 0) := (blk_cell BK334.out 0).trans rfl; have hcz16_1 : w14.cell? ⟨gb334, 1, none⟩ = some (.int .i64 0) := (blk_cell BK334.out 1).trans rfl; have hcz16_2 : w14.cell? ⟨gb334, 2, none⟩ = some (.int .i64 0) := (blk_cell BK334.out 2).trans rfl; have hcz16_3 : w14.cell? ⟨gb334, 3, none⟩ = some (.int .i64 0) := (blk_cell BK334.out 3).trans rfl; have hcz16_4 : w14.cell? ⟨gb334, 4, none⟩ = some (.int .i64 0) := (blk_cell BK334.out 4).trans rfl; have hfz16_0 := blk_frozen BK334.out 0; have hfz16_1 := blk_frozen BK334.out 1; have hfz16_2 := blk_frozen BK334.out 2; have hfz16_3 := blk_frozen BK334.out 3; have hfz16_4 := blk_frozen BK334.out 4))
      (try simp only [Act.put, List.setIfInBounds_toArray, List.set_cons_zero, List.set_cons_succ])
      go_cut [45] (fun v45 wc => ∃ (kq : Nat) (x45_11 : Bool), v45 = .bool x45_11 ∧ Aside0 (truantref09_Next.j1 kq y330 x45_11 a0_0 l0_1 a0_2 l0_3 l0_4 l0_5 ((rd_T40 l0_5 a1).f0) ((rd_T40 l0_5 a1).f1) ((rd_T40 l0_5 a1).f2) ((rd_T40 l0_5 a1).f3.f0) ((rd_T40 l0_5 a1).f3.f1) = some r) ∧ Aside0 (kq ≤ kj2) ∧ Aside0 (Kd.R (Kd.int .i64) 3 wc w.heap.size (fun _ => True) v331 y330) ∧ Aside0 (wc.heap[gb329]? = some (.cells #[.string a0_0, (.slice A0_1 l0_1.length c0_1), .string a0_2, (.slice A0_3 l0_3.length c0_3), (.slice A0_4 l0_4.length c0_4), (.slice (some ad333) l0_5.length c0_5)] 26 (0, 0))) ∧ Aside0 (wc.heap[gb334]? = some (.cells #[(.slice A333_0 ((rd_T40 l0_5 a1).f0).length c333_0), .int .i64 ((rd_T40 l0_5 a1).f1), .int .i64 ((rd_T40 l0_5 a1).f2), .int .i64 ((rd_T40 l0_5 a1).f3.f0), .int .i64 ((rd_T40 l0_5 a1).f3.f1)] 40 (0, 0))) ∧ Aside0 (Below w.heap.size w wc))
      case first =>
       have H := HC12.out
       clear HC12
       by_cases c17 : ((rd_T40 l0_5 a1).f1) = 1
       ·rw [if_pos c17] at H
        have c17b0 : (((rd_T40 l0_5 a1).f1) == 1) = true := beq_iff_eq.mpr c17
        have c17b1 : (((rd_T40 l0_5 a1).f1) != 1) = false := bne_eq_false_iff_eq.mpr c17
        clear c17
        (first | rw [c17b0] | (simp only [i64_w, i32_w]; rw [c17b0]) | skip)
        by_cases c18 : ((rd_T40 l0_5 a1).f3.f0) ≥ 0
        ·rw [if_pos c18] at H
         have c18b0 : decide (0 ≤ ((rd_T40 l0_5 a1).f3.f0)) = true := decide_eq_true c18
         clear c18
         have H' := Aside0.mk H
         clear H
         have hnb19 := NB334_329.out
         have hnc19 := NB329_334.out
         have hcz20_0 : w14.cell? ⟨gb334, 0, none⟩ = some (.slice none 0 0) := (blk_cell BK334.out 0).trans rfl
         have hcz20_1 : w14.cell? ⟨gb334, 1, none⟩ = some (.int .i64 0) := (blk_cell BK334.out 1).trans rfl
         have hcz20_2 : w14.cell? ⟨gb334, 2, none⟩ = some (.int .i64 0) := (blk_cell BK334.out 2).trans rfl
         have hcz20_3 : w14.cell? ⟨gb334, 3, none⟩ = some (.int .i64 0) := (blk_cell BK334.out 3).trans rfl
         have hcz20_4 : w14.cell? ⟨gb334, 4, none⟩ = some (.int .i64 0) := (blk_cell BK334.out 4).trans rfl
         have hfz20_0 := blk_frozen BK334.out 0
         have hfz20_1 := blk_frozen BK334.out 1
         have hfz20_2 := blk_frozen BK334.out 2
         have hfz20_3 := blk_frozen BK334.out 3
         have hfz20_4 := blk_frozen BK334.out 4
         have hcz21_0 : w14.cell? ⟨gb329, 0, none⟩ = some (.string a0_0) := (blk_cell BK329.out 0).trans rfl
         have hcz21_1 : w14.cell? ⟨gb329, 1, none⟩ = some (.slice A0_1 l0_1.length c0_1) := (blk_cell BK329.out 1).trans rfl
         have hcz21_2 : w14.cell? ⟨gb329, 2, none⟩ = some (.string a0_2) := (blk_cell BK329.out 2).trans rfl
         have hcz21_3 : w14.cell? ⟨gb329, 3, none⟩ = some (.slice A0_3 l0_3.length c0_3) := (blk_cell BK329.out 3).trans rfl
         have hcz21_4 : w14.cell? ⟨gb329, 4, none⟩ = some (.slice A0_4 l0_4.length c0_4) := (blk_cell BK329.out 4).trans rfl
         have hcz21_5 : w14.cell? ⟨gb329, 5, none⟩ = some (.slice (some ad333) l0_5.length c0_5) := (blk_cell BK329.out 5).trans rfl
         have hfz21_0 := blk_frozen BK329.out 0
         have hfz21_1 := blk_frozen BK329.out 1
         have hfz21_2 := blk_frozen BK329.out 2
         have hfz21_3 := blk_frozen BK329.out 3
         have hfz21_4 := blk_frozen BK329.out 4
         have hfz21_5 := blk_frozen BK329.out 5
         go_wp2
         go_meet
         case rel => exact ⟨_, (decide (((rd_T40 l0_5 a1).f3.f0) < (l0_5.length : Int))), (by first | rfl | (simp; done) | (simp [*]; done)), H', ⟨by have := HJ2.out; first | omega | exact Nat.le_refl _⟩, ⟨by (with_reducible repeat (first | apply Kd.R_alloc | apply Kd.R_drewN | apply Kd.R_drew)); exact Kd.R_mono (Kd.R_far (p := ⟨gb334, 4, none⟩) (Kd.R_far (p := ⟨gb334, 3, none⟩) (Kd.R_far (p := ⟨gb334, 2, none⟩) (Kd.R_far (p := ⟨gb334, 1, none⟩) (Kd.R_far (p := ⟨gb334, 0, none⟩) (Kd.R_types HO_5.out BK334.out (by decide)) (fun _ hk => hk.2) (.slice A333_0 ((rd_T40 l0_5 a1).f0).length c333_0)) (fun _ hk => hk.2) (.int .i64 ((rd_T40 l0_5 a1).f1))) (fun _ hk => hk.2) (.int .i64 ((rd_T40 l0_5 a1).f2))) (fun _ hk => hk.2) (.int .i64 ((rd_T40 l0_5 a1).f3.f0))) (fun _ hk => hk.2) (.int .i64 ((rd_T40 l0_5 a1).f3.f1))) (fun _ hk => trivial)⟩, ⟨by (with_reducible repeat (first | refine blk_drewN ?_ _ | refine blk_drew ?_ | refine blk_alloc ?_ _)); refine blk_far ?_ NB329_334.out _; (with_reducible repeat (first | refine blk_drewN ?_ _ | refine blk_drew ?_ | refine blk_alloc ?_ _)); refine blk_far ?_ NB329_334.out _; (with_reducible repeat (first | refine blk_drewN ?_ _ | refine blk_drew ?_ | refine blk_alloc ?_ _)); refine blk_far ?_ NB329_334.out _; (with_reducible repeat (first | refine blk_drewN ?_ _ | refine blk_drew ?_ | refine blk_alloc ?_ _)); refine blk_far ?_ NB329_334.out _; (with_reducible repeat (first | refine blk_drewN ?_ _ | refine blk_drew ?_ | refine blk_alloc ?_ _)); refine blk_far ?_ NB329_334.out _; (with_reducible repeat (first | refine blk_drewN ?_ _ | refine blk_drew ?_ | refine blk_alloc ?_ _)); exact BK329.out⟩, ⟨by (with_reducible repeat (first | refine blk_drewN ?_ _ | refine blk_drew ?_ | refine blk_alloc ?_ _)); refine blk_put (cs := #[.slice A333_0 ((rd_T40 l0_5 a1).f0).length c333_0, .int .i64 ((rd_T40 l0_5 a1).f1), .int .i64 ((rd_T40 l0_5 a1).f2), .int .i64 ((rd_T40 l0_5 a1).f3.f0), .int .i64 0]) ?_ 4 _ rfl; (with_reducible repeat (first | refine blk_drewN ?_ _ | refine blk_drew ?_ | refine blk_alloc ?_ _)); refine blk_put (cs := #[.slice A333_0 ((rd_T40 l0_5 a1).f0).length c333_0, .int .i64 ((rd_T40 l0_5 a1).f1), .int .i64 ((rd_T40 l0_5 a1).f2), .int .i64 0, .int .i64 0]) ?_ 3 _ rfl; (with_reducible repeat (first | refine blk_drewN ?_ _ | refine blk_drew ?_ | refine blk_alloc ?_ _)); refine blk_put (cs := #[.slice A333_0 ((rd_T40 l0_5 a1).f0).length c333_0, .int .i64 ((rd_T40 l0_5 a1).f1), .int .i64 0, .int .i64 0, .int .i64 0]) ?_ 2 _ rfl; (with_reducible repeat (first | refine blk_drewN ?_ _ | refine blk_drew ?_ | refine blk_alloc ?_ _)); refine blk_put (cs := #[.slice A333_0 ((rd_T40 l0_5 a1).f0).length c333_0, .int .i64 0, .int .i64 0, .int .i64 0, .int .i64 0]) ?_ 1 _ rfl; (with_reducible repeat (first | refine blk_drewN ?_ _ | refine blk_drew ?_ | refine blk_alloc ?_ _)); refine blk_put (cs := #[.slice none 0 0, .int .i64 0, .int .i64 0, .int .i64 0, .int .i64 0]) ?_ 0 _ rfl; (with_reducible repeat (first | refine blk_drewN ?_ _ | refine blk_drew ?_ | refine blk_alloc ?_ _)); exact BK334.out⟩, ⟨by repeat (first | (with_reducible first | exact HB.out | apply below_alloc | apply pw_below_drewN | apply below_drew1 | refine below_set ?_ GE329.out | refine below_set ?_ GE334.out) | exact HB.out)⟩⟩
        ·rw [if_neg c18] at H
         have c18b0 : decide (0 ≤ ((rd_T40 l0_5 a1).f3.f0)) = false := decide_eq_false c18
         clear c18
         have H' := Aside0.mk H
         clear H
         have hnb22 := NB334_329.out
         have hnc22 := NB329_334.out
         have hcz23_0 : w14.cell? ⟨gb334, 0, none⟩ = some (.slice none 0 0) := (blk_cell BK334.out 0).trans rfl
         have hcz23_1 : w14.cell? ⟨gb334, 1, none⟩ = some (.int .i64 0) := (blk_cell BK334.out 1).trans rfl
         have hcz23_2 : w14.cell? ⟨gb334, 2, none⟩ = some (.int .i64 0) := (blk_cell BK334.out 2).trans rfl
         have hcz23_3 : w14.cell? ⟨gb334, 3, none⟩ = some (.int .i64 0) := (blk_cell BK334.out 3).trans rfl
         have hcz23_4 : w14.cell? ⟨gb334, 4, none⟩ = some (.int .i64 0) := (blk_cell BK334.out 4).trans rfl
         have hfz23_0 := blk_frozen BK334.out 0
         have hfz23_1 := blk_frozen BK334.out 1
         have hfz23_2 := blk_frozen BK334.out 2
         have hfz23_3 := blk_frozen BK334.out 3
         have hfz23_4 := blk_frozen BK334.out 4
         go_wp2
         go_meet
         case rel => exact ⟨_, (false), (by first | rfl | (simp; done) | (simp [*]; done)), H', ⟨by have := HJ2.out; first | omega | exact Nat.le_refl _⟩, ⟨by (with_reducible repeat (first | apply Kd.R_alloc | apply Kd.R_drewN | apply Kd.R_drew)); exact Kd.R_mono (Kd.R_far (p := ⟨gb334, 4, none⟩) (Kd.R_far (p := ⟨gb334, 3, none⟩) (Kd.R_far (p := ⟨gb334, 2, none⟩) (Kd.R_far (p := ⟨gb334, 1, none⟩) (Kd.R_far (p := ⟨gb334, 0, none⟩) (Kd.R_types HO_5.out BK334.out (by decide)) (fun _ hk => hk.2) (.slice A333_0 ((rd_T40 l0_5 a1).f0).length c333_0)) (fun _ hk => hk.2) (.int .i64 ((rd_T40 l0_5 a1).f1))) (fun _ hk => hk.2) (.int .i64 ((rd_T40 l0_5 a1).f2))) (fun _ hk => hk.2) (.int .i64 ((rd_T40 l0_5 a1).f3.f0))) (fun _ hk => hk.2) (.int .i64 ((rd_T40 l0_5 a1).f3.f1))) (fun _ hk => trivial)⟩, ⟨by (with_reducible repeat (first | refine blk_drewN ?_ _ | refine blk_drew ?_ | refine blk_alloc ?_ _)); refine blk_far ?_ NB329_334.out _; (with_reducible repeat (first | refine blk_drewN ?_ _ | refine blk_drew ?_ | refine blk_alloc ?_ _)); refine blk_far ?_ NB329_334.out _; (with_reducible repeat (first | refine blk_drewN ?_ _ | refine blk_drew ?_ | refine blk_alloc ?_ _)); refine blk_far ?_ NB329_334.out _; (with_reducible repeat (first | refine blk_drewN ?_ _ | refine blk_drew ?_ | refine blk_alloc ?_ _)); refine blk_far ?_ NB329_334.out _; (with_reducible repeat (first | refine blk_drewN ?_ _ | refine blk_drew ?_ | refine blk_alloc ?_ _)); refine blk_far ?_ NB329_334.out _; (with_reducible repeat (first | refine blk_drewN ?_ _ | refine blk_drew ?_ | refine blk_alloc ?_ _)); exact BK329.out⟩, ⟨by (with_reducible repeat (first | refine blk_drewN ?_ _ | refine blk_drew ?_ | refine blk_alloc ?_ _)); refine blk_put (cs := #[.slice A333_0 ((rd_T40 l0_5 a1).f0).length c333_0, .int .i64 ((rd_T40 l0_5 a1).f1), .int .i64 ((rd_T40 l0_5 a1).f2), .int .i64 ((rd_T40 l0_5 a1).f3.f0), .int .i64 0]) ?_ 4 _ rfl; (with_reducible repeat (first | refine blk_drewN ?_ _ | refine blk_drew ?_ | refine blk_alloc ?_ _)); refine blk_put (cs := #[.slice A333_0 ((rd_T40 l0_5 a1).f0).length c333_0, .int .i64 ((rd_T40 l0_5 a1).f1), .int .i64 ((rd_T40 l0_5 a1).f2), .int .i64 0, .int .i64 0]) ?_ 3 _ rfl; (with_reducible repeat (first | refine blk_drewN ?_ _ | refine blk_drew ?_ | refine blk_alloc ?_ _)); refine blk_put (cs := #[.slice A333_0 ((rd_T40 l0_5 a1).f0).length c333_0, .int .i64 ((rd_T40 l0_5 a1).f1), .int .i64 0, .int .i64 0, .int .i64 0]) ?_ 2 _ rfl; (with_reducible repeat (first | refine blk_drewN ?_ _ | refine blk_drew ?_ | refine blk_alloc ?_ _)); refine blk_put (cs := #[.slice A333_0 ((rd_T40 l0_5 a1).f0).length c333_0, .int .i64 0, .int .i64 0, .int .i64 0, .int .i64 0]) ?_ 1 _ rfl; (with_reducible repeat (first | refine blk_drewN ?_ _ | refine blk_drew ?_ | refine blk_alloc ?_ _)); refine blk_put (cs := #[.slice none 0 0, .int .i64 0, .int .i64 0, .int .i64 0, .int .i64 0]) ?_ 0 _ rfl; (with_reducible repeat (first | refine blk_drewN ?_ _ | refine blk_drew ?_ | refine blk_alloc ?_ _)); exact BK334.out⟩, ⟨by repeat (first | (with_reducible first | exact HB.out | apply below_alloc | apply pw_below_drewN | apply below_drew1 | refine below_set ?_ GE329.out | refine below_set ?_ GE334.out) | exact HB.out)⟩⟩
       ·rw [if_neg c17] at H
        have c17b0 : (((rd_T40 l0_5 a1).f1) == 1) = false := beq_eq_false_iff_ne.mpr c17
        have c17b1 : (((rd_T40 l0_5 a1).f1) != 1) = true := bne_iff_ne.mpr c17
        (first | rw [c17b0] | (simp only [i64_w, i32_w]; rw [c17b0]) | skip)
        by_cases c24 : ((rd_T40 l0_5 a1).f1) = 2
        ·rw [if_pos c24] at H
         have c24b0 : (((rd_T40 l0_5 a1).f1) == 2) = true := beq_iff_eq.mpr c24
         have c24b1 : (((rd_T40 l0_5 a1).f1) != 2) = false := bne_eq_false_iff_eq.mpr c24
         clear c24
         by_cases c25 : ((rd_T40 l0_5 a1).f3.f0) ≥ 0
         ·rw [if_pos c25] at H
          have c25b0 : decide (0 ≤ ((rd_T40 l0_5 a1).f3.f0)) = true := decide_eq_true c25
          clear c25
          have H' := Aside0.mk H
          clear H
          have hnb26 := NB334_329.out
          have hnc26 := NB329_334.out
          have hcz27_0 : w14.cell? ⟨gb334, 0, none⟩ = some (.slice none 0 0) := (blk_cell BK334.out 0).trans rfl
          have hcz27_1 : w14.cell? ⟨gb334, 1, none⟩ = some (.int .i64 0) := (blk_cell BK334.out 1).trans rfl
          have hcz27_2 : w14.cell? ⟨gb334, 2, none⟩ = some (.int .i64 0) := (blk_cell BK334.out 2).trans rfl
          have hcz27_3 : w14.cell? ⟨gb334, 3, none⟩ = some (.int .i64 0) := (blk_cell BK334.out 3).trans rfl
          have hcz27_4 : w14.cell? ⟨gb334, 4, none⟩ = some (.int .i64 0) := (blk_cell BK334.out 4).trans rfl
          have hfz27_0 := blk_frozen BK334.out 0
          have hfz27_1 := blk_frozen BK334.out 1
          have hfz27_2 := blk_frozen BK334.out 2
          have hfz27_3 := blk_frozen BK334.out 3
          have hfz27_4 := blk_frozen BK334.out 4
          have hcz28_0 : w14.cell? ⟨gb329, 0, none⟩ = some (.string a0_0) := (blk_cell BK329.out 0).trans rfl
          have hcz28_1 : w14.cell? ⟨gb329, 1, none⟩ = some (.slice A0_1 l0_1.length c0_1) := (blk_cell BK329.out 1).trans rfl
          have hcz28_2 : w14.cell? ⟨gb329, 2, none⟩ = some (.string a0_2) := (blk_cell BK329.out 2).trans rfl
          have hcz28_3 : w14.cell? ⟨gb329, 3, none⟩ = some (.slice A0_3 l0_3.length c0_3) := (blk_cell BK329.out 3).trans rfl
          have hcz28_4 : w14.cell? ⟨gb329, 4, none⟩ = some (.slice A0_4 l0_4.length c0_4) := (blk_cell BK329.out 4).trans rfl
          have hcz28_5 : w14.cell? ⟨gb329, 5, none⟩ = some (.slice (some ad333) l0_5.length c0_5) := (blk_cell BK329.out 5).trans rfl
          have hfz28_0 := blk_frozen BK329.out 0
          have hfz28_1 := blk_frozen BK329.out 1
          have hfz28_2 := blk_frozen BK329.out 2
          have hfz28_3 := blk_frozen BK329.out 3
          have hfz28_4 := blk_frozen BK329.out 4
          have hfz28_5 := blk_frozen BK329.out 5
          go_wp2
          go_meet
          case rel => exact ⟨_, (decide (((rd_T40 l0_5 a1).f3.f0) < (l0_5.length : Int))), (by first | rfl | (simp; done) | (simp [*]; done)), H', ⟨by have := HJ2.out; first | omega | exact Nat.le_refl _⟩, ⟨by (with_reducible repeat (first | apply Kd.R_alloc | apply Kd.R_drewN | apply Kd.R_drew)); exact Kd.R_mono (Kd.R_far (p := ⟨gb334, 4, none⟩) (Kd.R_far (p := ⟨gb334, 3, none⟩) (Kd.R_far (p := ⟨gb334, 2, none⟩) (Kd.R_far (p := ⟨gb334, 1, none⟩) (Kd.R_far (p := ⟨gb334, 0, none⟩) (Kd.R_types HO_5.out BK334.out (by decide)) (fun _ hk => hk.2) (.slice A333_0 ((rd_T40 l0_5 a1).f0).length c333_0)) (fun _ hk => hk.2) (.int .i64 ((rd_T40 l0_5 a1).f1))) (fun _ hk => hk.2) (.int .i64 ((rd_T40 l0_5 a1).f2))) (fun _ hk => hk.2) (.int .i64 ((rd_T40 l0_5 a1).f3.f0))) (fun _ hk => hk.2) (.int .i64 ((rd_T40 l0_5 a1).f3.f1))) (fun _ hk => trivial)⟩, ⟨by (with_reducible repeat (first | refine blk_drewN ?_ _ | refine blk_drew ?_ | refine blk_alloc ?_ _)); refine blk_far ?_ NB329_334.out _; (with_reducible repeat (first | refine blk_drewN ?_ _ | refine blk_drew ?_ | refine blk_alloc ?_ _)); refine blk_far ?_ NB329_334.out _; (with_reducible repeat (first | refine blk_drewN ?_ _ | refine blk_drew ?_ | refine blk_alloc ?_ _)); refine blk_far ?_ NB329_334.out _; (with_reducible repeat (first | refine blk_drewN ?_ _ | refine blk_drew ?_ | refine blk_alloc ?_ _)); refine blk_far ?_ NB329_334.out _; (with_reducible repeat (first | refine blk_drewN ?_ _ | refine blk_drew ?_ | refine blk_alloc ?_ _)); refine blk_far ?_ NB329_334.out _; (with_reducible repeat (first | refine blk_drewN ?_ _ | refine blk_drew ?_ | refine blk_alloc ?_ _)); exact BK329.out⟩, ⟨by (with_reducible repeat (first | refine blk_drewN ?_ _ | refine blk_drew ?_ | refine blk_alloc ?_ _)); refine blk_put (cs := #[.slice A333_0 ((rd_T40 l0_5 a1).f0).length c333_0, .int .i64 ((rd_T40 l0_5 a1).f1), .int .i64 ((rd_T40 l0_5 a1).f2), .int .i64 ((rd_T40 l0_5 a1).f3.f0), .int .i64 0]) ?_ 4 _ rfl; (with_reducible repeat (first | refine blk_drewN ?_ _ | refine blk_drew ?_ | refine blk_alloc ?_ _)); refine blk_put (cs := #[.slice A333_0 ((rd_T40 l0_5 a1).f0).length c333_0, .int .i64 ((rd_T40 l0_5 a1).f1), .int .i64 ((rd_T40 l0_5 a1).f2), .int .i64 0, .int .i64 0]) ?_ 3 _ rfl; (with_reducible repeat (first | refine blk_drewN ?_ _ | refine blk_drew ?_ | refine blk_alloc ?_ _)); refine blk_put (cs := #[.slice A333_0 ((rd_T40 l0_5 a1).f0).length c333_0, .int .i64 ((rd_T40 l0_5 a1).f1), .int .i64 0, .int .i64 0, .int .i64 0]) ?_ 2 _ rfl; (with_reducible repeat (first | refine blk_drewN ?_ _ | refine blk_drew ?_ | refine blk_alloc ?_ _)); refine blk_put (cs := #[.slice A333_0 ((rd_T40 l0_5 a1).f0).length c333_0, .int .i64 0, .int .i64 0, .int .i64 0, .int .i64 0]) ?_ 1 _ rfl; (with_reducible repeat (first | refine blk_drewN ?_ _ | refine blk_drew ?_ | refine blk_alloc ?_ _)); refine blk_put (cs := #[.slice none 0 0, .int .i64 0, .int .i64 0, .int .i64 0, .int .i64 0]) ?_ 0 _ rfl; (with_reducible repeat (first | refine blk_drewN ?_ _ | refine blk_drew ?_ | refine blk_alloc ?_ _)); exact BK334.out⟩, ⟨by repeat (first | (with_reducible first | exact HB.out | apply below_alloc | apply pw_below_drewN | apply below_drew1 | refine below_set ?_ GE329.out | refine below_set ?_ GE334.out) | exact HB.out)⟩⟩
         ·rw [if_neg c25] at H
          have c25b0 : decide (0 ≤ ((rd_T40 l0_5 a1).f3.f0)) = false := decide_eq_false c25
          clear c25
          have H' := Aside0.mk H
          clear H
          have hnb29 := NB334_329.out
          have hnc29 := NB329_334.out
          have hcz30_0 : w14.cell? ⟨gb334, 0, none⟩ = some (.slice none 0 0) := (blk_cell BK334.out 0).trans rfl
          have hcz30_1 : w14.cell? ⟨gb334, 1, none⟩ = some (.int .i64 0) := (blk_cell BK334.out 1).trans rfl
          have hcz30_2 : w14.cell? ⟨gb334, 2, none⟩ = some (.int .i64 0) := (blk_cell BK334.out 2).trans rfl
          have hcz30_3 : w14.cell? ⟨gb334, 3, none⟩ = some (.int .i64 0) := (blk_cell BK334.out 3).trans rfl
          have hcz30_4 : w14.cell? ⟨gb334, 4, none⟩ = some (.int .i64 0) := (blk_cell BK334.out 4).trans rfl
          have hfz30_0 := blk_frozen BK334.out 0
          have hfz30_1 := blk_frozen BK334.out 1
          have hfz30_2 := blk_frozen BK334.out 2
          have hfz30_3 := blk_frozen BK334.out 3
          have hfz30_4 := blk_frozen BK334.out 4
          go_wp2
          go_meet
          case rel => exact ⟨_, (false), (by first | rfl | (simp; done) | (simp [*]; done)), H', ⟨by have := HJ2.out; first | omega | exact Nat.le_refl _⟩, ⟨by (with_reducible repeat (first | apply Kd.R_alloc | apply Kd.R_drewN | apply Kd.R_drew)); exact Kd.R_mono (Kd.R_far (p := ⟨gb334, 4, none⟩) (Kd.R_far (p := ⟨gb334, 3, none⟩) (Kd.R_far (p := ⟨gb334, 2, none⟩) (Kd.R_far (p := ⟨gb334, 1, none⟩) (Kd.R_far (p := ⟨gb334, 0, none⟩) (Kd.R_types HO_5.out BK334.out (by decide)) (fun _ hk => hk.2) (.slice A333_0 ((rd_T40 l0_5 a1).f0).length c333_0)) (fun _ hk => hk.2) (.int .i64 ((rd_T40 l0_5 a1).f1))) (fun _ hk => hk.2) (.int .i64 ((rd_T40 l0_5 a1).f2))) (fun _ hk => hk.2) (.int .i64 ((rd_T40 l0_5 a1).f3.f0))) (fun _ hk => hk.2) (.int .i64 ((rd_T40 l0_5 a1).f3.f1))) (fun _ hk => trivial)⟩, ⟨by (with_reducible repeat (first | refine blk_drewN ?_ _ | refine blk_drew ?_ | refine blk_alloc ?_ _)); refine blk_far ?_ NB329_334.out _; (with_reducible repeat (first | refine blk_drewN ?_ _ | refine blk_drew ?_ | refine blk_alloc ?_ _)); refine blk_far ?_ NB329_334.out _; (with_reducible repeat (first | refine blk_drewN ?_ _ | refine blk_drew ?_ | refine blk_alloc ?_ _)); refine blk_far ?_ NB329_334.out _; (with_reducible repeat (first | refine blk_drewN ?_ _ | refine blk_drew ?_ | refine blk_alloc ?_ _)); refine blk_far ?_ NB329_334.out _; (with_reducible repeat (first | refine blk_drewN ?_ _ | refine blk_drew ?_ | refine blk_alloc ?_ _)); refine blk_far ?_ NB329_334.out _; (with_reducible repeat (first | refine blk_drewN ?_ _ | refine blk_drew ?_ | refine blk_alloc ?_ _)); exact BK329.out⟩, ⟨by (with_reducible repeat (first | refine blk_drewN ?_ _ | refine blk_drew ?_ | refine blk_alloc ?_ _)); refine blk_put (cs := #[.slice A333_0 ((rd_T40 l0_5 a1).f0).length c333_0, .int .i64 ((rd_T40 l0_5 a1).f1), .int .i64 ((rd_T40 l0_5 a1).f2), .int .i64 ((rd_T40 l0_5 a1).f3.f0), .int .i64 0]) ?_ 4 _ rfl; (with_reducible repeat (first | refine blk_drewN ?_ _ | refine blk_drew ?_ | refine blk_alloc ?_ _)); refine blk_put (cs := #[.slice A333_0 ((rd_T40 l0_5 a1).f0).length c333_0, .int .i64 ((rd_T40 l0_5 a1).f1), .int .i64 ((rd_T40 l0_5 a1).f2), .int .i64 0, .int .i64 0]) ?_ 3 _ rfl; (with_reducible repeat (first | refine blk_drewN ?_ _ | refine blk_drew ?_ | refine blk_alloc ?_ _)); refine blk_put (cs := #[.slice A333_0 ((rd_T40 l0_5 a1).f0).length c333_0, .int .i64 ((rd_T40 l0_5 a1).f1), .int .i64 0, .int .i64 0, .int .i64 0]) ?_ 2 _ rfl; (with_reducible repeat (first | refine blk_drewN ?_ _ | refine blk_drew ?_ | refine blk_alloc ?_ _)); refine blk_put (cs := #[.slice A333_0 ((rd_T40 l0_5 a1).f0).length c333_0, .int .i64 0, .int .i64 0, .int .i64 0, .int .i64 0]) ?_ 1 _ rfl; (with_reducible repeat (first | refine blk_drewN ?_ _ | refine blk_drew ?_ | refine blk_alloc ?_ _)); refine blk_put (cs := #[.slice none 0 0, .int .i64 0, .int .i64 0, .int .i64 0, .int .i64 0]) ?_ 0 _ rfl; (with_reducible repeat (first | refine blk_drewN ?_ _ | refine blk_drew ?_ | refine blk_alloc ?_ _)); exact BK334.out⟩, ⟨by repeat (first | (with_reducible first | exact HB.out | apply below_alloc | apply pw_below_drewN | apply below_drew1 | refine below_set ?_ GE329.out | refine below_set ?_ GE334.out) | exact HB.out)⟩⟩
        ·rw [if_neg c24] at H
         have c24b0 : (((rd_T40 l0_5 a1).f1) == 2) = false := beq_eq_false_iff_ne.mpr c24
         have c24b1 : (((rd_T40 l0_5 a1).f1) != 2) = true := bne_iff_ne.mpr c24
         have H' := Aside0.mk H
         clear H
         have hnb31 := NB334_329.out
         have hnc31 := NB329_334.out
         have hcz32_0 : w14.cell? ⟨gb334, 0, none⟩ = some (.slice none 0 0) := (blk_cell BK334.out 0).trans rfl
         have hcz32_1 : w14.cell? ⟨gb334, 1, none⟩ = some (.int .i64 0) := (blk_cell BK334.out 1).trans rfl
         have hcz32_2 : w14.cell? ⟨gb334, 2, none⟩ = some (.int .i64 0) := (blk_cell BK334.out 2).trans rfl
         have hcz32_3 : w14.cell? ⟨gb334, 3, none⟩ = some (.int .i64 0) := (blk_cell BK334.out 3).trans rfl
         have hcz32_4 : w14.cell? ⟨gb334, 4, none⟩ = some (.int .i64 0) := (blk_cell BK334.out 4).trans rfl
         have hfz32_0 := blk_frozen BK334.out 0
         have hfz32_1 := blk_frozen BK334.out 1
         have hfz32_2 := blk_frozen BK334.out 2
         have hfz32_3 := blk_frozen BK334.out 3
         have hfz32_4 := blk_frozen BK334.out 4
         go_wp2
         go_meet
         case rel => exact ⟨_, (false), (by first | rfl | (simp; done) | (simp [*]; done)), H', ⟨by have := HJ2.out; first | omega | exact Nat.le_refl _⟩, ⟨by (with_reducible repeat (first | apply Kd.R_alloc | apply Kd.R_drewN | apply Kd.R_drew)); exact Kd.R_mono (Kd.R_far (p := ⟨gb334, 4, none⟩) (Kd.R_far (p := ⟨gb334, 3, none⟩) (Kd.R_far (p := ⟨gb334, 2, none⟩) (Kd.R_far (p := ⟨gb334, 1, none⟩) (Kd.R_far (p := ⟨gb334, 0, none⟩) (Kd.R_types HO_5.out BK334.out (by decide)) (fun _ hk => hk.2) (.slice A333_0 ((rd_T40 l0_5 a1).f0).length c333_0)) (fun _ hk => hk.2) (.int .i64 ((rd_T40 l0_5 a1).f1))) (fun _ hk => hk.2) (.int .i64 ((rd_T40 l0_5 a1).f2))) (fun _ hk => hk.2) (.int .i64 ((rd_T40 l0_5 a1).f3.f0))) (fun _ hk => hk.2) (.int .i64 ((rd_T40 l0_5 a1).f3.f1))) (fun _ hk => trivial)⟩, ⟨by (with_reducible repeat (first | refine blk_drewN ?_ _ | refine blk_drew ?_ | refine blk_alloc ?_ _)); refine blk_far ?_ NB329_334.out _; (with_reducible repeat (first | refine blk_drewN ?_ _ | refine blk_drew ?_ | refine blk_alloc ?_ _)); refine blk_far ?_ NB329_334.out _; (with_reducible repeat (first | refine blk_drewN ?_ _ | refine blk_drew ?_ | refine blk_alloc ?_ _)); refine blk_far ?_ NB329_334.out _; (with_reducible repeat (first | refine blk_drewN ?_ _ | refine blk_drew ?_ | refine blk_alloc ?_ _)); refine blk_far ?_ NB329_334.out _; (with_reducible repeat (first | refine blk_drewN ?_ _ | refine blk_drew ?_ | refine blk_alloc ?_ _)); refine blk_far ?_ NB329_334.out _; (with_reducible repeat (first | refine blk_drewN ?_ _ | refine blk_drew ?_ | refine blk_alloc ?_ _)); exact BK329.out⟩, ⟨by (with_reducible repeat (first | refine blk_drewN ?_ _ | refine blk_drew ?_ | refine blk_alloc ?_ _)); refine blk_put (cs := #[.slice A333_0 ((rd_T40 l0_5 a1).f0).length c333_0, .int .i64 ((rd_T40 l0_5 a1).f1), .int .i64 ((rd_T40 l0_5 a1).f2), .int .i64 ((rd_T40 l0_5 a1).f3.f0), .int .i64 0]) ?_ 4 _ rfl; (with_reducible repeat (first | refine blk_drewN ?_ _ | refine blk_drew ?_ | refine blk_alloc ?_ _)); refine blk_put (cs := #[.slice A333_0 ((rd_T40 l0_5 a1).f0).length c333_0, .int .i64 ((rd_T40 l0_5 a1).f1), .int .i64 ((rd_T40 l0_5 a1).f2), .int .i64 0, .int .i64 0]) ?_ 3 _ rfl; (with_reducible repeat (first | refine blk_drewN ?_ _ | refine blk_drew ?_ | refine blk_alloc ?_ _)); refine blk_put (cs := #[.slice A333_0 ((rd_T40 l0_5 a1).f0).length c333_0, .int .i64 ((rd_T40 l0_5 a1).f1), .int .i64 0, .int .i64 0, .int .i64 0]) ?_ 2 _ rfl; (with_reducible repeat (first | refine blk_drewN ?_ _ | refine blk_drew ?_ | refine blk_alloc ?_ _)); refine blk_put (cs := #[.slice A333_0 ((rd_T40 l0_5 a1).f0).length c333_0, .int .i64 0, .int .i64 0, .int .i64 0, .int .i64 0]) ?_ 1 _ rfl; (with_reducible repeat (first | refine blk_drewN ?_ _ | refine blk_drew ?_ | refine blk_alloc ?_ _)); refine blk_put (cs := #[.slice none 0 0, .int .i64 0, .int .i64 0, .int .i64 0, .int .i64 0]) ?_ 0 _ rfl; (with_reducible repeat (first | refine blk_drewN ?_ _ | refine blk_drew ?_ | refine blk_alloc ?_ _)); exact BK334.out⟩, ⟨by repeat (first | (with_reducible first | exact HB.out | apply below_alloc | apply pw_below_drewN | apply below_drew1 | refine below_set ?_ GE329.out | refine below_set ?_ GE334.out) | exact HB.out)⟩⟩
      case rest =>
       clear HC12
       try clear c1
       try clear c2
       try clear p2
       try clear c3
       try clear p3
       try clear q3
       try clear hx3
       try clear c7
       try clear c7b0
       try clear c9
       try clear c10
       try clear c10b0
       try clear c11
       try clear c11b0
       try clear c15
       try clear c17
       try clear c17b0
       try clear c17b1
       try clear c18
       try clear c18b0
       try clear c19
       try clear c21
       try clear c22
       try clear c24
       try clear c24b0
       try clear c24b1
       try clear c25
       try clear c25b0
       try clear c26
       try clear c29
       try clear c31
       try clear hcz13_0
       try clear hcz13_1
       try clear hcz13_2
       try clear hcz13_3
       try clear hcz13_4
       try clear hcz13_5
       try clear hcz16_0
       try clear hcz16_1
       try clear hcz16_2
       try clear hcz16_3
       try clear hcz16_4
       try clear hcz20_0
       try clear hcz20_1
       try clear hcz20_2
       try clear hcz20_3
       try clear hcz20_4
       try clear hcz21_0
       try clear hcz21_1
       try clear hcz21_2
       try clear hcz21_3
       try clear hcz21_4
       try clear hcz21_5
       try clear hcz23_0
       try clear hcz23_1
       try clear hcz23_2
       try clear hcz23_3
       try clear hcz23_4
       try clear hcz27_0
       try clear hcz27_1
       try clear hcz27_2
       try clear hcz27_3
       try clear hcz27_4
       try clear hcz28_0
       try clear hcz28_1
       try clear hcz28_2
       try clear hcz28_3
       try clear hcz28_4
       try clear hcz28_5
       try clear hcz30_0
       try clear hcz30_1
       try clear hcz30_2
       try clear hcz30_3
       try clear hcz30_4
       try clear hcz32_0
       try clear hcz32_1
       try clear hcz32_2
       try clear hcz32_3
       try clear hcz32_4
       try clear hcz8_0
       try clear hcz8_1
       try clear hcz8_2
       try clear hcz8_3
       try clear hcz8_4
       try clear hcz8_5
       try clear hfz13_0
       try clear hfz13_1
       try clear hfz13_2
       try clear hfz13_3
       try clear hfz13_4
       try clear hfz13_5
       try clear hfz16_0
       try clear hfz16_1
       try clear hfz16_2
       try clear hfz16_3
       try clear hfz16_4
       try clear hfz20_0
       try clear hfz20_1
       try clear hfz20_2
       try clear hfz20_3
       try clear hfz20_4
       try clear hfz21_0
       try clear hfz21_1
       try clear hfz21_2
       try clear hfz21_3
       try clear hfz21_4
       try clear hfz21_5
       try clear hfz23_0
       try clear hfz23_1
       try clear hfz23_2
       try clear hfz23_3
       try clear hfz23_4
       try clear hfz27_0
       try clear hfz27_1
       try clear hfz27_2
       try clear hfz27_3
       try clear hfz27_4
       try clear hfz28_0
       try clear hfz28_1
       try clear hfz28_2
       try clear hfz28_3
       try clear hfz28_4
       try clear hfz28_5
       try clear hfz30_0
       try clear hfz30_1
       try clear hfz30_2
       try clear hfz30_3
       try clear hfz30_4
       try clear hfz32_0
       try clear hfz32_1
       try clear hfz32_2
       try clear hfz32_3
       try clear hfz32_4
       try clear hfz8_0
       try clear hfz8_1
       try clear hfz8_2
       try clear hfz8_3
       try clear hfz8_4
       try clear hfz8_5
       try clear hx333_0
       try clear hx333_1
       try clear hx333_2
       try clear hx333_3
       try clear hx333_4
       try clear p2
       try clear p333
       try clear q333
       obtain ⟨kq, x45_11, rfl, HA, HJ11, HO_5, BK329, BK334, HB⟩ := hcut
       cases kq with
       | zero => exact absurd HA.out (by simp [truantref09_Next.j1])
       | succ kj11 =>
        have H := HA.out
        clear HA
        simp only [truantref09_Next.j1] at H
        by_cases c33 : x45_11 = true
        ·subst c33
         have H1 : (if y330.length < 17592186044416 then ((some (y330 ++ [((rd_T40 l0_5 a1).f3.f0)] : List Int)).bind fun y335 => (if ((rd_T40 l0_5 a1).f1) = 2 then (if ((rd_T40 l0_5 a1).f3.f1) = ((rd_T40 l0_5 a1).f3.f0) then (some y335) else (if ((rd_T40 l0_5 a1).f3.f1) ≥ 0 then (if ((rd_T40 l0_5 a1).f3.f1) < (l0_5.length : Int) then (if y335.length < 17592186044416 then (some (y335 ++ [((rd_T40 l0_5 a1).f3.f1)])) else (none)) else (some y335)) else (some y335))) else (some y335))) else (none)) = some r := by rw [if_pos rfl] at H; exact H
         clear H
         have H := H1
         clear H1
         by_cases c34 : y330.length < 17592186044416
         ·rw [if_pos c34] at H
          have LMc34 := Aside0.mk c34
          clear c34
          obtain ⟨y335, hy335⟩ : ∃ y_ : List Int, y_ = (y330 ++ [((rd_T40 l0_5 a1).f3.f0)]) := ⟨_, rfl⟩
          replace H : (if ((rd_T40 l0_5 a1).f1) = 2 then (if ((rd_T40 l0_5 a1).f3.f1) = ((rd_T40 l0_5 a1).f3.f0) then (some y335) else (if ((rd_T40 l0_5 a1).f3.f1) ≥ 0 then (if ((rd_T40 l0_5 a1).f3.f1) < (l0_5.length : Int) then (if y335.length < 17592186044416 then (some (y335 ++ [((rd_T40 l0_5 a1).f3.f1)])) else (none)) else (some y335)) else (some y335))) else (some y335)) = some r := by first | (rw [hy335]; with_reducible exact H) | (have H2_ := (Option.bind_some _ _).symm.trans H; rw [hy335]; with_reducible exact H2_) | (have H2_ := (Option.bind_some _ _).symm.trans H; with_reducible exact H2_) | with_reducible exact H | (rw [hy335]; exact H) | exact H
          have Ny335 := Aside0.mk hy335
          clear hy335
          by_cases c35 : ((rd_T40 l0_5 a1).f1) = 2
          ·rw [if_pos c35] at H
           have c35b0 : (((rd_T40 l0_5 a1).f1) == 2) = true := beq_iff_eq.mpr c35
           have c35b1 : (((rd_T40 l0_5 a1).f1) != 2) = false := bne_eq_false_iff_eq.mpr c35
           clear c35
           by_cases c36 : ((rd_T40 l0_5 a1).f3.f1) = ((rd_T40 l0_5 a1).f3.f0)
           ·rw [if_pos c36] at H
            have c36b0 : (((rd_T40 l0_5 a1).f3.f1) == ((rd_T40 l0_5 a1).f3.f0)) = true := beq_iff_eq.mpr c36
            have c36b1 : (((rd_T40 l0_5 a1).f3.f1) != ((rd_T40 l0_5 a1).f3.f0)) = false := bne_eq_false_iff_eq.mpr c36
            clear c36
            obtain rfl := Option.some.inj H
            have hnb37 := NB334_329.out
            have hnc37 := NB329_334.out
            have hcz38_0 : wc.cell? ⟨gb334, 0, none⟩ = some (.slice A333_0 ((rd_T40 l0_5 a1).f0).length c333_0) := (blk_cell BK334.out 0).trans rfl
            have hcz38_1 : wc.cell? ⟨gb334, 1, none⟩ = some (.int .i64 ((rd_T40 l0_5 a1).f1)) := (blk_cell BK334.out 1).trans rfl
            have hcz38_2 : wc.cell? ⟨gb334, 2, none⟩ = some (.int .i64 ((rd_T40 l0_5 a1).f2)) := (blk_cell BK334.out 2).trans rfl
            have hcz38_3 : wc.cell? ⟨gb334, 3, none⟩ = some (.int .i64 ((rd_T40 l0_5 a1).f3.f0)) := (blk_cell BK334.out 3).trans rfl
            have hcz38_4 : wc.cell? ⟨gb334, 4, none⟩ = some (.int .i64 ((rd_T40 l0_5 a1).f3.f1)) := (blk_cell BK334.out 4).trans rfl
            have hfz38_0 := blk_frozen BK334.out 0
            have hfz38_1 := blk_frozen BK334.out 1
            have hfz38_2 := blk_frozen BK334.out 2
            have hfz38_3 := blk_frozen BK334.out 3
            have hfz38_4 := blk_frozen BK334.out 4
            go_wp2_with (first | ((with_reducible refine gate_builtin (b := .append) (xs := #[.tmp 46, .tmp 50]) rfl ?_); (try (refine gate_guard (by rfl) ?_; dsimp only)); at_builtin; refine Kd.R_append (Kd.int .i64) (w0 := w) w.heap.size rfl (.tmp 46) (.tmp 50) 34 3 (.int .i64 0) 8 rfl Try.underlying34 info3 rfl (by decide) (by omega) v331 y330 ((rd_T40 l0_5 a1).f3.f0) [.int .i64 ((rd_T40 l0_5 a1).f3.f0)] (fun _ => True) (fun _ => False) rfl rfl ?aP (fun _ hk => hk.elim) ?aF ?aO ?aB ?aS ?aL ?_; (case aP => exact rfl); (case aB => exact (by repeat (first | (with_reducible first | exact HB.out | apply below_alloc | apply pw_below_drewN | apply below_drew1 | refine below_set ?_ GE329.out | refine below_set ?_ GE334.out) | exact HB.out))); (case aF => exact (fun _ _ => trivial)); (case aO => exact (by (with_reducible repeat (first | apply Kd.R_alloc | apply Kd.R_drewN | apply Kd.R_drew)); exact HO_5.out)); (case aS => exact (below_size (by repeat (first | (with_reducible first | exact HB.out | apply below_alloc | apply pw_below_drewN | apply below_drew1 | refine below_set ?_ GE329.out | refine below_set ?_ GE334.out) | exact HB.out)))); (case aL => have := LMc34.out; omega); intro v336 w39 ho hb hg hat; rw [← Ny335.out] at ho; have n0_ := Aside0.mk (blk_grown (g := gb329) (o := .cells #[.string a0_0, .slice A0_1 l0_1.length c0_1, .string a0_2, .slice A0_3 l0_3.length c0_3, .slice A0_4 l0_4.length c0_4, .slice (some ad333) l0_5.length c0_5] 26 (0, 0)) (by (with_reducible repeat (first | refine blk_drewN ?_ _ | refine blk_drew ?_ | refine blk_alloc ?_ _)); exact BK329.out) hg (Kd.R_ne HO_5.out BK329.out (by decide))); have n1_ := Aside0.mk (blk_grown (g := gb334) (o := .cells #[.slice A333_0 ((rd_T40 l0_5 a1).f0).length c333_0, .int .i64 ((rd_T40 l0_5 a1).f1), .int .i64 ((rd_T40 l0_5 a1).f2), .int .i64 ((rd_T40 l0_5 a1).f3.f0), .int .i64 ((rd_T40 l0_5 a1).f3.f1)] 40 (0, 0)) (by (with_reducible repeat (first | refine blk_drewN ?_ _ | refine blk_drew ?_ | refine blk_alloc ?_ _)); exact BK334.out) hg (Kd.R_ne HO_5.out BK334.out (by decide))); have n2_ := Aside0.mk (hb); have n3_ := Aside0.mk (ho); clear BK329; clear BK334; clear HB; clear HO_5; have BK329 := n0_; have BK334 := n1_; have HB := n2_; have HO337 := n3_; clear n0_ n1_ n2_ n3_; clear ho hb hg hat; have hcz40_0 : w39.cell? ⟨gb334, 0, none⟩ = some (.slice A333_0 ((rd_T40 l0_5 a1).f0).length c333_0) := (blk_cell BK334.out 0).trans rfl; have hcz40_1 : w39.cell? ⟨gb334, 1, none⟩ = some (.int .i64 ((rd_T40 l0_5 a1).f1)) := (blk_cell BK334.out 1).trans rfl; have hcz40_2 : w39.cell? ⟨gb334, 2, none⟩ = some (.int .i64 ((rd_T40 l0_5 a1).f2)) := (blk_cell BK334.out 2).trans rfl; have hcz40_3 : w39.cell? ⟨gb334, 3, none⟩ = some (.int .i64 ((rd_T40 l0_5 a1).f3.f0)) := (blk_cell BK334.out 3).trans rfl; have hcz40_4 : w39.cell? ⟨gb334, 4, none⟩ = some (.int .i64 ((rd_T40 l0_5 a1).f3.f1)) := (blk_cell BK334.out 4).trans rfl; have hfz40_0 := blk_frozen BK334.out 0; have hfz40_1 := blk_frozen BK334.out 1; have hfz40_2 := blk_frozen BK334.out 2; have hfz40_3 := blk_frozen BK334.out 3; have hfz40_4 := blk_frozen BK334.out 4))
            go_ret
            exact ⟨_, by first | rfl | (simp [errW_none, errW_some] <;> rfl) | (simp [*, errW_none, errW_some] <;> rfl), by (with_reducible repeat (first | apply Kd.R_alloc | apply Kd.R_drewN | apply Kd.R_drew)); exact HO337.out, by repeat (first | (with_reducible first | exact HB.out | apply below_alloc | apply pw_below_drewN | apply below_drew1 | refine below_set ?_ GE329.out | refine below_set ?_ GE334.out) | exact HB.out)⟩
           ·rw [if_neg c36] at H
            have c36b0 : (((rd_T40 l0_5 a1).f3.f1) == ((rd_T40 l0_5 a1).f3.f0)) = false := beq_eq_false_iff_ne.mpr c36
            have c36b1 : (((rd_T40 l0_5 a1).f3.f1) != ((rd_T40 l0_5 a1).f3.f0)) = true := bne_iff_ne.mpr c36
            by_cases c41 : ((rd_T40 l0_5 a1).f3.f1) ≥ 0
            ·rw [if_pos c41] at H
             have c41b0 : decide (0 ≤ ((rd_T40 l0_5 a1).f3.f1)) = true := decide_eq_true c41
             clear c41
             by_cases c42 : ((rd_T40 l0_5 a1).f3.f1) < (l0_5.length : Int)
             ·rw [if_pos c42] at H
              have c42b0 : decide (((rd_T40 l0_5 a1).f3.f1) < (l0_5.length : Int)) = true := decide_eq_true c42
              clear c42
              by_cases c43 : y335.length < 17592186044416
              ·rw [if_pos c43] at H
               have LMc43 := Aside0.mk c43
               clear c43
               obtain ⟨y338, hy338⟩ : ∃ y_ : List Int, y_ = (y335 ++ [((rd_T40 l0_5 a1).f3.f1)]) := ⟨_, rfl⟩
               replace H : (some y338) = some r := by first | (rw [hy338]; with_reducible exact H) | (have H2_ := (Option.bind_some _ _).symm.trans H; rw [hy338]; with_reducible exact H2_) | (have H2_ := (Option.bind_some _ _).symm.trans H; with_reducible exact H2_) | with_reducible exact H | (rw [hy338]; exact H) | exact H
               have Ny338 := Aside0.mk hy338
               clear hy338
               obtain rfl := Option.some.inj H
               have hnb44 := NB334_329.out
               have hnc44 := NB329_334.out
               have hcz45_0 : wc.cell? ⟨gb334, 0, none⟩ = some (.slice A333_0 ((rd_T40 l0_5 a1).f0).length c333_0) := (blk_cell BK334.out 0).trans rfl
               have hcz45_1 : wc.cell? ⟨gb334, 1, none⟩ = some (.int .i64 ((rd_T40 l0_5 a1).f1)) := (blk_cell BK334.out 1).trans rfl
               have hcz45_2 : wc.cell? ⟨gb334, 2, none⟩ = some (.int .i64 ((rd_T40 l0_5 a1).f2)) := (blk_cell BK334.out 2).trans rfl
               have hcz45_3 : wc.cell? ⟨gb334, 3, none⟩ = some (.int .i64 ((rd_T40 l0_5 a1).f3.f0)) := (blk_cell BK334.out 3).trans rfl
               have hcz45_4 : wc.cell? ⟨gb334, 4, none⟩ = some (.int .i64 ((rd_T40 l0_5 a1).f3.f1)) := (blk_cell BK334.out 4).trans rfl
               have hfz45_0 := blk_frozen BK334.out 0
               have hfz45_1 := blk_frozen BK334.out 1
               have hfz45_2 := blk_frozen BK334.out 2
               have hfz45_3 := blk_frozen BK334.out 3
               have hfz45_4 := blk_frozen BK334.out 4
               go_wp2_with (first | ((with_reducible refine gate_builtin (b := .append) (xs := #[.tmp 46, .tmp 50]) rfl ?_); (try (refine gate_guard (by rfl) ?_; dsimp only)); at_builtin; refine Kd.R_append (Kd.int .i64) (w0 := w) w.heap.size rfl (.tmp 46) (.tmp 50) 34 3 (.int .i64 0) 8 rfl Try.underlying34 info3 rfl (by decide) (by omega) v331 y330 ((rd_T40 l0_5 a1).f3.f0) [.int .i64 ((rd_T40 l0_5 a1).f3.f0)] (fun _ => True) (fun _ => False) rfl rfl ?aP (fun _ hk => hk.elim) ?aF ?aO ?aB ?aS ?aL ?_; (case aP => exact rfl); (case aB => exact (by repeat (first | (with_reducible first | exact HB.out | apply below_alloc | apply pw_below_drewN | apply below_drew1 | refine below_set ?_ GE329.out | refine below_set ?_ GE334.out) | exact HB.out))); (case aF => exact (fun _ _ => trivial)); (case aO => exact (by (with_reducible repeat (first | apply Kd.R_alloc | apply Kd.R_drewN | apply Kd.R_drew)); exact HO_5.out)); (case aS => exact (below_size (by repeat (first | (with_reducible first | exact HB.out | apply below_alloc | apply pw_below_drewN | apply below_drew1 | refine below_set ?_ GE329.out | refine below_set ?_ GE334.out) | exact HB.out)))); (case aL => have := LMc34.out; omega); intro v336 w46 ho hb hg hat; rw [← Ny335.out] at ho; have n0_ := Aside0.mk (blk_grown (g := gb329) (o := .cells #[.string a0_0, .slice A0_1 l0_1.length c0_1, .string a0_2, .slice A0_3 l0_3.length c0_3, .slice A0_4 l0_4.length c0_4, .slice (some ad333) l0_5.length c0_5] 26 (0, 0)) (by (with_reducible repeat (first | refine blk_drewN ?_ _ | refine blk_drew ?_ | refine blk_alloc ?_ _)); exact BK329.out) hg (Kd.R_ne HO_5.out BK329.out (by decide))); have n1_ := Aside0.mk (blk_grown (g := gb334) (o := .cells #[.slice A333_0 ((rd_T40 l0_5 a1).f0).length c333_0, .int .i64 ((rd_T40 l0_5 a1).f1), .int .i64 ((rd_T40 l0_5 a1).f2), .int .i64 ((rd_T40 l0_5 a1).f3.f0), .int .i64 ((rd_T40 l0_5 a1).f3.f1)] 40 (0, 0)) (by (with_reducible repeat (first | refine blk_drewN ?_ _ | refine blk_drew ?_ | refine blk_alloc ?_ _)); exact BK334.out) hg (Kd.R_ne HO_5.out BK334.out (by decide))); have n2_ := Aside0.mk (hb); have n3_ := Aside0.mk (ho); clear BK329; clear BK334; clear HB; clear HO_5; have BK329 := n0_; have BK334 := n1_; have HB := n2_; have HO337 := n3_; clear n0_ n1_ n2_ n3_; clear ho hb hg hat; have hcz47_0 : w46.cell? ⟨gb334, 0, none⟩ = some (.slice A333_0 ((rd_T40 l0_5 a1).f0).length c333_0) := (blk_cell BK334.out 0).trans rfl; have hcz47_1 : w46.cell? ⟨gb334, 1, none⟩ = some (.int .i64 ((rd_T40 l0_5 a1).f1)) := (blk_cell BK334.out 1).trans rfl; have hcz47_2 : w46.cell? ⟨gb334, 2, none⟩ = some (.int .i64 ((rd_T40 l0_5 a1).f2)) := (blk_cell BK334.out 2).trans rfl; have hcz47_3 : w46.cell? ⟨gb334, 3, none⟩ = some (.int .i64 ((rd_T40 l0_5 a1).f3.f0)) := (blk_cell BK334.out 3).trans rfl; have hcz47_4 : w46.cell? ⟨gb334, 4, none⟩ = some (.int .i64 ((rd_T40 l0_5 a1).f3.f1)) := (blk_cell BK334.out 4).trans rfl; have hfz47_0 := blk_frozen BK334.out 0; have hfz47_1 := blk_frozen BK334.out 1; have hfz47_2 := blk_frozen BK334.out 2; have hfz47_3 := blk_frozen BK334.out 3; have hfz47_4 := blk_frozen BK334.out 4; have hcz48_0 : w46.cell? ⟨gb329, 0, none⟩ = some (.string a0_0) := (blk_cell BK329.out 0).trans rfl; have hcz48_1 : w46.cell? ⟨gb329, 1, none⟩ = some (.slice A0_1 l0_1.length c0_1) := (blk_cell BK329.out 1).trans rfl; have hcz48_2 : w46.cell? ⟨gb329, 2, none⟩ = some (.string a0_2) := (blk_cell BK329.out 2).trans rfl; have hcz48_3 : w46.cell? ⟨gb329, 3, none⟩ = some (.slice A0_3 l0_3.length c0_3) := (blk_cell BK329.out 3).trans rfl; have hcz48_4 : w46.cell? ⟨gb329, 4, none⟩ = some (.slice A0_4 l0_4.length c0_4) := (blk_cell BK329.out 4).trans rfl; have hcz48_5 : w46.cell? ⟨gb329, 5, none⟩ = some (.slice (some ad333) l0_5.length c0_5) := (blk_cell BK329.out 5).trans rfl; have hfz48_0 := blk_frozen BK329.out 0; have hfz48_1 := blk_frozen BK329.out 1; have hfz48_2 := blk_frozen BK329.out 2; have hfz48_3 := blk_frozen BK329.out 3; have hfz48_4 := blk_frozen BK329.out 4; have hfz48_5 := blk_frozen BK329.out 5) | ((with_reducible refine gate_builtin (b := .append) (xs := #[.tmp 79, .tmp 83]) rfl ?_); (try (refine gate_guard (by rfl) ?_; dsimp only)); at_builtin; refine Kd.R_append (Kd.int .i64) (w0 := w) w.heap.size rfl (.tmp 79) (.tmp 83) 34 3 (.int .i64 0) 8 rfl Try.underlying34 info3 rfl (by decide) (by omega) v336 y335 ((rd_T40 l0_5 a1).f3.f1) [.int .i64 ((rd_T40 l0_5 a1).f3.f1)] (fun _ => True) (fun _ => False) rfl rfl ?aP (fun _ hk => hk.elim) ?aF ?aO ?aB ?aS ?aL ?_; (case aP => exact rfl); (case aB => exact (by repeat (first | (with_reducible first | exact HB.out | apply below_alloc | apply pw_below_drewN | apply below_drew1 | refine below_set ?_ GE329.out | refine below_set ?_ GE334.out) | exact HB.out))); (case aF => exact (fun _ _ => trivial)); (case aO => exact (by (with_reducible repeat (first | apply Kd.R_alloc | apply Kd.R_drewN | apply Kd.R_drew)); exact HO337.out)); (case aS => exact (below_size (by repeat (first | (with_reducible first | exact HB.out | apply below_alloc | apply pw_below_drewN | apply below_drew1 | refine below_set ?_ GE329.out | refine below_set ?_ GE334.out) | exact HB.out)))); (case aL => have := LMc43.out; omega); intro v339 w49 ho hb hg hat; rw [← Ny338.out] at ho; have n0_ := Aside0.mk (blk_grown (g := gb329) (o := .cells #[.string a0_0, .slice A0_1 l0_1.length c0_1, .string a0_2, .slice A0_3 l0_3.length c0_3, .slice A0_4 l0_4.length c0_4, .slice (some ad333) l0_5.length c0_5] 26 (0, 0)) (by (with_reducible repeat (first | refine blk_drewN ?_ _ | refine blk_drew ?_ | refine blk_alloc ?_ _)); exact BK329.out) hg (Kd.R_ne HO337.out BK329.out (by decide))); have n1_ := Aside0.mk (blk_grown (g := gb334) (o := .cells #[.slice A333_0 ((rd_T40 l0_5 a1).f0).length c333_0, .int .i64 ((rd_T40 l0_5 a1).f1), .int .i64 ((rd_T40 l0_5 a1).f2), .int .i64 ((rd_T40 l0_5 a1).f3.f0), .int .i64 ((rd_T40 l0_5 a1).f3.f1)] 40 (0, 0)) (by (with_reducible repeat (first | refine blk_drewN ?_ _ | refine blk_drew ?_ | refine blk_alloc ?_ _)); exact BK334.out) hg (Kd.R_ne HO337.out BK334.out (by decide))); have n2_ := Aside0.mk (hb); have n3_ := Aside0.mk (ho); clear BK329; clear BK334; clear HB; clear HO337; have BK329 := n0_; have BK334 := n1_; have HB := n2_; have HO340 := n3_; clear n0_ n1_ n2_ n3_; clear ho hb hg hat))
               go_ret
               exact ⟨_, by first | rfl | (simp [errW_none, errW_some] <;> rfl) | (simp [*, errW_none, errW_some] <;> rfl), by (with_reducible repeat (first | apply Kd.R_alloc | apply Kd.R_drewN | apply Kd.R_drew)); exact HO340.out, by repeat (first | (with_reducible first | exact HB.out | apply below_alloc | apply pw_below_drewN | apply below_drew1 | refine below_set ?_ GE329.out | refine below_set ?_ GE334.out) | exact HB.out)⟩
              ·rw [if_neg c43] at H
               exact absurd H (by simp)
             ·rw [if_neg c42] at H
              have c42b0 : decide (((rd_T40 l0_5 a1).f3.f1) < (l0_5.length : Int)) = false := decide_eq_false c42
              clear c42
              obtain rfl := Option.some.inj H
              have hnb50 := NB334_329.out
              have hnc50 := NB329_334.out
              have hcz51_0 : wc.cell? ⟨gb334, 0, none⟩ = some (.slice A333_0 ((rd_T40 l0_5 a1).f0).length c333_0) := (blk_cell BK334.out 0).trans rfl
              have hcz51_1 : wc.cell? ⟨gb334, 1, none⟩ = some (.int .i64 ((rd_T40 l0_5 a1).f1)) := (blk_cell BK334.out 1).trans rfl
              have hcz51_2 : wc.cell? ⟨gb334, 2, none⟩ = some (.int .i64 ((rd_T40 l0_5 a1).f2)) := (blk_cell BK334.out 2).trans rfl
              have hcz51_3 : wc.cell? ⟨gb334, 3, none⟩ = some (.int .i64 ((rd_T40 l0_5 a1).f3.f0)) := (blk_cell BK334.out 3).trans rfl
              have hcz51_4 : wc.cell? ⟨gb334, 4, none⟩ = some (.int .i64 ((rd_T40 l0_5 a1).f3.f1)) := (blk_cell BK334.out 4).trans rfl
              have hfz51_0 := blk_frozen BK334.out 0
              have hfz51_1 := blk_frozen BK334.out 1
              have hfz51_2 := blk_frozen BK334.out 2
              have hfz51_3 := blk_frozen BK334.out 3
              have hfz51_4 := blk_frozen BK334.out 4
              go_wp2_with (first | ((with_reducible refine gate_builtin (b := .append) (xs := #[.tmp 46, .tmp 50]) rfl ?_); (try (refine gate_guard (by rfl) ?_; dsimp only)); at_builtin; refine Kd.R_append (Kd.int .i64) (w0 := w) w.heap.size rfl (.tmp 46) (.tmp 50) 34 3 (.int .i64 0) 8 rfl Try.underlying34 info3 rfl (by decide) (by omega) v331 y330 ((rd_T40 l0_5 a1).f3.f0) [.int .i64 ((rd_T40 l0_5 a1).f3.f0)] (fun _ => True) (fun _ => False) rfl rfl ?aP (fun _ hk => hk.elim) ?aF ?aO ?aB ?aS ?aL ?_; (case aP => exact rfl); (case aB => exact (by repeat (first | (with_reducible first | exact HB.out | apply below_alloc | apply pw_below_drewN | apply below_drew1 | refine below_set ?_ GE329.out | refine below_set ?_ GE334.out) | exact HB.out))); (case aF => exact (fun _ _ => trivial)); (case aO => exact (by (with_reducible repeat (first | apply Kd.R_alloc | apply Kd.R_drewN | apply Kd.R_drew)); exact HO_5.out)); (case aS => exact (below_size (by repeat (first | (with_reducible first | exact HB.out | apply below_alloc | apply pw_below_drewN | apply below_drew1 | refine below_set ?_ GE329.out | refine below_set ?_ GE334.out) | exact HB.out)))); (case aL => have := LMc34.out; omega); intro v336 w52 ho hb hg hat; rw [← Ny335.out] at ho; have n0_ := Aside0.mk (blk_grown (g := gb329) (o := .cells #[.string a0_0, .slice A0_1 l0_1.length c0_1, .string a0_2, .slice A0_3 l0_3.length c0_3, .slice A0_4 l0_4.length c0_4, .slice (some ad333) l0_5.length c0_5] 26 (0, 0)) (by (with_reducible repeat (first | refine blk_drewN ?_ _ | refine blk_drew ?_ | refine blk_alloc ?_ _)); exact BK329.out) hg (Kd.R_ne HO_5.out BK329.out (by decide))); have n1_ := Aside0.mk (blk_grown (g := gb334) (o := .cells #[.slice A333_0 ((rd_T40 l0_5 a1).f0).length c333_0, .int .i64 ((rd_T40 l0_5 a1).f1), .int .i64 ((rd_T40 l0_5 a1).f2), .int .i64 ((rd_T40 l0_5 a1).f3.f0), .int .i64 ((rd_T40 l0_5 a1).f3.f1)] 40 (0, 0)) (by (with_reducible repeat (first | refine blk_drewN ?_ _ | refine blk_drew ?_ | refine blk_alloc ?_ _)); exact BK334.out) hg (Kd.R_ne HO_5.out BK334.out (by decide))); have n2_ := Aside0.mk (hb); have n3_ := Aside0.mk (ho); clear BK329; clear BK334; clear HB; clear HO_5; have BK329 := n0_; have BK334 := n1_; have HB := n2_; have HO337 := n3_; clear n0_ n1_ n2_ n3_; clear ho hb hg hat; have hcz53_0 : w52.cell? ⟨gb334, 0, none⟩ = some (.slice A333_0 ((rd_T40 l0_5 a1).f0).length c333_0) := (blk_cell BK334.out 0).trans rfl; have hcz53_1 : w52.cell? ⟨gb334, 1, none⟩ = some (.int .i64 ((rd_T40 l0_5 a1).f1)) := (blk_cell BK334.out 1).trans rfl; have hcz53_2 : w52.cell? ⟨gb334, 2, none⟩ = some (.int .i64 ((rd_T40 l0_5 a1).f2)) := (blk_cell BK334.out 2).trans rfl; have hcz53_3 : w52.cell? ⟨gb334, 3, none⟩ = some (.int .i64 ((rd_T40 l0_5 a1).f3.f0)) := (blk_cell BK334.out 3).trans rfl; have hcz53_4 : w52.cell? ⟨gb334, 4, none⟩ = some (.int .i64 ((rd_T40 l0_5 a1).f3.f1)) := (blk_cell BK334.out 4).trans rfl; have hfz53_0 := blk_frozen BK334.out 0; have hfz53_1 := blk_frozen BK334.out 1; have hfz53_2 := blk_frozen BK334.out 2; have hfz53_3 := blk_frozen BK334.out 3; have hfz53_4 := blk_frozen BK334.out 4; have hcz54_0 : w52.cell? ⟨gb329, 0, none⟩ = some (.string a0_0) := (blk_cell BK329.out 0).trans rfl; have hcz54_1 : w52.cell? ⟨gb329, 1, none⟩ = some (.slice A0_1 l0_1.length c0_1) := (blk_cell BK329.out 1).trans rfl; have hcz54_2 : w52.cell? ⟨gb329, 2, none⟩ = some (.string a0_2) := (blk_cell BK329.out 2).trans rfl; have hcz54_3 : w52.cell? ⟨gb329, 3, none⟩ = some (.slice A0_3 l0_3.length c0_3) := (blk_cell BK329.out 3).trans rfl; have hcz54_4 : w52.cell? ⟨gb329, 4, none⟩ = some (.slice A0_4 l0_4.length c0_4) := (blk_cell BK329.out 4).trans rfl; have hcz54_5 : w52.cell? ⟨gb329, 5, none⟩ = some (.slice (some ad333) l0_5.length c0_5) := (blk_cell BK329.out 5).trans rfl; have hfz54_0 := blk_frozen BK329.out 0; have hfz54_1 := blk_frozen BK329.out 1; have hfz54_2 := blk_frozen BK329.out 2; have hfz54_3 := blk_frozen BK329.out 3; have hfz54_4 := blk_frozen BK329.out 4; have hfz54_5 := blk_frozen BK329.out 5))
              go_ret
              exact ⟨_, by first | rfl | (simp [errW_none, errW_some] <;> rfl) | (simp [*, errW_none, errW_some] <;> rfl), by (with_reducible repeat (first | apply Kd.R_alloc | apply Kd.R_drewN | apply Kd.R_drew)); exact HO337.out, by repeat (first | (with_reducible first | exact HB.out | apply below_alloc | apply pw_below_drewN | apply below_drew1 | refine below_set ?_ GE329.out | refine below_set ?_ GE334.out) | exact HB.out)⟩
            ·rw [if_neg c41] at H
             have c41b0 : decide (0 ≤ ((rd_T40 l0_5 a1).f3.f1)) = false := decide_eq_false c41
             clear c41
             obtain rfl := Option.some.inj H
             have hnb55 := NB334_329.out
             have hnc55 := NB329_334.out
             have hcz56_0 : wc.cell? ⟨gb334, 0, none⟩ = some (.slice A333_0 ((rd_T40 l0_5 a1).f0).length c333_0) := (blk_cell BK334.out 0).trans rfl
             have hcz56_1 : wc.cell? ⟨gb334, 1, none⟩ = some (.int .i64 ((rd_T40 l0_5 a1).f1)) := (blk_cell BK334.out 1).trans rfl
             have hcz56_2 : wc.cell? ⟨gb334, 2, none⟩ = some (.int .i64 ((rd_T40 l0_5 a1).f2)) := (blk_cell BK334.out 2).trans rfl
             have hcz56_3 : wc.cell? ⟨gb334, 3, none⟩ = some (.int .i64 ((rd_T40 l0_5 a1).f3.f0)) := (blk_cell BK334.out 3).trans rfl
             have hcz56_4 : wc.cell? ⟨gb334, 4, none⟩ = some (.int .i64 ((rd_T40 l0_5 a1).f3.f1)) := (blk_cell BK334.out 4).trans rfl
             have hfz56_0 := blk_frozen BK334.out 0
             have hfz56_1 := blk_frozen BK334.out 1
             have hfz56_2 := blk_frozen BK334.out 2
             have hfz56_3 := blk_frozen BK334.out 3
             have hfz56_4 := blk_frozen BK334.out 4
             go_wp2_with (first | ((with_reducible refine gate_builtin (b := .append) (xs := #[.tmp 46, .tmp 50]) rfl ?_); (try (refine gate_guard (by rfl) ?_; dsimp only)); at_builtin; refine Kd.R_append (Kd.int .i64) (w0 := w) w.heap.size rfl (.tmp 46) (.tmp 50) 34 3 (.int .i64 0) 8 rfl Try.underlying34 info3 rfl (by decide) (by omega) v331 y330 ((rd_T40 l0_5 a1).f3.f0) [.int .i64 ((rd_T40 l0_5 a1).f3.f0)] (fun _ => True) (fun _ => False) rfl rfl ?aP (fun _ hk => hk.elim) ?aF ?aO ?aB ?aS ?aL ?_; (case aP => exact rfl); (case aB => exact (by repeat (first | (with_reducible first | exact HB.out | apply below_alloc | apply pw_below_drewN | apply below_drew1 | refine below_set ?_ GE329.out | refine below_set ?_ GE334.out) | exact HB.out))); (case aF => exact (fun _ _ => trivial)); (case aO => exact (by (with_reducible repeat (first | apply Kd.R_alloc | apply Kd.R_drewN | apply Kd.R_drew)); exact HO_5.out)); (case aS => exact (below_size (by repeat (first | (with_reducible first | exact HB.out | apply below_alloc | apply pw_below_drewN | apply below_drew1 | refine below_set ?_ GE329.out | refine below_set ?_ GE334.out) | exact HB.out)))); (case aL => have := LMc34.out; omega); intro v336 w57 ho hb hg hat; rw [← Ny335.out] at ho; have n0_ := Aside0.mk (blk_grown (g := gb329) (o := .cells #[.string a0_0, .slice A0_1 l0_1.length c0_1, .string a0_2, .slice A0_3 l0_3.length c0_3, .slice A0_4 l0_4.length c0_4, .slice (some ad333) l0_5.length c0_5] 26 (0, 0)) (by (with_reducible repeat (first | refine blk_drewN ?_ _ | refine blk_drew ?_ | refine blk_alloc ?_ _)); exact BK329.out) hg (Kd.R_ne HO_5.out BK329.out (by decide))); have n1_ := Aside0.mk (blk_grown (g := gb334) (o := .cells #[.slice A333_0 ((rd_T40 l0_5 a1).f0).length c333_0, .int .i64 ((rd_T40 l0_5 a1).f1), .int .i64 ((rd_T40 l0_5 a1).f2), .int .i64 ((rd_T40 l0_5 a1).f3.f0), .int .i64 ((rd_T40 l0_5 a1).f3.f1)] 40 (0, 0)) (by (with_reducible repeat (first | refine blk_drewN ?_ _ | refine blk_drew ?_ | refine blk_alloc ?_ _)); exact BK334.out) hg (Kd.R_ne HO_5.out BK334.out (by decide))); have n2_ := Aside0.mk (hb); have n3_ := Aside0.mk (ho); clear BK329; clear BK334; clear HB; clear HO_5; have BK329 := n0_; have BK334 := n1_; have HB := n2_; have HO337 := n3_; clear n0_ n1_ n2_ n3_; clear ho hb hg hat; have hcz58_0 : w57.cell? ⟨gb334, 0, none⟩ = some (.slice A333_0 ((rd_T40 l0_5 a1).f0).length c333_0) := (blk_cell BK334.out 0).trans rfl; have hcz58_1 : w57.cell? ⟨gb334, 1, none⟩ = some (.int .i64 ((rd_T40 l0_5 a1).f1)) := (blk_cell BK334.out 1).trans rfl; have hcz58_2 : w57.cell? ⟨gb334, 2, none⟩ = some (.int .i64 ((rd_T40 l0_5 a1).f2)) := (blk_cell BK334.out 2).trans rfl; have hcz58_3 : w57.cell? ⟨gb334, 3, none⟩ = some (.int .i64 ((rd_T40 l0_5 a1).f3.f0)) := (blk_cell BK334.out 3).trans rfl; have hcz58_4 : w57.cell? ⟨gb334, 4, none⟩ = some (.int .i64 ((rd_T40 l0_5 a1).f3.f1)) := (blk_cell BK334.out 4).trans rfl; have hfz58_0 := blk_frozen BK334.out 0; have hfz58_1 := blk_frozen BK334.out 1; have hfz58_2 := blk_frozen BK334.out 2; have hfz58_3 := blk_frozen BK334.out 3; have hfz58_4 := blk_frozen BK334.out 4))
             go_ret
             exact ⟨_, by first | rfl | (simp [errW_none, errW_some] <;> rfl) | (simp [*, errW_none, errW_some] <;> rfl), by (with_reducible repeat (first | apply Kd.R_alloc | apply Kd.R_drewN | apply Kd.R_drew)); exact HO337.out, by repeat (first | (with_reducible first | exact HB.out | apply below_alloc | apply pw_below_drewN | apply below_drew1 | refine below_set ?_ GE329.out | refine below_set ?_ GE334.out) | exact HB.out)⟩
          ·rw [if_neg c35] at H
           have c35b0 : (((rd_T40 l0_5 a1).f1) == 2) = false := beq_eq_false_iff_ne.mpr c35
           have c35b1 : (((rd_T40 l0_5 a1).f1) != 2) = true := bne_iff_ne.mpr c35
           obtain rfl := Option.some.inj H
           have hnb59 := NB334_329.out
           have hnc59 := NB329_334.out
           have hcz60_0 : wc.cell? ⟨gb334, 0, none⟩ = some (.slice A333_0 ((rd_T40 l0_5 a1).f0).length c333_0) := (blk_cell BK334.out 0).trans rfl
           have hcz60_1 : wc.cell? ⟨gb334, 1, none⟩ = some (.int .i64 ((rd_T40 l0_5 a1).f1)) := (blk_cell BK334.out 1).trans rfl
           have hcz60_2 : wc.cell? ⟨gb334, 2, none⟩ = some (.int .i64 ((rd_T40 l0_5 a1).f2)) := (blk_cell BK334.out 2).trans rfl
           have hcz60_3 : wc.cell? ⟨gb334, 3, none⟩ = some (.int .i64 ((rd_T40 l0_5 a1).f3.f0)) := (blk_cell BK334.out 3).trans rfl
           have hcz60_4 : wc.cell? ⟨gb334, 4, none⟩ = some (.int .i64 ((rd_T40 l0_5 a1).f3.f1)) := (blk_cell BK334.out 4).trans rfl
           have hfz60_0 := blk_frozen BK334.out 0
           have hfz60_1 := blk_frozen BK334.out 1
           have hfz60_2 := blk_frozen BK334.out 2
           have hfz60_3 := blk_frozen BK334.out 3
           have hfz60_4 := blk_frozen BK334.out 4
           go_wp2_with (first | ((with_reducible refine gate_builtin (b := .append) (xs := #[.tmp 46, .tmp 50]) rfl ?_); (try (refine gate_guard (by rfl) ?_; dsimp only)); at_builtin; refine Kd.R_append (Kd.int .i64) (w0 := w) w.heap.size rfl (.tmp 46) (.tmp 50) 34 3 (.int .i64 0) 8 rfl Try.underlying34 info3 rfl (by decide) (by omega) v331 y330 ((rd_T40 l0_5 a1).f3.f0) [.int .i64 ((rd_T40 l0_5 a1).f3.f0)] (fun _ => True) (fun _ => False) rfl rfl ?aP (fun _ hk => hk.elim) ?aF ?aO ?aB ?aS ?aL ?_; (case aP => exact rfl); (case aB => exact (by repeat (first | (with_reducible first | exact HB.out | apply below_alloc | apply pw_below_drewN | apply below_drew1 | refine below_set ?_ GE329.out | refine below_set ?_ GE334.out) | exact HB.out))); (case aF => exact (fun _ _ => trivial)); (case aO => exact (by (with_reducible repeat (first | apply Kd.R_alloc | apply Kd.R_drewN | apply Kd.R_drew)); exact HO_5.out)); (case aS => exact (below_size (by repeat (first | (with_reducible first | exact HB.out | apply below_alloc | apply pw_below_drewN | apply below_drew1 | refine below_set ?_ GE329.out | refine below_set ?_ GE334.out) | exact HB.out)))); (case aL => have := LMc34.out; omega); intro v336 w61 ho hb hg hat; rw [← Ny335.out] at ho; have n0_ := Aside0.mk (blk_grown (g := gb329) (o := .cells #[.string a0_0, .slice A0_1 l0_1.length c0_1, .string a0_2, .slice A0_3 l0_3.length c0_3, .slice A0_4 l0_4.length c0_4, .slice (some ad333) l0_5.length c0_5] 26 (0, 0)) (by (with_reducible repeat (first | refine blk_drewN ?_ _ | refine blk_drew ?_ | refine blk_alloc ?_ _)); exact BK329.out) hg (Kd.R_ne HO_5.out BK329.out (by decide))); have n1_ := Aside0.mk (blk_grown (g := gb334) (o := .cells #[.slice A333_0 ((rd_T40 l0_5 a1).f0).length c333_0, .int .i64 ((rd_T40 l0_5 a1).f1), .int .i64 ((rd_T40 l0_5 a1).f2), .int .i64 ((rd_T40 l0_5 a1).f3.f0), .int .i64 ((rd_T40 l0_5 a1).f3.f1)] 40 (0, 0)) (by (with_reducible repeat (first | refine blk_drewN ?_ _ | refine blk_drew ?_ | refine blk_alloc ?_ _)); exact BK334.out) hg (Kd.R_ne HO_5.out BK334.out (by decide))); have n2_ := Aside0.mk (hb); have n3_ := Aside0.mk (ho); clear BK329; clear BK334; clear HB; clear HO_5; have BK329 := n0_; have BK334 := n1_; have HB := n2_; have HO337 := n3_; clear n0_ n1_ n2_ n3_; clear ho hb hg hat; have hcz62_0 : w61.cell? ⟨gb334, 0, none⟩ = some (.slice A333_0 ((rd_T40 l0_5 a1).f0).length c333_0) := (blk_cell BK334.out 0).trans rfl; have hcz62_1 : w61.cell? ⟨gb334, 1, none⟩ = some (.int .i64 ((rd_T40 l0_5 a1).f1)) := (blk_cell BK334.out 1).trans rfl; have hcz62_2 : w61.cell? ⟨gb334, 2, none⟩ = some (.int .i64 ((rd_T40 l0_5 a1).f2)) := (blk_cell BK334.out 2).trans rfl; have hcz62_3 : w61.cell? ⟨gb334, 3, none⟩ = some (.int .i64 ((rd_T40 l0_5 a1).f3.f0)) := (blk_cell BK334.out 3).trans rfl; have hcz62_4 : w61.cell? ⟨gb334, 4, none⟩ = some (.int .i64 ((rd_T40 l0_5 a1).f3.f1)) := (blk_cell BK334.out 4).trans rfl; have hfz62_0 := blk_frozen BK334.out 0; have hfz62_1 := blk_frozen BK334.out 1; have hfz62_2 := blk_frozen BK334.out 2; have hfz62_3 := blk_frozen BK334.out 3; have hfz62_4 := blk_frozen BK334.out 4))
           go_ret
           exact ⟨_, by first | rfl | (simp [errW_none, errW_some] <;> rfl) | (simp [*, errW_none, errW_some] <;> rfl), by (with_reducible repeat (first | apply Kd.R_alloc | apply Kd.R_drewN | apply Kd.R_drew)); exact HO337.out, by repeat (first | (with_reducible first | exact HB.out | apply below_alloc | apply pw_below_drewN | apply below_drew1 | refine below_set ?_ GE329.out | refine below_set ?_ GE334.out) | exact HB.out)⟩
         ·rw [if_neg c34] at H
          exact absurd H (by simp)
        ·replace c33 := Bool.eq_false_iff.mpr c33
         subst c33
         have H1 : (if ((rd_T40 l0_5 a1).f1) = 2 then (if ((rd_T40 l0_5 a1).f3.f1) = ((rd_T40 l0_5 a1).f3.f0) then (some y330) else (if ((rd_T40 l0_5 a1).f3.f1) ≥ 0 then (if ((rd_T40 l0_5 a1).f3.f1) < (l0_5.length : Int) then (if y330.length < 17592186044416 then (some (y330 ++ [((rd_T40 l0_5 a1).f3.f1)])) else (none)) else (some y330)) else (some y330))) else (some y330)) = some r := by rw [if_neg (show ¬ (false = true) by decide)] at H; exact H
         clear H
         have H := H1
         clear H1
         by_cases c63 : ((rd_T40 l0_5 a1).f1) = 2
         ·rw [if_pos c63] at H
          have c63b0 : (((rd_T40 l0_5 a1).f1) == 2) = true := beq_iff_eq.mpr c63
          have c63b1 : (((rd_T40 l0_5 a1).f1) != 2) = false := bne_eq_false_iff_eq.mpr c63
          clear c63
          by_cases c64 : ((rd_T40 l0_5 a1).f3.f1) = ((rd_T40 l0_5 a1).f3.f0)
          ·rw [if_pos c64] at H
           have c64b0 : (((rd_T40 l0_5 a1).f3.f1) == ((rd_T40 l0_5 a1).f3.f0)) = true := beq_iff_eq.mpr c64
           have c64b1 : (((rd_T40 l0_5 a1).f3.f1) != ((rd_T40 l0_5 a1).f3.f0)) = false := bne_eq_false_iff_eq.mpr c64
           clear c64
           obtain rfl := Option.some.inj H
           have hnb65 := NB334_329.out
           have hnc65 := NB329_334.out
           have hcz66_0 : wc.cell? ⟨gb334, 0, none⟩ = some (.slice A333_0 ((rd_T40 l0_5 a1).f0).length c333_0) := (blk_cell BK334.out 0).trans rfl
           have hcz66_1 : wc.cell? ⟨gb334, 1, none⟩ = some (.int .i64 ((rd_T40 l0_5 a1).f1)) := (blk_cell BK334.out 1).trans rfl
           have hcz66_2 : wc.cell? ⟨gb334, 2, none⟩ = some (.int .i64 ((rd_T40 l0_5 a1).f2)) := (blk_cell BK334.out 2).trans rfl
           have hcz66_3 : wc.cell? ⟨gb334, 3, none⟩ = some (.int .i64 ((rd_T40 l0_5 a1).f3.f0)) := (blk_cell BK334.out 3).trans rfl
           have hcz66_4 : wc.cell? ⟨gb334, 4, none⟩ = some (.int .i64 ((rd_T40 l0_5 a1).f3.f1)) := (blk_cell BK334.out 4).trans rfl
           have hfz66_0 := blk_frozen BK334.out 0
           have hfz66_1 := blk_frozen BK334.out 1
           have hfz66_2 := blk_frozen BK334.out 2
           have hfz66_3 := blk_frozen BK334.out 3
           have hfz66_4 := blk_frozen BK334.out 4
           go_wp2
           go_ret
           exact ⟨_, by first | rfl | (simp [errW_none, errW_some] <;> rfl) | (simp [*, errW_none, errW_some] <;> rfl), by (with_reducible repeat (first | apply Kd.R_alloc | apply Kd.R_drewN | apply Kd.R_drew)); exact HO_5.out, by repeat (first | (with_reducible first | exact HB.out | apply below_alloc | apply pw_below_drewN | apply below_drew1 | refine below_set ?_ GE329.out | refine below_set ?_ GE334.out) | exact HB.out)⟩
          ·rw [if_neg c64] at H
           have c64b0 : (((rd_T40 l0_5 a1).f3.f1) == ((rd_T40 l0_5 a1).f3.f0)) = false := beq_eq_false_iff_ne.mpr c64
           have c64b1 : (((rd_T40 l0_5 a1).f3.f1) != ((rd_T40 l0_5 a1).f3.f0)) = true := bne_iff_ne.mpr c64
           by_cases c67 : ((rd_T40 l0_5 a1).f3.f1) ≥ 0
           ·rw [if_pos c67] at H
            have c67b0 : decide (0 ≤ ((rd_T40 l0_5 a1).f3.f1)) = true := decide_eq_true c67
            clear c67
            by_cases c68 : ((rd_T40 l0_5 a1).f3.f1) < (l0_5.length : Int)
            ·rw [if_pos c68] at H
             have c68b0 : decide (((rd_T40 l0_5 a1).f3.f1) < (l0_5.length : Int)) = true := decide_eq_true c68
             clear c68
             by_cases c69 : y330.length < 17592186044416
             ·rw [if_pos c69] at H
              have LMc69 := Aside0.mk c69
              clear c69
              obtain ⟨y341, hy341⟩ : ∃ y_ : List Int, y_ = (y330 ++ [((rd_T40 l0_5 a1).f3.f1)]) := ⟨_, rfl⟩
              replace H : (some y341) = some r := by first | (rw [hy341]; with_reducible exact H) | (have H2_ := (Option.bind_some _ _).symm.trans H; rw [hy341]; with_reducible exact H2_) | (have H2_ := (Option.bind_some _ _).symm.trans H; with_reducible exact H2_) | with_reducible exact H | (rw [hy341]; exact H) | exact H
              have Ny341 := Aside0.mk hy341
              clear hy341
              obtain rfl := Option.some.inj H
              have hnb70 := NB334_329.out
              have hnc70 := NB329_334.out
              have hcz71_0 : wc.cell? ⟨gb334, 0, none⟩ = some (.slice A333_0 ((rd_T40 l0_5 a1).f0).length c333_0) := (blk_cell BK334.out 0).trans rfl
              have hcz71_1 : wc.cell? ⟨gb334, 1, none⟩ = some (.int .i64 ((rd_T40 l0_5 a1).f1)) := (blk_cell BK334.out 1).trans rfl
              have hcz71_2 : wc.cell? ⟨gb334, 2, none⟩ = some (.int .i64 ((rd_T40 l0_5 a1).f2)) := (blk_cell BK334.out 2).trans rfl
              have hcz71_3 : wc.cell? ⟨gb334, 3, none⟩ = some (.int .i64 ((rd_T40 l0_5 a1).f3.f0)) := (blk_cell BK334.out 3).trans rfl
              have hcz71_4 : wc.cell? ⟨gb334, 4, none⟩ = some (.int .i64 ((rd_T40 l0_5 a1).f3.f1)) := (blk_cell BK334.out 4).trans rfl
              have hfz71_0 := blk_frozen BK334.out 0
              have hfz71_1 := blk_frozen BK334.out 1
              have hfz71_2 := blk_frozen BK334.out 2
              have hfz71_3 := blk_frozen BK334.out 3
              have hfz71_4 := blk_frozen BK334.out 4
              have hcz72_0 : wc.cell? ⟨gb329, 0, none⟩ = some (.string a0_0) := (blk_cell BK329.out 0).trans rfl
              have hcz72_1 : wc.cell? ⟨gb329, 1, none⟩ = some (.slice A0_1 l0_1.length c0_1) := (blk_cell BK329.out 1).trans rfl
              have hcz72_2 : wc.cell? ⟨gb329, 2, none⟩ = some (.string a0_2) := (blk_cell BK329.out 2).trans rfl
              have hcz72_3 : wc.cell? ⟨gb329, 3, none⟩ = some (.slice A0_3 l0_3.length c0_3) := (blk_cell BK329.out 3).trans rfl
              have hcz72_4 : wc.cell? ⟨gb329, 4, none⟩ = some (.slice A0_4 l0_4.length c0_4) := (blk_cell BK329.out 4).trans rfl
              have hcz72_5 : wc.cell? ⟨gb329, 5, none⟩ = some (.slice (some ad333) l0_5.length c0_5) := (blk_cell BK329.out 5).trans rfl
              have hfz72_0 := blk_frozen BK329.out 0
              have hfz72_1 := blk_frozen BK329.out 1
              have hfz72_2 := blk_frozen BK329.out 2
              have hfz72_3 := blk_frozen BK329.out 3
              have hfz72_4 := blk_frozen BK329.out 4
              have hfz72_5 := blk_frozen BK329.out 5
              go_wp2_with (first | ((with_reducible refine gate_builtin (b := .append) (xs := #[.tmp 79, .tmp 83]) rfl ?_); (try (refine gate_guard (by rfl) ?_; dsimp only)); at_builtin; refine Kd.R_append (Kd.int .i64) (w0 := w) w.heap.size rfl (.tmp 79) (.tmp 83) 34 3 (.int .i64 0) 8 rfl Try.underlying34 info3 rfl (by decide) (by omega) v331 y330 ((rd_T40 l0_5 a1).f3.f1) [.int .i64 ((rd_T40 l0_5 a1).f3.f1)] (fun _ => True) (fun _ => False) rfl rfl ?aP (fun _ hk => hk.elim) ?aF ?aO ?aB ?aS ?aL ?_; (case aP => exact rfl); (case aB => exact (by repeat (first | (with_reducible first | exact HB.out | apply below_alloc | apply pw_below_drewN | apply below_drew1 | refine below_set ?_ GE329.out | refine below_set ?_ GE334.out) | exact HB.out))); (case aF => exact (fun _ _ => trivial)); (case aO => exact (by (with_reducible repeat (first | apply Kd.R_alloc | apply Kd.R_drewN | apply Kd.R_drew)); exact HO_5.out)); (case aS => exact (below_size (by repeat (first | (with_reducible first | exact HB.out | apply below_alloc | apply pw_below_drewN | apply below_drew1 | refine below_set ?_ GE329.out | refine below_set ?_ GE334.out) | exact HB.out)))); (case aL => have := LMc69.out; omega); intro v342 w73 ho hb hg hat; rw [← Ny341.out] at ho; have n0_ := Aside0.mk (blk_grown (g := gb329) (o := .cells #[.string a0_0, .slice A0_1 l0_1.length c0_1, .string a0_2, .slice A0_3 l0_3.length c0_3, .slice A0_4 l0_4.length c0_4, .slice (some ad333) l0_5.length c0_5] 26 (0, 0)) (by (with_reducible repeat (first | refine blk_drewN ?_ _ | refine blk_drew ?_ | refine blk_alloc ?_ _)); exact BK329.out) hg (Kd.R_ne HO_5.out BK329.out (by decide))); have n1_ := Aside0.mk (blk_grown (g := gb334) (o := .cells #[.slice A333_0 ((rd_T40 l0_5 a1).f0).length c333_0, .int .i64 ((rd_T40 l0_5 a1).f1), .int .i64 ((rd_T40 l0_5 a1).f2), .int .i64 ((rd_T40 l0_5 a1).f3.f0), .int .i64 ((rd_T40 l0_5 a1).f3.f1)] 40 (0, 0)) (by (with_reducible repeat (first | refine blk_drewN ?_ _ | refine blk_drew ?_ | refine blk_alloc ?_ _)); exact BK334.out) hg (Kd.R_ne HO_5.out BK334.out (by decide))); have n2_ := Aside0.mk (hb); have n3_ := Aside0.mk (ho); clear BK329; clear BK334; clear HB; clear HO_5; have BK329 := n0_; have BK334 := n1_; have HB := n2_; have HO343 := n3_; clear n0_ n1_ n2_ n3_; clear ho hb hg hat))
              go_ret
              exact ⟨_, by first | rfl | (simp [errW_none, errW_some] <;> rfl) | (simp [*, errW_none, errW_some] <;> rfl), by (with_reducible repeat (first | apply Kd.R_alloc | apply Kd.R_drewN | apply Kd.R_drew)); exact HO343.out, by repeat (first | (with_reducible first | exact HB.out | apply below_alloc | apply pw_below_drewN | apply below_drew1 | refine below_set ?_ GE329.out | refine below_set ?_ GE334.out) | exact HB.out)⟩
             ·rw [if_neg c69] at H
              exact absurd H (by simp)
            ·rw [if_neg c68] at H
             have c68b0 : decide (((rd_T40 l0_5 a1).f3.f1) < (l0_5.length : Int)) = false := decide_eq_false c68
             clear c68
             obtain rfl := Option.some.inj H
             have hnb74 := NB334_329.out
             have hnc74 := NB329_334.out
             have hcz75_0 : wc.cell? ⟨gb334, 0, none⟩ = some (.slice A333_0 ((rd_T40 l0_5 a1).f0).length c333_0) := (blk_cell BK334.out 0).trans rfl
             have hcz75_1 : wc.cell? ⟨gb334, 1, none⟩ = some (.int .i64 ((rd_T40 l0_5 a1).f1)) := (blk_cell BK334.out 1).trans rfl
             have hcz75_2 : wc.cell? ⟨gb334, 2, none⟩ = some (.int .i64 ((rd_T40 l0_5 a1).f2)) := (blk_cell BK334.out 2).trans rfl
             have hcz75_3 : wc.cell? ⟨gb334, 3, none⟩ = some (.int .i64 ((rd_T40 l0_5 a1).f3.f0)) := (blk_cell BK334.out 3).trans rfl
             have hcz75_4 : wc.cell? ⟨gb334, 4, none⟩ = some (.int .i64 ((rd_T40 l0_5 a1).f3.f1)) := (blk_cell BK334.out 4).trans rfl
             have hfz75_0 := blk_frozen BK334.out 0
             have hfz75_1 := blk_frozen BK334.out 1
             have hfz75_2 := blk_frozen BK334.out 2
             have hfz75_3 := blk_frozen BK334.out 3
             have hfz75_4 := blk_frozen BK334.out 4
             have hcz76_0 : wc.cell? ⟨gb329, 0, none⟩ = some (.string a0_0) := (blk_cell BK329.out 0).trans rfl
             have hcz76_1 : wc.cell? ⟨gb329, 1, none⟩ = some (.slice A0_1 l0_1.length c0_1) := (blk_cell BK329.out 1).trans rfl
             have hcz76_2 : wc.cell? ⟨gb329, 2, none⟩ = some (.string a0_2) := (blk_cell BK329.out 2).trans rfl
             have hcz76_3 : wc.cell? ⟨gb329, 3, none⟩ = some (.slice A0_3 l0_3.length c0_3) := (blk_cell BK329.out 3).trans rfl
             have hcz76_4 : wc.cell? ⟨gb329, 4, none⟩ = some (.slice A0_4 l0_4.length c0_4) := (blk_cell BK329.out 4).trans rfl
             have hcz76_5 : wc.cell? ⟨gb329, 5, none⟩ = some (.slice (some ad333) l0_5.length c0_5) := (blk_cell BK329.out 5).trans rfl
             have hfz76_0 := blk_frozen BK329.out 0
             have hfz76_1 := blk_frozen BK329.out 1
             have hfz76_2 := blk_frozen BK329.out 2
             have hfz76_3 := blk_frozen BK329.out 3
             have hfz76_4 := blk_frozen BK329.out 4
             have hfz76_5 := blk_frozen BK329.out 5
             go_wp2
             go_ret
             exact ⟨_, by first | rfl | (simp [errW_none, errW_some] <;> rfl) | (simp [*, errW_none, errW_some] <;> rfl), by (with_reducible repeat (first | apply Kd.R_alloc | apply Kd.R_drewN | apply Kd.R_drew)); exact HO_5.out, by repeat (first | (with_reducible first | exact HB.out | apply below_alloc | apply pw_below_drewN | apply below_drew1 | refine below_set ?_ GE329.out | refine below_set ?_ GE334.out) | exact HB.out)⟩
           ·rw [if_neg c67] at H
            have c67b0 : decide (0 ≤ ((rd_T40 l0_5 a1).f3.f1)) = false := decide_eq_false c67
            clear c67
            obtain rfl := Option.some.inj H
            have hnb77 := NB334_329.out
            have hnc77 := NB329_334.out
            have hcz78_0 : wc.cell? ⟨gb334, 0, none⟩ = some (.slice A333_0 ((rd_T40 l0_5 a1).f0).length c333_0) := (blk_cell BK334.out 0).trans rfl
            have hcz78_1 : wc.cell? ⟨gb334, 1, none⟩ = some (.int .i64 ((rd_T40 l0_5 a1).f1)) := (blk_cell BK334.out 1).trans rfl
            have hcz78_2 : wc.cell? ⟨gb334, 2, none⟩ = some (.int .i64 ((rd_T40 l0_5 a1).f2)) := (blk_cell BK334.out 2).trans rfl
            have hcz78_3 : wc.cell? ⟨gb334, 3, none⟩ = some (.int .i64 ((rd_T40 l0_5 a1).f3.f0)) := (blk_cell BK334.out 3).trans rfl
            have hcz78_4 : wc.cell? ⟨gb334, 4, none⟩ = some (.int .i64 ((rd_T40 l0_5 a1).f3.f1)) := (blk_cell BK334.out 4).trans rfl
            have hfz78_0 := blk_frozen BK334.out 0
            have hfz78_1 := blk_frozen BK334.out 1
            have hfz78_2 := blk_frozen BK334.out 2
            have hfz78_3 := blk_frozen BK334.out 3
            have hfz78_4 := blk_frozen BK334.out 4
            go_wp2
            go_ret
            exact ⟨_, by first | rfl | (simp [errW_none, errW_some] <;> rfl) | (simp [*, errW_none, errW_some] <;> rfl), by (with_reducible repeat (first | apply Kd.R_alloc | apply Kd.R_drewN | apply Kd.R_drew)); exact HO_5.out, by repeat (first | (with_reducible first | exact HB.out | apply below_alloc | apply pw_below_drewN | apply below_drew1 | refine below_set ?_ GE329.out | refine below_set ?_ GE334.out) | exact HB.out)⟩
         ·rw [if_neg c63] at H
          have c63b0 : (((rd_T40 l0_5 a1).f1) == 2) = false := beq_eq_false_iff_ne.mpr c63
          have c63b1 : (((rd_T40 l0_5 a1).f1) != 2) = true := bne_iff_ne.mpr c63
          obtain rfl := Option.some.inj H
          have hnb79 := NB334_329.out
          have hnc79 := NB329_334.out
          have hcz80_0 : wc.cell? ⟨gb334, 0, none⟩ = some (.slice A333_0 ((rd_T40 l0_5 a1).f0).length c333_0) := (blk_cell BK334.out 0).trans rfl
          have hcz80_1 : wc.cell? ⟨gb334, 1, none⟩ = some (.int .i64 ((rd_T40 l0_5 a1).f1)) := (blk_cell BK334.out 1).trans rfl
          have hcz80_2 : wc.cell? ⟨gb334, 2, none⟩ = some (.int .i64 ((rd_T40 l0_5 a1).f2)) := (blk_cell BK334.out 2).trans rfl
          have hcz80_3 : wc.cell? ⟨gb334, 3, none⟩ = some (.int .i64 ((rd_T40 l0_5 a1).f3.f0)) := (blk_cell BK334.out 3).trans rfl
          have hcz80_4 : wc.cell? ⟨gb334, 4, none⟩ = some (.int .i64 ((rd_T40 l0_5 a1).f3.f1)) := (blk_cell BK334.out 4).trans rfl
          have hfz80_0 := blk_frozen BK334.out 0
          have hfz80_1 := blk_frozen BK334.out 1
          have hfz80_2 := blk_frozen BK334.out 2
          have hfz80_3 := blk_frozen BK334.out 3
          have hfz80_4 := blk_frozen BK334.out 4
          go_wp2
          go_ret
          exact ⟨_, by first | rfl | (simp [errW_none, errW_some] <;> rfl) | (simp [*, errW_none, errW_some] <;> rfl), by (with_reducible repeat (first | apply Kd.R_alloc | apply Kd.R_drewN | apply Kd.R_drew)); exact HO_5.out, by repeat (first | (with_reducible first | exact HB.out | apply below_alloc | apply pw_below_drewN | apply below_drew1 | refine below_set ?_ GE329.out | refine below_set ?_ GE334.out) | exact HB.out)⟩
     ·rw [if_neg c11] at H
      exact absurd H (by simp)
    ·rw [if_neg c10] at H
     exact absurd H (by simp)

end Go.Proofs.Ytclhjalgflebfaa.Q

/- Small words on 'from some number of rounds on'. -/

namespace Go.Proofs.Ytclhjalgflebfaa.Q
open Go.RowKit Go.Proofs.YtclhjalgflebfaaW.PrintWords Go.Proofs.YtclhjalgflebfaaW.PrintLast Go.Proofs.YtclhjalgflebfaaW.PrintMore
set_option linter.unusedVariables false
set_option linter.unusedSimpArgs false
section
variable {α : Type}
theorem Ev.pos {c : Prop} [Decidable c] {A B : Nat → Option α} {r : α} (h : c) (k : Ev A r) : Ev (fun n => if c then A n else B n) r := Ev.congr (fun n => if_pos h) k
theorem Ev.neg {c : Prop} [Decidable c] {A B : Nat → Option α} {r : α} (h : ¬ c) (k : Ev B r) : Ev (fun n => if c then A n else B n) r := Ev.congr (fun n => if_neg h) k
theorem Ev.one {β : Type} {a : Option β} {b : β} {f : Nat → β → Option α} {r : α} (h : a = some b) (k : Ev (fun n => f n b) r) : Ev (fun n => a.bind (f n)) r := Ev.congr (fun n => by rw [h]; rfl) k
theorem Ev.eq {g : Nat → Option α} {r r' : α} (k : Ev g r) (h : r = r') : Ev g r' := h ▸ k
theorem Ev.det {g : Nat → Option α} {r r' : α} (k : Ev g r) (h : Ev g r') : r = r' := by
 obtain ⟨K, k⟩ := k
 obtain ⟨K', h⟩ := h
 have h1 := k (max K K') (by omega)
 have h2 := h (max K K') (by omega)
 rw [h1] at h2
 exact Option.some.inj h2
theorem Ev.at_ {g : Nat → Option α} {r r' : α} {k : Nat} (hg : ∀ k, LeO (g k) (g (k + 1))) (h : g k = some r) (h' : Ev g r') : r = r' := Ev.det (Ev.of hg h) h'
end
end Go.Proofs.Ytclhjalgflebfaa.Q

/- Flow, plain law: what the walk from a block on comes to. -/

namespace Go.Proofs.Ytclhjalgflebfaa.Q
open Go.RowKit Go.Proofs.YtclhjalgflebfaaW.PrintWords Go.Proofs.YtclhjalgflebfaaW.PrintLast Go.Proofs.YtclhjalgflebfaaW.PrintMore
set_option linter.unusedVariables false
set_option linter.unusedSimpArgs false
theorem jump_len (b : S40) : (jumpTo b).length ≤ 2 := by unfold jumpTo; split <;> (try split) <;> (try split) <;> simp
theorem next_len (l : List S40) (i : Int) : (nextOf l i).length ≤ 2 := by
 unfold nextOf
 split
 ·exact Nat.le_trans (List.length_filter_le _ _) (jump_len _)
 ·simp
theorem next_in {l : List S40} {i k : Int} (h : k ∈ nextOf l i) : 0 ≤ k ∧ k < (l.length : Int) := by
 unfold nextOf at h
 split at h
 ·have := (List.mem_filter.mp h).2
  simpa [inB] using this
 ·cases h
def hasR (s : List Bool) (x : Int) : Prop := 0 ≤ x ∧ x < (s.length : Int) ∧ rdOf false s x = true
theorem hasR_nat {s : List Bool} {x : Int} (h : hasR s x) : ∃ m : Nat, x = m ∧ m < s.length ∧ s.getD m false = true := ⟨x.toNat, by have := h.1; omega, by have := h.1; have := h.2.1; omega, h.2.2⟩
theorem rdOf_nat (s : List Bool) (m : Nat) : rdOf false s (m : Int) = s.getD m false := by unfold rdOf; rw [Int.toNat_natCast]
theorem hasR_set {s : List Bool} {b x : Int} (hb0 : 0 ≤ b) (hb1 : b < (s.length : Int)) : hasR (s.set b.toNat true) x ↔ hasR s x ∨ x = b := by
 unfold hasR rdOf
 rw [List.length_set]
 by_cases h0 : 0 ≤ x ∧ x < (s.length : Int)
 ·by_cases hx : x = b
  ·subst hx
   simp only [List.getD]
   rw [List.getElem?_set_self (by omega)]
   simp [h0]
  ·have : ¬ b.toNat = x.toNat := by omega
   simp only [List.getD, List.getElem?_set, if_neg this]
   simp [hx]
 ·constructor
  ·intro h; exact absurd ⟨h.1, h.2.1⟩ h0
  ·rintro (h | rfl)
   ·exact absurd ⟨h.1, h.2.1⟩ h0
   ·exact absurd ⟨hb0, hb1⟩ h0
def unseen (s : List Bool) : Nat := s.count false
theorem unseen_set : ∀ {s : List Bool} {m : Nat}, m < s.length → s.getD m false = false → unseen (s.set m true) + 1 = unseen s
 | [], m, h, _ => by simp at h
 | a :: s, 0, _, h2 => by
  have : a = false := by simpa using h2
  subst this
  simp [unseen]
 | a :: s, m + 1, h, h2 => by
  have := unseen_set (s := s) (m := m) (by simpa using h) (by simpa using h2)
  simp only [unseen, List.set_cons_succ, List.count_cons] at this ⊢
  omega
/-- What one walk adds: e; from what it began: xs. -/
structure Adds (l : List S40) (s s' : List Bool) (xs e : List Int) : Prop where
 len : s'.length = s.length
 mem : ∀ x, hasR s' x ↔ hasR s x ∨ x ∈ e
 new : ∀ x, x ∈ e → ¬ hasR s x
 nodup : e.Nodup
 count : unseen s' + e.length = unseen s
 goes : ∀ x, x ∈ e → ∀ y, y ∈ nextOf l x → hasR s' y
 starts : ∀ x, x ∈ xs → hasR s' x
 led : ∀ e1 x e2, e = e1 ++ x :: e2 → x ∈ xs ∨ ∃ p, p ∈ e2 ∧ x ∈ nextOf l p
theorem Adds.trans {l : List S40} {s s1 s2 : List Bool} {x : Int} {xs e1 e2 : List Int} (h : Adds l s s1 [x] e1) (k : Adds l s1 s2 xs e2) : Adds l s s2 (x :: xs) (e1 ++ e2) := by
 refine ⟨k.len.trans h.len, fun y => ?_, fun y hy => ?_, ?_, ?_, fun y hy z hz => ?_, fun y hy => ?_, fun f1 y f2 he => ?_⟩
 ·rw [k.mem, h.mem, List.mem_append, or_assoc]
 ·rcases List.mem_append.mp hy with hy | hy
  ·exact h.new y hy
  ·exact fun hs => k.new y hy ((h.mem y).mpr (.inl hs))
 ·rw [List.nodup_append]
  refine ⟨h.nodup, k.nodup, fun a ha b hb hab => ?_⟩
  subst hab
  exact k.new a hb ((h.mem a).mpr (.inr ha))
 ·have h1 := h.count; have h2 := k.count
  rw [List.length_append]
  omega
 ·rcases List.mem_append.mp hy with hy | hy
  ·exact (k.mem z).mpr (.inl (h.goes y hy z hz))
  ·exact k.goes y hy z hz
 ·rcases List.mem_cons.mp hy with rfl | hy
  ·exact (k.mem y).mpr (.inl (h.starts y (by simp)))
  ·exact k.starts y hy
 ·rcases List.append_eq_append_iff.mp he with ⟨g, rfl, h2⟩ | ⟨g, h1, h2⟩
  ·rcases k.led g y f2 h2 with hq | hq
   ·exact .inl (List.mem_cons_of_mem _ hq)
   ·exact .inr hq
  ·cases g with
   | nil =>
    rw [List.append_nil] at h1
    rcases k.led [] y f2 (by simpa using h2.symm) with hq | hq
    ·exact .inl (List.mem_cons_of_mem _ hq)
    ·exact .inr hq
   | cons z g =>
    simp only [List.cons_append, List.cons.injEq] at h2
    obtain ⟨rfl, rfl⟩ := h2
    rcases h.led f1 y g h1 with hq | ⟨p, hp, hq⟩
    ·left
     rw [List.mem_singleton] at hq
     subst hq
     exact List.mem_cons_self
    ·exact .inr ⟨p, List.mem_append_left _ hp, hq⟩
theorem Adds.none {l : List S40} {s : List Bool} {xs : List Int} (h : ∀ x, x ∈ xs → hasR s x) : Adds l s s xs [] :=
 ⟨rfl, fun x => (by simp), fun x hx => (by cases hx), List.nodup_nil, rfl, fun x hx => (by cases hx), h, fun e1 x e2 he => (by simp at he)⟩
theorem fold_adds (l : List S40) (k : Nat) (hk : ∀ (b : Int) (s : List Bool) (d : List Int), s.length = l.length → 0 ≤ b → b < (l.length : Int) → ¬ hasR s b → unseen s ≤ k → d.length + unseen s < LIMF → ∃ s' e, visitO l k b s d = some (s', d ++ e) ∧ Adds l s s' [b] e) :
  ∀ (xs : List Int) (s : List Bool) (d : List Int), s.length = l.length → (∀ x ∈ xs, 0 ≤ x ∧ x < (l.length : Int)) → unseen s ≤ k → d.length + unseen s < LIMF → ∃ s' e, xs.foldlM (stepO l k) (s, d) = some (s', d ++ e) ∧ Adds l s s' xs e
 | [], s, d, _, _, _, _ => ⟨s, [], by simp, Adds.none (fun x hx => by cases hx)⟩
 | x :: xs, s, d, hs, hx, hu, hd => by
  have hx0 := hx x List.mem_cons_self
  rw [List.foldlM_cons]
  unfold stepO
  rw [if_pos (by rw [hs]; exact hx0)]
  by_cases hr : rdOf false s x = true
  ·rw [if_pos hr]
   obtain ⟨s', e, h1, h2⟩ := fold_adds l k hk xs s d hs (fun y hy => hx y (List.mem_cons_of_mem _ hy)) hu hd
   refine ⟨s', e, h1, ?_⟩
   have := (Adds.none (l := l) (s := s) (xs := [x]) (fun y hy => by rw [List.mem_singleton] at hy; subst hy; exact ⟨hx0.1, by rw [hs]; exact hx0.2, hr⟩)).trans h2
   simpa using this
  ·rw [if_neg hr]
   obtain ⟨s1, e1, h1, h2⟩ := hk x s d hs hx0.1 hx0.2 (fun h => hr h.2.2) hu hd
   have hc := h2.count
   obtain ⟨s2, e2, h3, h4⟩ := fold_adds l k hk xs s1 (d ++ e1) (h2.len.trans hs) (fun y hy => hx y (List.mem_cons_of_mem _ hy)) (by omega) (by rw [List.length_append]; omega)
   refine ⟨s2, e1 ++ e2, ?_, h2.trans h4⟩
   rw [← List.append_assoc]
   show (visitO l k x s d).bind _ = _
   rw [h1]
   exact h3
theorem visit_adds (l : List S40) : ∀ (k : Nat) (b : Int) (s : List Bool) (d : List Int), s.length = l.length → 0 ≤ b → b < (l.length : Int) → ¬ hasR s b → unseen s ≤ k → d.length + unseen s < LIMF → ∃ s' e, visitO l k b s d = some (s', d ++ e) ∧ Adds l s s' [b] e ∧ ∃ e', e = e' ++ [b] ∧ ((nextOf l b).foldlM (stepO l (k - 1)) (s.set b.toNat true, d)) = some (s', d ++ e') ∧ Adds l (s.set b.toNat true) s' (nextOf l b) e'
 | 0, b, s, d, hs, h0, h1, hn, hu, hd => by
  have h2 : s.getD b.toNat false = false := by
   cases hq : s.getD b.toNat false with
   | false => rfl
   | true => exact absurd ⟨h0, by omega, hq⟩ hn
  have := unseen_set (s := s) (m := b.toNat) (by omega) h2
  omega
 | k + 1, b, s, d, hs, h0, h1, hn, hu, hd => by
  have h2 : s.getD b.toNat false = false := by
   cases hq : s.getD b.toNat false with
   | false => rfl
   | true => exact absurd ⟨h0, by omega, hq⟩ hn
  have hu2 := unseen_set (s := s) (m := b.toNat) (by omega) h2
  obtain ⟨s', e, h3, h4⟩ := fold_adds l k (fun b s d h1 h2 h3 h4 h5 h6 => by obtain ⟨s', e, q1, q2, _⟩ := visit_adds l k b s d h1 h2 h3 h4 h5 h6; exact ⟨s', e, q1, q2⟩) (nextOf l b) (s.set b.toNat true) d (by rw [List.length_set]; exact hs) (fun x hx => next_in hx) (by omega) (by omega)
  have hm := fun x => (hasR_set (s := s) (x := x) h0 (by omega : b < (s.length : Int)))
  have hc := h4.count
  refine ⟨s', e ++ [b], ?_, ⟨?_, fun x => ?_, fun x hx => ?_, ?_, ?_, fun x hx y hy => ?_, fun x hx => ?_, fun e1 x e2 he => ?_⟩, e, rfl, h3, h4⟩
  ·rw [visitO_succ, if_pos ⟨h0, by omega⟩, h3]
   simp only [Option.bind_some]
   rw [if_pos (by rw [List.length_append]; omega), List.append_assoc]
  ·rw [h4.len, List.length_set]
  ·rw [h4.mem, hm, List.mem_append, List.mem_singleton, or_assoc, or_comm (a := x = b)]
  ·rcases List.mem_append.mp hx with hx | hx
   ·exact fun h => h4.new x hx ((hm x).mpr (.inl h))
   ·rw [List.mem_singleton] at hx
    subst hx
    exact hn
  ·rw [List.nodup_append]
   refine ⟨h4.nodup, by simp, fun a ha c hc2 hac => ?_⟩
   rw [List.mem_singleton] at hc2
   subst hac hc2
   exact h4.new a ha ((hm a).mpr (.inr rfl))
  ·rw [List.length_append]
   simp only [List.length_singleton]
   omega
  ·rcases List.mem_append.mp hx with hx | hx
   ·exact h4.goes x hx y hy
   ·rw [List.mem_singleton] at hx
    subst hx
    exact h4.starts y hy
  ·rw [List.mem_singleton] at hx
   subst hx
   exact (h4.mem x).mpr (.inl ((hm x).mpr (.inr rfl)))
  ·rcases List.append_eq_append_iff.mp he with ⟨g, rfl, hg⟩ | ⟨g, h5, h6⟩
   ·cases g with
    | nil =>
     simp only [List.nil_append, List.cons.injEq] at hg
     exact .inl (by rw [hg.1]; simp)
    | cons z g => simp at hg
   ·cases g with
    | nil =>
     simp only [List.nil_append, List.cons.injEq] at h6
     exact .inl (by rw [← h6.1]; simp)
    | cons z g =>
     simp only [List.cons_append, List.cons.injEq] at h6
     obtain ⟨rfl, rfl⟩ := h6
     rcases h4.led e1 x g h5 with hq | ⟨p, hp, hq⟩
     ·exact .inr ⟨b, by simp, hq⟩
     ·exact .inr ⟨p, List.mem_append_left _ hp, hq⟩
end Go.Proofs.Ytclhjalgflebfaa.Q

