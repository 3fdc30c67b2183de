/- What the row of SccOrder rests on, part 0: contracts of the functions that it reaches, and the plain law. -/
import Derived.Test.YtclhjalgflebfaaProg
import Derived.Below
import Derived.Deep.Draws
import Derived.Deep.AppendLies
import Derived.Maps.AppendAt
import Derived.OwnWalk
import Derived.Laws.BytesArg
import Derived.Laws.MakeOwn
import Derived.Laws.OwnMore
import Derived.Deep.OwnRows
import Derived.Tactics
import Derived.Lib.ConvBytes
import Derived.Laws.Slices
import Derived.WalkKit
import Derived.KernelRfl
import Derived.RowKit3
import Derived.Deep.LoopGhost
import Derived.Deep.QuietTactic
import Derived.BigQuiet
import Derived.WideLaws
import Derived.Deep.DeepCutAuto
import Derived.Deep.CutBlock
import Derived.Deep.RegionHeld3
import Derived.Laws.Rows
import Derived.Lib.AppendStr
import Derived.ArgAppend
import Derived.Laws.IdiomCopy
import Derived.OrdersHeld
import Derived.Laws.BitsLemmas
import Derived.RowKit
import Derived.Test.YtclhjalgflebfaaWWords
import Derived.Test.YtclhjalgflebfaaWLast
import Derived.Test.YtclhjalgflebfaaWTab
import Derived.Test.YtclhjalgflebfaaWQPut
import Derived.Test.YtclhjalgflebfaaWApart
import Derived.Test.YtclhjalgflebfaaWArr
import Derived.Test.YtclhjalgflebfaaWZeros
import Derived.Test.YtclhjalgflebfaaWFoot
import Derived.Test.YtclhjalgflebfaaWKept
import Derived.Test.YtclhjalgflebfaaWShare
import Derived.Test.YtclhjalgflebfaaWN
import Derived.Test.YtclhjalgflebfaaWRepsOne
import Derived.Test.YtclhjalgflebfaaWInv
import Derived.Test.YtclhjalgflebfaaWGuard
import Derived.Test.YtclhjalgflebfaaWNEv
import Derived.Test.YtclhjalgflebfaaWMore
import Derived.Maps.OwnOps
import Derived.Maps.Views
import Derived.Maps.Keyed
import Derived.Shelf.Small.Bits
import Derived.Shelf.Strconv.Itoa0
import Derived.Shelf.Sort.Plain
import Derived.Shelf.Bits.Mul64
import Derived.Ground.Names2Prog
import Derived.Shelf.Slices.CompactI
import Derived.Shelf.Slices.In.SortNone
import Derived.Ground.SlgnProg
import Derived.Shelf.SlicesE.Reverse
import Derived.Shelf.SlicesE.Compact
import Derived.Shelf.SlicesE.Clone
import Derived.Ground.SlgfProg
import Derived.Shelf.SlicesE.IndexFunc
import Derived.Shelf.SlicesE.DeleteFunc
import Derived.Sort.OwnSortedInts
import Derived.Lib.SlicesCompact
import Derived.Maps.OwnSet
import Derived.Maps.RangeWalk
import Derived.ChangeKeysEq
import Derived.Deep.Slices
import Derived.SizedLaws
import Derived.OpenShut
import Derived.ProofKit
import Derived.ShutString
import Derived.ChangeOld
namespace Go.Proofs.Ytclhjalgflebfaa.Q
open Go.RowKit Go.Proofs.YtclhjalgflebfaaW.PrintWords Go.Proofs.YtclhjalgflebfaaW.PrintLast Go.Proofs.YtclhjalgflebfaaW.PrintMore
attribute [local go_sem] max2_int min2_int max_two min_two max_three min_three max_four min_four   -- for this text's walks alone
set_option linter.unusedVariables false
set_option linter.unusedSimpArgs false
def errW : Option Int → Value
 | none => .nilIface
 | some c => .iface 0 (.int .i64 c)
theorem errW_none : errW none = .nilIface := rfl
theorem errW_some (c : Int) : errW (some c) = .iface 0 (.int .i64 c) := rfl
theorem info3 : (Try.prog.info? 3).map (fun i => (i.zero, i.size, i.bytes)) = some (some (.int .i64 0), 1, 8) := by kernel_rfl
theorem info34 : (Try.prog.info? 34).map (fun i => (i.zero, i.size, i.bytes)) = some (some (.slice none 0 0), 1, 24) := by kernel_rfl
theorem info38 : (Try.prog.info? 38).map (fun i => (i.zero, i.size, i.bytes)) = some (some (.agg #[(.int .i64 0), (.int .i64 0)]), 2, 16) := by kernel_rfl
-- the values' own types
/-! #### struct type 152 -/
structure S152 where
 f0 : ByteArray
 f1 : ByteArray
def k152 : Kd S152 := Kd.iso (Kd.pair Kd.string Kd.string) (fun x : S152 => (x.f0, x.f1))
/-! #### struct type 150 -/
structure S150 where
 f0 : ByteArray
 f1 : (List S152)
def k150 : Kd S150 := Kd.iso (Kd.pair Kd.string (Kd.slice 152 k152)) (fun x : S150 => (x.f0, x.f1))
def rd_L6 (xs : List (List Int)) (i : Int) : (List Int) := xs.getD i.toNat ([] : List Int)
theorem at_L6 {w : World} {A : Option Addr} {n : Nat} {xs : List (List Int)} (h : Kd.C (Kd.slice 3 (Kd.int .i64)) w A n xs) (i : Int) (h0 : 0 ≤ i) (h1 : i < n) : ∃ ad A0 c0, A = some ad ∧ w.cell? (ad.add i.toNat) = some (.slice A0 (rd_L6 xs i).length c0) ∧ (rd_L6 xs i).length ≤ c0 ∧ (Kd.int .i64).C w A0 (rd_L6 xs i).length (rd_L6 xs i) := by
 obtain ⟨ad, c, e, _, hK, hc0⟩ := Kd.C_get h ([] : List Int) i h0 h1
 have hc : ∀ j u, c[j]? = some u → w.cell? (ad.add (i.toNat * 1 + j)) = some u := hc0
 obtain ⟨A0, c0, rfl, l0, g0⟩ := hK
 exact ⟨ad, A0, c0, e, by have hq := hc 0 _ rfl; rwa [Nat.mul_one, Nat.add_zero] at hq, l0, g0⟩
/-! #### struct type 58 -/
structure S58 where
 f0 : Int
 f1 : ByteArray
 f2 : (List Int)
 f3 : Int
 f4 : ByteArray
def z58 : S58 := ⟨(0 : Int), (⟨#[]⟩ : ByteArray), ([] : List Int), (0 : Int), (⟨#[]⟩ : ByteArray)⟩
def k58 : Kd S58 := Kd.iso (Kd.pair (Kd.int .i64) (Kd.pair Kd.string (Kd.pair (Kd.slice 3 (Kd.int .i64)) (Kd.pair (Kd.int .i64) Kd.string)))) (fun x : S58 => (x.f0, x.f1, x.f2, x.f3, x.f4))
theorem k58_open {w : World} {x : S58} {cs : List Value} (h : k58.K w x cs) : ∃ A2 c2, cs = [.int .i64 x.f0, .string x.f1, .slice A2 x.f2.length c2, .int .i64 x.f3, .string x.f4] ∧ x.f2.length ≤ c2 ∧ (Kd.int .i64).C w A2 x.f2.length x.f2 := by
 obtain ⟨_, _, rfl, rfl, ⟨_, _, rfl, rfl, ⟨_, _, rfl, ⟨A2, c2, rfl, l2, g2⟩, ⟨_, _, rfl, rfl, rfl⟩⟩⟩⟩ := h
 exact ⟨A2, c2, rfl, l2, g2⟩
theorem k58_mkM (w : World) (base : Nat) (ok : Nat → Prop) (x : S58) {v2 : Value} (g2 : (Kd.int .i64).R 3 w base ok v2 x.f2) : k58.M w base ok x [.int .i64 x.f0, .string x.f1, v2, .int .i64 x.f3, .string x.f4] := ⟨[.int .i64 x.f0], [.string x.f1, v2, .int .i64 x.f3, .string x.f4], rfl, rfl, ⟨[.string x.f1], [v2, .int .i64 x.f3, .string x.f4], rfl, rfl, ⟨[v2], [.int .i64 x.f3, .string x.f4], rfl, ⟨v2, rfl, g2⟩, ⟨[.int .i64 x.f3], [.string x.f4], rfl, rfl, rfl⟩⟩⟩⟩
def rd_T58 (xs : List S58) (i : Int) : S58 := xs.getD i.toNat z58
theorem at_T58 {w : World} {A : Option Addr} {n : Nat} {xs : List S58} (h : Kd.C k58 w A n xs) (i : Int) (h0 : 0 ≤ i) (h1 : i < n) : ∃ ad A2 c2, A = some ad ∧ w.cell? (ad.add (i.toNat * 5)) = some (.int .i64 (rd_T58 xs i).f0) ∧ w.cell? ⟨(ad.add (i.toNat * 5)).block, (ad.add (i.toNat * 5)).off + 1, none⟩ = some (.string (rd_T58 xs i).f1) ∧ w.cell? ⟨(ad.add (i.toNat * 5)).block, (ad.add (i.toNat * 5)).off + 2, none⟩ = some (.slice A2 (rd_T58 xs i).f2.length c2) ∧ w.cell? ⟨(ad.add (i.toNat * 5)).block, (ad.add (i.toNat * 5)).off + 3, none⟩ = some (.int .i64 (rd_T58 xs i).f3) ∧ w.cell? ⟨(ad.add (i.toNat * 5)).block, (ad.add (i.toNat * 5)).off + 4, none⟩ = some (.string (rd_T58 xs i).f4) ∧ (rd_T58 xs i).f2.length ≤ c2 ∧ (Kd.int .i64).C w A2 (rd_T58 xs i).f2.length (rd_T58 xs i).f2 := by
 obtain ⟨ad, c, e, _, hK, hc0⟩ := Kd.C_get h z58 i h0 h1
 have hc : ∀ j u, c[j]? = some u → w.cell? (ad.add (i.toNat * 5 + j)) = some u := hc0
 obtain ⟨A2, c2, rfl, l2, g2⟩ := k58_open hK
 exact ⟨ad, A2, c2, e, hc 0 _ rfl, by rw [← add_field _ _ 1 (by omega)]; exact hc 1 _ rfl, by rw [← add_field _ _ 2 (by omega)]; exact hc 2 _ rfl, by rw [← add_field _ _ 3 (by omega)]; exact hc 3 _ rfl, by rw [← add_field _ _ 4 (by omega)]; exact hc 4 _ rfl, l2, g2⟩
/-! #### struct type 38 -/
structure S38 where
 f0 : Int
 f1 : Int
def z38 : S38 := ⟨(0 : Int), (0 : Int)⟩
def k38 : Kd S38 := Kd.iso (Kd.pair (Kd.int .i64) (Kd.int .i64)) (fun x : S38 => (x.f0, x.f1))
theorem k38_open {w : World} {x : S38} {cs : List Value} (h : k38.K w x cs) : cs = [.int .i64 x.f0, .int .i64 x.f1] := by
 obtain ⟨_, _, rfl, rfl, rfl⟩ := h
 exact rfl
theorem k38_mkM (w : World) (base : Nat) (ok : Nat → Prop) (x : S38)  : k38.M w base ok x [.int .i64 x.f0, .int .i64 x.f1] := ⟨[.int .i64 x.f0], [.int .i64 x.f1], rfl, rfl, rfl⟩
def rd_T38 (xs : List S38) (i : Int) : S38 := xs.getD i.toNat z38
theorem at_T38 {w : World} {A : Option Addr} {n : Nat} {xs : List S38} (h : Kd.C k38 w A n xs) (i : Int) (h0 : 0 ≤ i) (h1 : i < n) : ∃ ad , A = some ad ∧ w.cell? (ad.add (i.toNat * 2)) = some (.int .i64 (rd_T38 xs i).f0) ∧ w.cell? ⟨(ad.add (i.toNat * 2)).block, (ad.add (i.toNat * 2)).off + 1, none⟩ = some (.int .i64 (rd_T38 xs i).f1) := by
 obtain ⟨ad, c, e, _, hK, hc0⟩ := Kd.C_get h z38 i h0 h1
 have hc : ∀ j u, c[j]? = some u → w.cell? (ad.add (i.toNat * 2 + j)) = some u := hc0
 obtain rfl := k38_open hK
 exact ⟨ad, e, hc 0 _ rfl, by rw [← add_field _ _ 1 (by omega)]; exact hc 1 _ rfl⟩
/-! #### struct type 40 -/
structure S40 where
 f0 : (List Int)
 f1 : Int
 f2 : Int
 f3 : S38
def z40 : S40 := ⟨([] : List Int), (0 : Int), (0 : Int), z38⟩
def k40 : Kd S40 := Kd.iso (Kd.pair (Kd.slice 3 (Kd.int .i64)) (Kd.pair (Kd.int .i64) (Kd.pair (Kd.int .i64) k38))) (fun x : S40 => (x.f0, x.f1, x.f2, x.f3))
theorem k40_open {w : World} {x : S40} {cs : List Value} (h : k40.K w x cs) : ∃ A0 c0, cs = [.slice A0 x.f0.length c0, .int .i64 x.f1, .int .i64 x.f2, .int .i64 x.f3.f0, .int .i64 x.f3.f1] ∧ x.f0.length ≤ c0 ∧ (Kd.int .i64).C w A0 x.f0.length x.f0 := by
 obtain ⟨_, _, rfl, ⟨A0, c0, rfl, l0, g0⟩, ⟨_, _, rfl, rfl, ⟨_, _, rfl, rfl, s3⟩⟩⟩ := h
 obtain rfl := k38_open s3
 exact ⟨A0, c0, rfl, l0, g0⟩
theorem k40_mkM (w : World) (base : Nat) (ok : Nat → Prop) (x : S40) {v0 : Value} (g0 : (Kd.int .i64).R 3 w base ok v0 x.f0) : k40.M w base ok x [v0, .int .i64 x.f1, .int .i64 x.f2, .int .i64 x.f3.f0, .int .i64 x.f3.f1] := ⟨[v0], [.int .i64 x.f1, .int .i64 x.f2, .int .i64 x.f3.f0, .int .i64 x.f3.f1], rfl, ⟨v0, rfl, g0⟩, ⟨[.int .i64 x.f1], [.int .i64 x.f2, .int .i64 x.f3.f0, .int .i64 x.f3.f1], rfl, rfl, ⟨[.int .i64 x.f2], [.int .i64 x.f3.f0, .int .i64 x.f3.f1], rfl, rfl, (k38_mkM w base ok x.f3 )⟩⟩⟩
def rd_T40 (xs : List S40) (i : Int) : S40 := xs.getD i.toNat z40
theorem at_T40 {w : World} {A : Option Addr} {n : Nat} {xs : List S40} (h : Kd.C k40 w A n xs) (i : Int) (h0 : 0 ≤ i) (h1 : i < n) : ∃ ad A0 c0, A = some ad ∧ w.cell? (ad.add (i.toNat * 5)) = some (.slice A0 (rd_T40 xs i).f0.length c0) ∧ w.cell? ⟨(ad.add (i.toNat * 5)).block, (ad.add (i.toNat * 5)).off + 1, none⟩ = some (.int .i64 (rd_T40 xs i).f1) ∧ w.cell? ⟨(ad.add (i.toNat * 5)).block, (ad.add (i.toNat * 5)).off + 2, none⟩ = some (.int .i64 (rd_T40 xs i).f2) ∧ w.cell? ⟨(ad.add (i.toNat * 5)).block, (ad.add (i.toNat * 5)).off + 3, none⟩ = some (.int .i64 (rd_T40 xs i).f3.f0) ∧ w.cell? ⟨(ad.add (i.toNat * 5)).block, (ad.add (i.toNat * 5)).off + 4, none⟩ = some (.int .i64 (rd_T40 xs i).f3.f1) ∧ (rd_T40 xs i).f0.length ≤ c0 ∧ (Kd.int .i64).C w A0 (rd_T40 xs i).f0.length (rd_T40 xs i).f0 := by
 obtain ⟨ad, c, e, _, hK, hc0⟩ := Kd.C_get h z40 i h0 h1
 have hc : ∀ j u, c[j]? = some u → w.cell? (ad.add (i.toNat * 5 + j)) = some u := hc0
 obtain ⟨A0, c0, rfl, l0, g0⟩ := k40_open hK
 exact ⟨ad, A0, c0, e, hc 0 _ rfl, by rw [← add_field _ _ 1 (by omega)]; exact hc 1 _ rfl, by rw [← add_field _ _ 2 (by omega)]; exact hc 2 _ rfl, by rw [← add_field _ _ 3 (by omega)]; exact hc 3 _ rfl, by rw [← add_field _ _ 4 (by omega)]; exact hc 4 _ rfl, l0, g0⟩
/-! #### struct type 26 -/
structure S26 where
 f0 : ByteArray
 f1 : (List ByteArray)
 f2 : ByteArray
 f3 : (List ByteArray)
 f4 : (List S58)
 f5 : (List S40)
def z26 : S26 := ⟨(⟨#[]⟩ : ByteArray), ([] : List ByteArray), (⟨#[]⟩ : ByteArray), ([] : List ByteArray), ([] : List S58), ([] : List S40)⟩
def k26 : Kd S26 := Kd.iso (Kd.pair Kd.string (Kd.pair (Kd.slice 9 Kd.string) (Kd.pair Kd.string (Kd.pair (Kd.slice 9 Kd.string) (Kd.pair (Kd.slice 58 k58) (Kd.slice 40 k40)))))) (fun x : S26 => (x.f0, x.f1, x.f2, x.f3, x.f4, x.f5))
theorem k26_open {w : World} {x : S26} {cs : List Value} (h : k26.K w x cs) : ∃ A1 c1 A3 c3 A4 c4 A5 c5, cs = [.string x.f0, .slice A1 x.f1.length c1, .string x.f2, .slice A3 x.f3.length c3, .slice A4 x.f4.length c4, .slice A5 x.f5.length c5] ∧ x.f1.length ≤ c1 ∧ Kd.string.C w A1 x.f1.length x.f1 ∧ x.f3.length ≤ c3 ∧ Kd.string.C w A3 x.f3.length x.f3 ∧ x.f4.length ≤ c4 ∧ k58.C w A4 x.f4.length x.f4 ∧ x.f5.length ≤ c5 ∧ k40.C w A5 x.f5.length x.f5 := by
 obtain ⟨_, _, rfl, rfl, ⟨_, _, rfl, ⟨A1, c1, rfl, l1, g1⟩, ⟨_, _, rfl, rfl, ⟨_, _, rfl, ⟨A3, c3, rfl, l3, g3⟩, ⟨_, _, rfl, ⟨A4, c4, rfl, l4, g4⟩, ⟨A5, c5, rfl, l5, g5⟩⟩⟩⟩⟩⟩ := h
 exact ⟨A1, c1, A3, c3, A4, c4, A5, c5, rfl, l1, g1, l3, g3, l4, g4, l5, g5⟩
theorem k26_mkM (w : World) (base : Nat) (ok : Nat → Prop) (x : S26) {v1 : Value} (g1 : Kd.string.R 9 w base ok v1 x.f1) {v3 : Value} (g3 : Kd.string.R 9 w base ok v3 x.f3) {v4 : Value} (g4 : k58.R 58 w base ok v4 x.f4) {v5 : Value} (g5 : k40.R 40 w base ok v5 x.f5) : k26.M w base ok x [.string x.f0, v1, .string x.f2, v3, v4, v5] := ⟨[.string x.f0], [v1, .string x.f2, v3, v4, v5], rfl, rfl, ⟨[v1], [.string x.f2, v3, v4, v5], rfl, ⟨v1, rfl, g1⟩, ⟨[.string x.f2], [v3, v4, v5], rfl, rfl, ⟨[v3], [v4, v5], rfl, ⟨v3, rfl, g3⟩, ⟨[v4], [v5], rfl, ⟨v4, rfl, g4⟩, ⟨v5, rfl, g5⟩⟩⟩⟩⟩⟩
def rd_T26 (xs : List S26) (i : Int) : S26 := xs.getD i.toNat z26
theorem at_T26 {w : World} {A : Option Addr} {n : Nat} {xs : List S26} (h : Kd.C k26 w A n xs) (i : Int) (h0 : 0 ≤ i) (h1 : i < n) : ∃ ad A1 c1 A3 c3 A4 c4 A5 c5, A = some ad ∧ w.cell? (ad.add (i.toNat * 6)) = some (.string (rd_T26 xs i).f0) ∧ w.cell? ⟨(ad.add (i.toNat * 6)).block, (ad.add (i.toNat * 6)).off + 1, none⟩ = some (.slice A1 (rd_T26 xs i).f1.length c1) ∧ w.cell? ⟨(ad.add (i.toNat * 6)).block, (ad.add (i.toNat * 6)).off + 2, none⟩ = some (.string (rd_T26 xs i).f2) ∧ w.cell? ⟨(ad.add (i.toNat * 6)).block, (ad.add (i.toNat * 6)).off + 3, none⟩ = some (.slice A3 (rd_T26 xs i).f3.length c3) ∧ w.cell? ⟨(ad.add (i.toNat * 6)).block, (ad.add (i.toNat * 6)).off + 4, none⟩ = some (.slice A4 (rd_T26 xs i).f4.length c4) ∧ w.cell? ⟨(ad.add (i.toNat * 6)).block, (ad.add (i.toNat * 6)).off + 5, none⟩ = some (.slice A5 (rd_T26 xs i).f5.length c5) ∧ (rd_T26 xs i).f1.length ≤ c1 ∧ Kd.string.C w A1 (rd_T26 xs i).f1.length (rd_T26 xs i).f1 ∧ (rd_T26 xs i).f3.length ≤ c3 ∧ Kd.string.C w A3 (rd_T26 xs i).f3.length (rd_T26 xs i).f3 ∧ (rd_T26 xs i).f4.length ≤ c4 ∧ k58.C w A4 (rd_T26 xs i).f4.length (rd_T26 xs i).f4 ∧ (rd_T26 xs i).f5.length ≤ c5 ∧ k40.C w A5 (rd_T26 xs i).f5.length (rd_T26 xs i).f5 := by
 obtain ⟨ad, c, e, _, hK, hc0⟩ := Kd.C_get h z26 i h0 h1
 have hc : ∀ j u, c[j]? = some u → w.cell? (ad.add (i.toNat * 6 + j)) = some u := hc0
 obtain ⟨A1, c1, A3, c3, A4, c4, A5, c5, rfl, l1, g1, l3, g3, l4, g4, l5, g5⟩ := k26_open hK
 exact ⟨ad, A1, c1, A3, c3, A4, c4, A5, c5, e, hc 0 _ rfl, by rw [← add_field _ _ 1 (by omega)]; exact hc 1 _ rfl, by rw [← add_field _ _ 2 (by omega)]; exact hc 2 _ rfl, by rw [← add_field _ _ 3 (by omega)]; exact hc 3 _ rfl, by rw [← add_field _ _ 4 (by omega)]; exact hc 4 _ rfl, by rw [← add_field _ _ 5 (by omega)]; exact hc 5 _ rfl, l1, g1, l3, g3, l4, g4, l5, g5⟩
/-! #### struct type 48 -/
structure S48 where
 f0 : (List S150)
 f1 : (List S152)
 f2 : (List S26)
def k48 : Kd S48 := Kd.iso (Kd.pair (Kd.slice 150 k150) (Kd.pair (Kd.slice 152 k152) (Kd.slice 26 k26))) (fun x : S48 => (x.f0, x.f1, x.f2))
theorem k48_open {w : World} {x : S48} {cs : List Value} (h : k48.K w x cs) : ∃ A0 c0 A1 c1 A2 c2, cs = [.slice A0 x.f0.length c0, .slice A1 x.f1.length c1, .slice A2 x.f2.length c2] ∧ x.f0.length ≤ c0 ∧ k150.C w A0 x.f0.length x.f0 ∧ x.f1.length ≤ c1 ∧ k152.C w A1 x.f1.length x.f1 ∧ x.f2.length ≤ c2 ∧ k26.C w A2 x.f2.length x.f2 := by
 obtain ⟨_, _, rfl, ⟨A0, c0, rfl, l0, g0⟩, ⟨_, _, rfl, ⟨A1, c1, rfl, l1, g1⟩, ⟨A2, c2, rfl, l2, g2⟩⟩⟩ := h
 exact ⟨A0, c0, A1, c1, A2, c2, rfl, l0, g0, l1, g1, l2, g2⟩
/-! ### slices_Index_int_int: function 75 -/
def slices_Index_int_int.l0 : Nat → List Int → Int → Int → Int → Option (Int)
 | 0, _, _, _, _ => none
 | k + 1, x0, x1, x7, x8 => if x8 < x7 then (if 0 ≤ x8 then (if x8 < (x0.length : Int) then (if x1 = (rd x0 x8) then (some x8) else (slices_Index_int_int.l0 k x0 x1 x7 (wrap64 (x8 + 1)))) else (none)) else (none)) else (some (-1))
def slices_Index_int_int.f (k : Nat) (l0 : List Int) (a1 : Int) : Option (Int) := slices_Index_int_int.l0 k l0 a1 (l0.length : Int) 0
theorem slices_Index_int_int.mono_l : ∀ k, (∀ y0 y1 y2 y3, LeO (slices_Index_int_int.l0 k y0 y1 y2 y3) (slices_Index_int_int.l0 (k + 1) y0 y1 y2 y3))
 | 0 => fun _ _ _ _ r h => by simp [slices_Index_int_int.l0] at h
 | k + 1 => by
  have ih0 := slices_Index_int_int.mono_l k
  ·intro y0 y1 y2 y3
   unfold slices_Index_int_int.l0
   repeat' first
   | (with_reducible exact ih0 _ _ _ _)
   | (with_reducible exact LeO.refl _)
   | (with_reducible exact LeO.none _)
   | (with_reducible refine LeO.ite ?_ ?_)
   | (with_reducible refine LeO.bind ?_ (fun _ => ?_))
   | exact ih0 _ _ _ _
   | exact LeO.none _
   | refine LeO.ite ?_ ?_
   | refine LeO.bind ?_ (fun _ => ?_)
theorem slices_Index_int_int.mono : ∀ a0 a1 k, LeO (slices_Index_int_int.f k a0 a1) (slices_Index_int_int.f (k + 1) a0 a1) := by
 intro a0 a1 k
 have ih0 := slices_Index_int_int.mono_l k
 unfold slices_Index_int_int.f
 repeat' first
   | (with_reducible exact ih0 _ _ _ _)
   | (with_reducible exact LeO.refl _)
   | (with_reducible exact LeO.none _)
   | (with_reducible refine LeO.ite ?_ ?_)
   | (with_reducible refine LeO.bind ?_ (fun _ => ?_))
   | exact ih0 _ _ _ _
   | exact LeO.none _
   | refine LeO.ite ?_ ?_
   | refine LeO.bind ?_ (fun _ => ?_)
set_option maxHeartbeats 8000000 in
set_option maxRecDepth 100000 in
theorem slices_Index_int_int.calls (k : Nat) (A0 : Option Addr) (c0 : Nat) (l0 : List Int) (a1 : Int) (r : Int) (w : World) (hr0 : Kd.C (Kd.int .i64) w A0 l0.length l0) (hc0 : l0.length ≤ c0) (h : slices_Index_int_int.f k l0 a1 = some r) :
  Calls Try.prog 75 #[.slice A0 l0.length c0, .int .i64 a1] w fun e w' => e = .returned (.int .i64 r) ∧ Drawn0 w w' := by
 have HR0 := Aside0.mk hr0
 have HC0 := Aside0.mk hc0
 clear hr0 hc0
 have H : (slices_Index_int_int.l0 k l0 a1 (l0.length : Int) 0) = some r := h
 clear h
 have H' := Aside0.mk H
 clear H
 go_enter Try.func75, Try.ntmps75
 go_wp2
 go_loopg [8] k (fun kq v8 w' => ∃ (x8_1 : Int), v8 = .int .i64 x8_1 ∧ Aside0 (slices_Index_int_int.l0 kq l0 a1 (l0.length : Int) x8_1 = some r) ∧ Aside0 (kq ≤ k) ∧ Drawn0 w w')
 case atStart => exact ⟨(0), (by first | rfl | (simp; done) | (simp [*]; done)), H', ⟨Nat.le_refl _⟩, by repeat (first | exact Drawn0.refl _ | apply Drawn0.step)⟩
 case round =>
  clear H'
  try clear p2
  obtain ⟨x8_1, rfl, HA, HK1, ⟨m1, rfl⟩⟩ := hrel
  cases gk with
  | zero => exact absurd HA.out (by simp [slices_Index_int_int.l0])
  | succ k1 =>
   have H := HA.out
   clear HA
   simp only [slices_Index_int_int.l0] at H
   by_cases c3 : x8_1 < (l0.length : Int)
   ·rw [if_pos c3] at H
    have c3b0 : decide (x8_1 < (l0.length : Int)) = true := decide_eq_true c3
    clear c3
    by_cases c4 : 0 ≤ x8_1
    ·rw [if_pos c4] at H
     have c4b0 : decide (0 ≤ x8_1) = true := decide_eq_true c4
     clear c4
     by_cases c5 : x8_1 < (l0.length : Int)
     ·rw [if_pos c5] at H
      have c5b0 : decide (x8_1 < (l0.length : Int)) = true := decide_eq_true c5
      clear c5
      by_cases c6 : a1 = (rd l0 x8_1)
      ·rw [if_pos c6] at H
       have c6b0 : (a1 == (rd l0 x8_1)) = true := beq_iff_eq.mpr c6
       have c6b1 : (a1 != (rd l0 x8_1)) = false := bne_eq_false_iff_eq.mpr c6
       clear c6
       obtain rfl := Option.some.inj H
       have p236 : 0 ≤ (x8_1 : Int) := of_decide_eq_true (by first | (with_reducible assumption) | assumption)
       have q236 : x8_1 < (l0.length : Int) := of_decide_eq_true (by first | (with_reducible assumption) | assumption)
       obtain ⟨ad236, e236, hx236_0⟩ := Kd.at_int HR0.out x8_1 p236 q236
       cases e236
       replace p236 := eq_true p236
       replace q236 := eq_true q236
       go_wp2
       go_ret
       exact ⟨by first | rfl | (simp; done) | (simp [*]; done), by repeat (first | exact Drawn0.refl _ | apply Drawn0.step)⟩
      ·rw [if_neg c6] at H
       have c6b0 : (a1 == (rd l0 x8_1)) = false := beq_eq_false_iff_ne.mpr c6
       have c6b1 : (a1 != (rd l0 x8_1)) = true := bne_iff_ne.mpr c6
       have H' := Aside0.mk H
       clear H
       have p236 : 0 ≤ (x8_1 : Int) := of_decide_eq_true (by first | (with_reducible assumption) | assumption)
       have q236 : x8_1 < (l0.length : Int) := of_decide_eq_true (by first | (with_reducible assumption) | assumption)
       obtain ⟨ad236, e236, hx236_0⟩ := Kd.at_int HR0.out x8_1 p236 q236
       cases e236
       replace p236 := eq_true p236
       replace q236 := eq_true q236
       go_wp2
       go_roundg k1
       case measure => have := HK1.out; omega
       case rel => exact ⟨(wrap64 (x8_1 + 1)), (by first | rfl | (simp; done) | (simp [*]; done)), H', ⟨by have := HK1.out; omega⟩, by repeat (first | exact Drawn0.refl _ | apply Drawn0.step)⟩
     ·rw [if_neg c5] at H
      exact absurd H (by simp)
    ·rw [if_neg c4] at H
     exact absurd H (by simp)
   ·rw [if_neg c3] at H
    have c3b0 : decide (x8_1 < (l0.length : Int)) = false := decide_eq_false c3
    clear c3
    obtain rfl := Option.some.inj H
    go_wp2
    go_ret
    exact ⟨by first | rfl | (simp; done) | (simp [*]; done), by repeat (first | exact Drawn0.refl _ | apply Drawn0.step)⟩
/-! ### slices_Contains_int_int: function 59 -/
def slices_Contains_int_int.f (k : Nat) (l0 : List Int) (a1 : Int) : Option (Bool) := (slices_Index_int_int.f k l0 a1).bind fun t237 => (some (decide (t237 ≥ 0)))
theorem slices_Contains_int_int.mono : ∀ a0 a1 k, LeO (slices_Contains_int_int.f k a0 a1) (slices_Contains_int_int.f (k + 1) a0 a1) := by
 intro a0 a1 k
 unfold slices_Contains_int_int.f
 repeat' first
   | (with_reducible exact slices_Index_int_int.mono _ _ _)
   | (with_reducible exact LeO.refl _)
   | (with_reducible exact LeO.none _)
   | (with_reducible refine LeO.ite ?_ ?_)
   | (with_reducible refine LeO.bind ?_ (fun _ => ?_))
   | exact slices_Index_int_int.mono _ _ _
   | exact LeO.none _
   | refine LeO.ite ?_ ?_
   | refine LeO.bind ?_ (fun _ => ?_)
set_option maxHeartbeats 8000000 in
set_option maxRecDepth 100000 in
theorem slices_Contains_int_int.calls (k : Nat) (A0 : Option Addr) (c0 : Nat) (l0 : List Int) (a1 : Int) (r : Bool) (w : World) (hr0 : Kd.C (Kd.int .i64) w A0 l0.length l0) (hc0 : l0.length ≤ c0) (h : slices_Contains_int_int.f k l0 a1 = some r) :
  Calls Try.prog 59 #[.slice A0 l0.length c0, .int .i64 a1] w fun e w' => e = .returned (.bool r) ∧ Drawn0 w w' := by
 have HR0 := Aside0.mk hr0
 have HC0 := Aside0.mk hc0
 clear hr0 hc0
 have H : ((slices_Index_int_int.f k l0 a1).bind fun t237 => (some (decide (t237 ≥ 0)))) = some r := h
 clear h
 replace H := Option.bind_eq_some_iff.mp H
 obtain ⟨t237, A30, H⟩ := H
 replace H : (some (decide (t237 ≥ 0))) = some r := H
 have A3 := Aside0.mk A30
 clear A30
 obtain rfl := Option.some.inj H
 go_enter Try.func59, Try.ntmps59
 go_wp2_with (first | ((with_reducible refine gate_callee (f := 75) rfl ?_); refine goesL_ (some 7) rfl rfl Try.func75 (by kernel_rfl) rfl #[.slice A0 l0.length c0, .int .i64 a1] rfl (by (try simp only [List.map_toArray, List.map_cons, List.map_nil]); first | done | rfl | (simp only [List.length_drop, List.length_take]; rfl)) ?_; (with_reducible refine (slices_Index_int_int.calls k _ _ l0 a1 t237 _ ?side1 ?side2 A3.out).mono ?_); (case side1 => repeat (first | exact HR0.out | (with_reducible refine Kd.C_alloc ?_ _) | (with_reducible refine Kd.C_drewN ?_ _) | (with_reducible refine Kd.C_drew ?_))); (case side2 => exact HC0.out); rintro e w' ⟨rfl, ⟨nd, rfl⟩⟩; refine ⟨_, rfl, ?_⟩))
 go_ret
 exact ⟨by first | rfl | (simp; done) | (simp [*]; done), by repeat (first | exact Drawn0.refl _ | apply Drawn0.step)⟩
/-! ### scc_is: function 57 -/
def scc_is.f (l0_0 : List (S150)) (l0_1 : List (S152)) (l0_2 : List (S26)) (a1 : Int) : Option (Bool) := if a1 ≥ 0 then (some (decide (a1 < (l0_2.length : Int)))) else (some false)
set_option maxHeartbeats 8000000 in
set_option maxRecDepth 100000 in
theorem scc_is.calls (A0_0 : Option Addr) (c0_0 : Nat) (l0_0 : List (S150)) (A0_1 : Option Addr) (c0_1 : Nat) (l0_1 : List (S152)) (A0_2 : Option Addr) (c0_2 : Nat) (l0_2 : List (S26)) (a1 : Int) (r : Bool) (w : World) (hr0_0 : Kd.C k150 w A0_0 l0_0.length l0_0) (hc0_0 : l0_0.length ≤ c0_0) (hr0_1 : Kd.C k152 w A0_1 l0_1.length l0_1) (hc0_1 : l0_1.length ≤ c0_1) (hr0_2 : Kd.C k26 w A0_2 l0_2.length l0_2) (hc0_2 : l0_2.length ≤ c0_2) (h : scc_is.f l0_0 l0_1 l0_2 a1 = some r) :
  Calls Try.prog 57 #[.agg #[.slice A0_0 l0_0.length c0_0, .slice A0_1 l0_1.length c0_1, .slice A0_2 l0_2.length c0_2], .int .i64 a1] w fun e w' => e = .returned (.bool r) ∧ Below w.heap.size w w' := by
 have hu48 := Try.underlying48
 have HR0_0 := Aside0.mk hr0_0
 have HC0_0 := Aside0.mk hc0_0
 clear hr0_0 hc0_0
 have HR0_1 := Aside0.mk hr0_1
 have HC0_1 := Aside0.mk hc0_1
 clear hr0_1 hc0_1
 have HR0_2 := Aside0.mk hr0_2
 have HC0_2 := Aside0.mk hc0_2
 clear hr0_2 hc0_2
 have HB := Aside0.mk (Below.refl w.heap.size w)
 have H : (if a1 ≥ 0 then (some (decide (a1 < (l0_2.length : Int)))) else (some false)) = some r := h
 clear h
 by_cases c3 : a1 ≥ 0
 ·rw [if_pos c3] at H
  have c3b0 : decide (0 ≤ a1) = true := decide_eq_true c3
  clear c3
  obtain rfl := Option.some.inj H
  go_enter Try.func57, Try.ntmps57
  go_wp2_with (first | ((with_reducible refine gate_dst (N := 2) rfl ?_); (try (refine gate_guard (by rfl) ?_; dsimp only)); refine box_event ?hg (N := 2) ?hd (cs := #[.slice A0_0 l0_0.length c0_0, .slice A0_1 l0_1.length c0_1, .slice A0_2 l0_2.length c0_2]) (t := 48) ?hr ?_; (case hd => rfl); (case hg => rfl); (case hr => first | (go_simp; done) | (go_simp; rfl)); intro gb235 hg w4 hbox hb; have n0_ := Aside0.mk (below_step (by repeat (first | (with_reducible first | exact HB.out | apply below_alloc | apply pw_below_drewN | apply below_drew1) | exact HB.out)) hb); have n1_ := Aside0.mk (hbox); have n2_ := Aside0.mk ((by rw [hg]; exact (below_size (by repeat (first | (with_reducible first | exact HB.out | apply below_alloc | apply pw_below_drewN | apply below_drew1) | exact HB.out))) : w.heap.size ≤ gb235)); have n3_ := Aside0.mk ((by rw [hg]; exact (below_size (by repeat (first | (with_reducible first | exact HB.out | apply below_alloc | apply pw_below_drewN | apply below_drew1) | exact HB.out))) : w.heap.size ≤ gb235)); clear HB; have HB := n0_; have BK235 := n1_; have GW235 := n2_; have GE235 := n3_; clear n0_ n1_ n2_ n3_; clear hb hbox hg; have hcz5_0 : w4.cell? ⟨gb235, 0, none⟩ = some (.slice A0_0 l0_0.length c0_0) := (blk_cell BK235.out 0).trans rfl; have hcz5_1 : w4.cell? ⟨gb235, 1, none⟩ = some (.slice A0_1 l0_1.length c0_1) := (blk_cell BK235.out 1).trans rfl; have hcz5_2 : w4.cell? ⟨gb235, 2, none⟩ = some (.slice A0_2 l0_2.length c0_2) := (blk_cell BK235.out 2).trans rfl; have hfz5_0 := blk_frozen BK235.out 0; have hfz5_1 := blk_frozen BK235.out 1; have hfz5_2 := blk_frozen BK235.out 2))
  go_ret
  exact ⟨by first | rfl | (simp [errW_none, errW_some] <;> rfl) | (simp [*, errW_none, errW_some] <;> rfl), by repeat (first | (with_reducible first | exact HB.out | apply below_alloc | apply pw_below_drewN | apply below_drew1 | refine below_set ?_ GE235.out) | exact HB.out)⟩
 ·rw [if_neg c3] at H
  have c3b0 : decide (0 ≤ a1) = false := decide_eq_false c3
  clear c3
  obtain rfl := Option.some.inj H
  go_enter Try.func57, Try.ntmps57
  go_wp2_with (first | ((with_reducible refine gate_dst (N := 2) rfl ?_); (try (refine gate_guard (by rfl) ?_; dsimp only)); refine box_event ?hg (N := 2) ?hd (cs := #[.slice A0_0 l0_0.length c0_0, .slice A0_1 l0_1.length c0_1, .slice A0_2 l0_2.length c0_2]) (t := 48) ?hr ?_; (case hd => rfl); (case hg => rfl); (case hr => first | (go_simp; done) | (go_simp; rfl)); intro gb235 hg w6 hbox hb; have n0_ := Aside0.mk (below_step (by repeat (first | (with_reducible first | exact HB.out | apply below_alloc | apply pw_below_drewN | apply below_drew1) | exact HB.out)) hb); have n1_ := Aside0.mk (hbox); have n2_ := Aside0.mk ((by rw [hg]; exact (below_size (by repeat (first | (with_reducible first | exact HB.out | apply below_alloc | apply pw_below_drewN | apply below_drew1) | exact HB.out))) : w.heap.size ≤ gb235)); have n3_ := Aside0.mk ((by rw [hg]; exact (below_size (by repeat (first | (with_reducible first | exact HB.out | apply below_alloc | apply pw_below_drewN | apply below_drew1) | exact HB.out))) : w.heap.size ≤ gb235)); clear HB; have HB := n0_; have BK235 := n1_; have GW235 := n2_; have GE235 := n3_; clear n0_ n1_ n2_ n3_; clear hb hbox hg))
  go_ret
  exact ⟨by first | rfl | (simp [errW_none, errW_some] <;> rfl) | (simp [*, errW_none, errW_some] <;> rfl), by repeat (first | (with_reducible first | exact HB.out | apply below_alloc | apply pw_below_drewN | apply below_drew1 | refine below_set ?_ GE235.out) | exact HB.out)⟩
end Go.Proofs.Ytclhjalgflebfaa.Q
/- Small lemmas that the hand-proved contracts of this seat use. -/
namespace Go.Proofs.Ytclhjalgflebfaa.Q
open Go.RowKit Go.Proofs.YtclhjalgflebfaaW.PrintWords Go.Proofs.YtclhjalgflebfaaW.PrintLast Go.Proofs.YtclhjalgflebfaaW.PrintMore
set_option linter.unusedVariables false
set_option linter.unusedSimpArgs false
theorem Drawn0.trans {w w1 w2 : World} (h : Drawn0 w w1) (k : Drawn0 w1 w2) : Drawn0 w w2 := by
 obtain ⟨n, rfl⟩ := k
 exact h.step n
theorem all_succ {P : Nat → Prop} {k : Nat} (h : ∀ i, i < k → P i) (hk : P k) : ∀ i, i < k + 1 → P i := fun i hi => by
 by_cases e : i = k
 ·subst e; exact hk
 ·exact h i (by omega)
theorem getD_at {α : Type} (l : List α) (z : α) {k : Nat} (hk : k < l.length) : l.getD k z = l[k] := by simp [List.getD, List.getElem?_eq_getElem hk]
theorem wrap_succ {i : Int} (h0 : 0 ≤ i) (h : i < 9223372036854775807) : wrap64 (i + 1) = i + 1 := by unfold wrap64; omega
/- shorter words for printed walks (short.py) -/
section
variable {w0 w w1 : World} {g : Nat} {t : TypeId}
theorem bk1 {v0 : Value} (h : w.heap[g]? = some (.cells #[v0] t (0, 0))) : w.cell? ⟨g, 0, none⟩ = some v0 ∧ w.frozen? ⟨g, 0, none⟩ = false :=
 ⟨(blk_cell h 0).trans rfl, blk_frozen h 0⟩
theorem bk2 {v0 v1 : Value} (h : w.heap[g]? = some (.cells #[v0, v1] t (0, 0))) : w.cell? ⟨g, 0, none⟩ = some v0 ∧ w.cell? ⟨g, 1, none⟩ = some v1 ∧ w.frozen? ⟨g, 0, none⟩ = false ∧ w.frozen? ⟨g, 1, none⟩ = false :=
 ⟨(blk_cell h 0).trans rfl, (blk_cell h 1).trans rfl, blk_frozen h 0, blk_frozen h 1⟩
theorem bk3 {v0 v1 v2 : Value} (h : w.heap[g]? = some (.cells #[v0, v1, v2] t (0, 0))) : w.cell? ⟨g, 0, none⟩ = some v0 ∧ w.cell? ⟨g, 1, none⟩ = some v1 ∧ w.cell? ⟨g, 2, none⟩ = some v2 ∧ w.frozen? ⟨g, 0, none⟩ = false ∧ w.frozen? ⟨g, 1, none⟩ = false ∧ w.frozen? ⟨g, 2, none⟩ = false :=
 ⟨(blk_cell h 0).trans rfl, (blk_cell h 1).trans rfl, (blk_cell h 2).trans rfl, blk_frozen h 0, blk_frozen h 1, blk_frozen h 2⟩
theorem bk5 {v0 v1 v2 v3 v4 : Value} (h : w.heap[g]? = some (.cells #[v0, v1, v2, v3, v4] t (0, 0))) : w.cell? ⟨g, 0, none⟩ = some v0 ∧ w.cell? ⟨g, 1, none⟩ = some v1 ∧ w.cell? ⟨g, 2, none⟩ = some v2 ∧ w.cell? ⟨g, 3, none⟩ = some v3 ∧ w.cell? ⟨g, 4, none⟩ = some v4 ∧ w.frozen? ⟨g, 0, none⟩ = false ∧ w.frozen? ⟨g, 1, none⟩ = false ∧ w.frozen? ⟨g, 2, none⟩ = false ∧ w.frozen? ⟨g, 3, none⟩ = false ∧ w.frozen? ⟨g, 4, none⟩ = false :=
 ⟨(blk_cell h 0).trans rfl, (blk_cell h 1).trans rfl, (blk_cell h 2).trans rfl, (blk_cell h 3).trans rfl, (blk_cell h 4).trans rfl, blk_frozen h 0, blk_frozen h 1, blk_frozen h 2, blk_frozen h 3, blk_frozen h 4⟩
theorem bk6 {v0 v1 v2 v3 v4 v5 : Value} (h : w.heap[g]? = some (.cells #[v0, v1, v2, v3, v4, v5] t (0, 0))) : w.cell? ⟨g, 0, none⟩ = some v0 ∧ w.cell? ⟨g, 1, none⟩ = some v1 ∧ w.cell? ⟨g, 2, none⟩ = some v2 ∧ w.cell? ⟨g, 3, none⟩ = some v3 ∧ w.cell? ⟨g, 4, none⟩ = some v4 ∧ w.cell? ⟨g, 5, none⟩ = some v5 ∧ w.frozen? ⟨g, 0, none⟩ = false ∧ w.frozen? ⟨g, 1, none⟩ = false ∧ w.frozen? ⟨g, 2, none⟩ = false ∧ w.frozen? ⟨g, 3, none⟩ = false ∧ w.frozen? ⟨g, 4, none⟩ = false ∧ w.frozen? ⟨g, 5, none⟩ = false :=
 ⟨(blk_cell h 0).trans rfl, (blk_cell h 1).trans rfl, (blk_cell h 2).trans rfl, (blk_cell h 3).trans rfl, (blk_cell h 4).trans rfl, (blk_cell h 5).trans rfl, blk_frozen h 0, blk_frozen h 1, blk_frozen h 2, blk_frozen h 3, blk_frozen h 4, blk_frozen h 5⟩
theorem blkB {o : Obj} (h : w0.heap[g]? = some o) (hb : Below w.heap.size w w1) (e : w0.heap[g]? = some o → w.heap[g]? = some o := by intro h_; (with_reducible repeat (first | refine blk_drewN ?_ _ | refine blk_drew ?_ | refine blk_alloc ?_ _)); exact h_) : w1.heap[g]? = some o := blk_below (e h) hb
theorem blkG {o : Obj} {row : Option Nat} (h : w0.heap[g]? = some o) (hg : w.grownBy w1 row) (hne : some g ≠ row) (e : w0.heap[g]? = some o → w.heap[g]? = some o := by intro h_; (with_reducible repeat (first | refine blk_drewN ?_ _ | refine blk_drew ?_ | refine blk_alloc ?_ _)); exact h_) : w1.heap[g]? = some o := blk_grown (e h) hg hne
end
/-- a times true, then b times false -/
abbrev tf (a b : Nat) : Array Bool := (List.replicate a true ++ List.replicate b false).toArray
end Go.Proofs.Ytclhjalgflebfaa.Q
/- A map to bools as a set of keys: laws for the walk; and small words on rows. -/
namespace Go.Proofs.Ytclhjalgflebfaa.Q
open Go.RowKit Go.Proofs.YtclhjalgflebfaaW.PrintWords Go.Proofs.YtclhjalgflebfaaW.PrintLast Go.Proofs.YtclhjalgflebfaaW.PrintMore
set_option linter.unusedVariables false
set_option linter.unusedSimpArgs false
open Go.Maps (Keyed)
section
variable {P : Program} {k e t : TypeId} {w w1 : World} {b : Nat} {S : List Lit}
end
theorem at_scalar {α : Type} {enc : α → Value} {h1 : ∀ x, (enc x).oneCell' = true} {w : World} {A : Option Addr} {n : Nat} {xs : List α} (h : Kd.C (Kd.scalar enc h1) w A n xs) (z : α) (k : Nat) (hk : k < n) : ∃ ad, A = some ad ∧ w.cell? (ad.add k) = some (enc (xs.getD k z)) := by
 obtain ⟨e1, e2, h⟩ := h
 obtain ⟨ad, ea, h⟩ := h (by omega)
 have hl : k < xs.length := by omega
 obtain ⟨c, hc, hK, hcell⟩ := h k _ (List.getElem?_eq_getElem hl)
 refine ⟨ad, ea, ?_⟩
 have hK' : c = [enc xs[k]] := hK
 subst hK'
 have := hcell 0 _ rfl
 have e : k * (Kd.scalar enc h1).sz + 0 = k := by show k * 1 + 0 = k; omega
 rw [e] at this
 rw [this, getD_at xs z hl]
theorem at_int {q : IntKind} {w : World} {A : Option Addr} {n : Nat} {xs : List Int} (h : Kd.C (Kd.int q) w A n xs) (k : Nat) (hk : k < n) : ∃ ad, A = some ad ∧ w.cell? (ad.add k) = some (.int q (xs.getD k 0)) := at_scalar (enc := Value.int q) h _ k hk
/-- What a stack holds behind a pop. -/
theorem cut_stack {α : Type} {d : Kd α} {P : Program} {t e : TypeId} {w : World} {base : Nat} {ok : Nat → Prop} {A : Option Addr} {n c : Nat} {xs : List α} (ht : P.underlying t = some (.slice e)) (hi : (P.info? e).map (·.size) = some d.sz)
  (h : d.R e w base ok (.slice A n c) xs) (hn : n = xs.length) (hc : n ≤ c) (hp : 0 < n) : (∀ W : World, (Instr.slice t (.slice A n c) none (some (.int .i64 ((n : Int) - 1))) none).run P W = .ok (.slice A (n - 1) c) W) ∧ d.R e w base ok (.slice A (n - 1) c) (xs.take (n - 1)) := by
 obtain ⟨i, hi, hs⟩ := Option.map_eq_some_iff.1 hi
 have h1 := cut_to (P := P) t e .i64 ht hi A n c ((n : Int) - 1) (by omega) (by omega) hc
 have e1 : ((n : Int) - 1).toNat = n - 1 := by omega
 rw [e1] at h1
 exact ⟨h1, Kd.R_take h (by omega)⟩
end Go.Proofs.Ytclhjalgflebfaa.Q
-- (laid by the kit's lay-shelf and lay-plain at this seat's dump)
/- The library's contracts at this program. -/
namespace Go.Proofs
open Go.Shelf
def Try.lays189_ren : Go.Shelf.Ren := ⟨fun | 189 => 55 | 125 => 74 | 257 => 73 | 128 => 90 | 129 => 91 | 294 => 81 | 295 => 82 | 296 => 83 | 297 => 84 | 298 => 85 | 299 => 86 | 216 => 87 | 300 => 88 | 301 => 89 | 328 => 93 | 329 => 94 | 330 => 95 | 331 => 96 | 332 => 97 | 215 => 98 | 343 => 99 | n => n, fun | 28 => 34 | 3 => 3 | 46 => 43 | 0 => 0 | 51 => 110 | 53 => 113 | 4 => 4 | 183 => 118 | 182 => 117 | 131 => 75 | 5 => 5 | 9 => 9 | 218 => 126 | 222 => 130 | 228 => 132 | 229 => 133 | n => n, fun | n => n⟩
theorem Try.lays189 : Go.Proofs.Lays.n189 Try.prog Try.lays189_ren := {
 mixed := by kernel_rfl
 f125 := Try.func74.trans (congrArg some (by kernel_rfl))
 f128 := Try.func90.trans (congrArg some (by kernel_rfl))
 f129 := Try.func91.trans (congrArg some (by kernel_rfl))
 f189 := Try.func55.trans (congrArg some (by kernel_rfl))
 f215 := Try.func98.trans (congrArg some (by kernel_rfl))
 f216 := Try.func87.trans (congrArg some (by kernel_rfl))
 f257 := Try.func73.trans (congrArg some (by kernel_rfl))
 f294 := Try.func81.trans (congrArg some (by kernel_rfl))
 f295 := Try.func82.trans (congrArg some (by kernel_rfl))
 f296 := Try.func83.trans (congrArg some (by kernel_rfl))
 f297 := Try.func84.trans (congrArg some (by kernel_rfl))
 f298 := Try.func85.trans (congrArg some (by kernel_rfl))
 f299 := Try.func86.trans (congrArg some (by kernel_rfl))
 f300 := Try.func88.trans (congrArg some (by kernel_rfl))
 f301 := Try.func89.trans (congrArg some (by kernel_rfl))
 f328 := Try.func93.trans (congrArg some (by kernel_rfl))
 f329 := Try.func94.trans (congrArg some (by kernel_rfl))
 f330 := Try.func95.trans (congrArg some (by kernel_rfl))
 f331 := Try.func96.trans (congrArg some (by kernel_rfl))
 f332 := Try.func97.trans (congrArg some (by kernel_rfl))
 f343 := Try.func99.trans (congrArg some (by kernel_rfl))
 t0 := Try.underlying0
 a0 := Try.isAgg0
 z0 := Try.sizeOf0
 v0 := Try.zeroValue0
 t3 := Try.underlying3
 a3 := Try.isAgg3
 z3 := Try.sizeOf3
 v3 := Try.zeroValue3
 t4 := Try.underlying4
 a4 := Try.isAgg4
 z4 := Try.sizeOf4
 v4 := Try.zeroValue4
 t5 := Try.underlying5
 a5 := Try.isAgg5
 z5 := Try.sizeOf5
 v5 := Try.zeroValue5
 t9 := Try.underlying9
 a9 := Try.isAgg9
 z9 := Try.sizeOf9
 v9 := Try.zeroValue9
 t28 := Try.underlying34
 a28 := Try.isAgg34
 z28 := Try.sizeOf34
 v28 := Try.zeroValue34
 t46 := Try.underlying43
 a46 := Try.isAgg43
 z46 := Try.sizeOf43
 v46 := Try.zeroValue43
 t51 := Try.underlying110
 a51 := Try.isAgg110
 z51 := Try.sizeOf110
 v51 := Try.zeroValue110
 t53 := Try.underlying113
 a53 := Try.isAgg113
 z53 := Try.sizeOf113
 v53 := Try.zeroValue113
 t131 := Try.underlying75
 a131 := Try.isAgg75
 z131 := Try.sizeOf75
 v131 := Try.zeroValue75
 t182 := Try.underlying117
 a182 := Try.isAgg117
 z182 := Try.sizeOf117
 v182 := Try.zeroValue117
 t183 := Try.underlying118
 a183 := Try.isAgg118
 z183 := Try.sizeOf118
 v183 := Try.zeroValue118
 t218 := Try.underlying126
 a218 := Try.isAgg126
 z218 := Try.sizeOf126
 v218 := Try.zeroValue126
 t222 := Try.underlying130
 a222 := Try.isAgg130
 z222 := Try.sizeOf130
 v222 := Try.zeroValue130
 t228 := Try.underlying132
 a228 := Try.isAgg132
 z228 := Try.sizeOf132
 v228 := Try.zeroValue132
 t229 := Try.underlying133
 a229 := Try.isAgg133
 z229 := Try.sizeOf133
 v229 := Try.zeroValue133 }
open Go.Sort Go.RowKit in
theorem Try.slices_Sort_int (blk off cap : Nat) (zs : List Int) (w : World) (hH : Holds (Value.int .i64) w blk off zs.toArray) (hblk : blk < w.heap.size) (hsz : zs.length < 4611686018427387904) :
  Calls Try.prog 55 #[.slice (some ⟨blk, off, none⟩) zs.length cap] w fun e w' =>
   e = .returned (.tuple #[]) ∧ ∃ n os, w' = grow (putRow (Value.int .i64) (Sort.ahead w n) blk off (zs.mergeSort fun x y => decide (x ≤ y)).toArray) os := Any.slices_Sort_int Try.lays189 blk off cap zs w hH hblk hsz
def Try.laysNm220_ren : Go.Shelf.Ren := ⟨fun | 20 => 50 | n => n, fun | 22 => 34 | 3 => 3 | 4 => 4 | 0 => 0 | n => n, fun | n => n⟩
theorem Try.laysNm220 : Go.Proofs.Lays2.n20 Try.prog Try.laysNm220_ren := {
 mixed := by kernel_rfl
 f20 := Try.func50.trans (congrArg some (by kernel_rfl))
 t0 := Try.underlying0
 a0 := Try.isAgg0
 z0 := Try.sizeOf0
 v0 := Try.zeroValue0
 t3 := Try.underlying3
 a3 := Try.isAgg3
 z3 := Try.sizeOf3
 v3 := Try.zeroValue3
 t4 := Try.underlying4
 a4 := Try.isAgg4
 z4 := Try.sizeOf4
 v4 := Try.zeroValue4
 t22 := Try.underlying34
 a22 := Try.isAgg34
 z22 := Try.sizeOf34
 v22 := Try.zeroValue34
 i3 := by kernel_rfl }
open Go.RowKit Go.Lib Go.Sort in
theorem Try.slices_Compact_int (blk off cap : Nat) (zs : List Int) (w : World) (hH : Holds (Value.int .i64) w blk off zs.toArray) (hsz : zs.length ≤ 9223372036854775807) (hcap : zs.length ≤ cap) :
  Calls Try.prog 50 #[.slice (some ⟨blk, off, none⟩) zs.length cap] w fun e w' => e = .returned (.slice (some ⟨blk, off, none⟩) (Lib.compact zs).length cap) ∧ ∃ q, w' = putRow (Value.int .i64) (Sort.ahead w q) blk off (Lib.compact zs ++ List.replicate (zs.length - (Lib.compact zs).length) 0).toArray := Any.slices_Compact_int Try.laysNm220 blk off cap zs w hH hsz hcap
open Go.RowKit Go.Lib Go.Sort in
theorem Try.slices_Compact_int_empty (a : Option Addr) (cap : Nat) (w : World) :
  Calls Try.prog 50 #[.slice a 0 cap] w fun e w' => e = .returned (.slice a 0 cap) ∧ w' = w := Any.slices_Compact_int_empty Try.laysNm220 a cap w
open Go.RowKit Go.Sort in
theorem Try.slices_Sort_int_none (p : Option Addr) (cap : Nat) (w : World) :
  Calls Try.prog 55 #[.slice p 0 cap] w fun e w' => e = .returned (.tuple #[]) ∧ w' = w := Any.slices_Sort_int_none Try.lays189 p cap w
end Go.Proofs
/- Rows of ints of one's own under the library's Sort, Compact, DeleteFunc: the shelf's contracts in the words of the printed walks. -/
namespace Go.Proofs.Ytclhjalgflebfaa.Q
open Go.RowKit Go.Proofs.YtclhjalgflebfaaW.PrintWords Go.Proofs.YtclhjalgflebfaaW.PrintLast Go.Proofs.YtclhjalgflebfaaW.PrintMore
set_option linter.unusedVariables false
set_option linter.unusedSimpArgs false
open Go.Sort Go.Shelf Go.Lib
section
variable {e base : Nat} {ok : Nat → Prop} {w : World} {v : Value} {xs : List Int}
theorem grow_none (W : World) : grow W #[] = W := by simp [grow]
theorem int_row (h : (Kd.int .i64).R e w base ok v xs) : (v = .slice none 0 0 ∧ xs = []) ∨ ∃ g c, v = .slice (some ⟨g, 0, none⟩) xs.length c ∧ xs.length ≤ c ∧ c ≤ maxLen ∧ Holds (Value.int .i64) w g 0 xs.toArray ∧ g < w.heap.size ∧ base ≤ g ∧
  ∀ (q : Nat) (os : Array Obj) (ts : List Int), ts.length = xs.length → (Kd.int .i64).R e (grow (putRow (Value.int .i64) (Sort.ahead w q) g 0 ts.toArray) os) base ok (.slice (some ⟨g, 0, none⟩) xs.length c) ts ∧ w.grownBy (grow (putRow (Value.int .i64) (Sort.ahead w q) g 0 ts.toArray) os) (some g) := by
 have ho := Kd.own_of_R h
 rcases ho.2 with ⟨h1, h2⟩ | ⟨g, cap, cur, rfl, hbase, hb, h1, h2, h3, h4⟩
 ·left
  have hl := (Kd.R_own h).choose_spec.1
  refine ⟨h1, ?_⟩
  rw [h1] at h
  obtain ⟨hn, _⟩ := Kd.R_reads' h
  exact List.eq_nil_of_length_eq_zero hn.symm
 ·right
  refine ⟨g, cap, rfl, h1, h2, holds_of_blockI hb (by simpa [encs] using h4), (Array.getElem?_eq_some_iff.1 hb).1, hbase, fun q os ts hl => ⟨?_, grownBy_sortedI _⟩⟩
  have hs := ownsRow_sortedI (n := q) (os := os) (ts := ts) (ss := xs) hl hbase hb h1 h2 h3
  exact Kd.R_of_own (by rw [hl]; exact hs) (fun k hk => h.1 k hk)
end
theorem grown_self (w : World) (row : Option Nat) : w.grownBy w row := ⟨rfl, rfl, rfl, Nat.le_refl _, fun _ _ _ => rfl⟩
theorem compact_le (xs : List Int) : (Lib.compact xs).length ≤ xs.length := by
 unfold Lib.compact Lib.compactUpTo
 rw [List.length_map]
 refine Nat.le_trans (List.length_filter_le _ _) ?_
 simp
theorem sort_R {base : Nat} {ok : Nat → Prop} {w : World} {v : Value} {xs : List Int} (h : (Kd.int .i64).R 3 w base ok v xs) (hsz : xs.length < 4611686018427387904) :
  Calls Try.prog 55 #[v] w fun e w' => e = .returned (.tuple #[]) ∧ (Kd.int .i64).R 3 w' base ok v (xs.mergeSort fun x y => decide (x ≤ y)) ∧ w.grownBy w' v.ownBlock := by
 rcases int_row h with ⟨rfl, rfl⟩ | ⟨g, c, rfl, h1, h2, h3, h4, h5, h6⟩
 ·refine (Try.slices_Sort_int_none none 0 w).mono ?_
  rintro e w' ⟨rfl, rfl⟩
  exact ⟨rfl, by rw [List.mergeSort_nil]; exact Kd.R_nil _ _ _ _ _, grown_self _ _⟩
 ·refine (Try.slices_Sort_int g 0 c xs w h3 h4 hsz).mono ?_
  rintro e w' ⟨rfl, n, os, rfl⟩
  obtain ⟨q1, q2⟩ := h6 n os (xs.mergeSort fun x y => decide (x ≤ y)) (List.length_mergeSort _)
  exact ⟨rfl, q1, q2⟩
theorem compact_R {base : Nat} {ok : Nat → Prop} {w : World} {v : Value} {xs : List Int} (h : (Kd.int .i64).R 3 w base ok v xs) :
  Calls Try.prog 50 #[v] w fun e w' => ∃ v', e = .returned v' ∧ (Kd.int .i64).R 3 w' base ok v' (Lib.compact xs) ∧ w.grownBy w' v.ownBlock ∧ v'.ownBlock = v.ownBlock := by
 rcases int_row h with ⟨rfl, rfl⟩ | ⟨g, c, rfl, h1, h2, h3, h4, h5, h6⟩
 ·refine (Try.slices_Compact_int_empty none 0 w).mono ?_
  rintro e w' ⟨rfl, rfl⟩
  exact ⟨_, rfl, Kd.R_nil _ _ _ _ _, grown_self _ _, rfl⟩
 ·refine (Try.slices_Compact_int g 0 c xs w h3 (by unfold maxLen at h2; omega) h1).mono ?_
  rintro e w' ⟨rfl, q, rfl⟩
  have hc := compact_le xs
  obtain ⟨q1, q2⟩ := h6 q #[] (Lib.compact xs ++ List.replicate (xs.length - (Lib.compact xs).length) 0) (by simp; omega)
  rw [grow_none] at q1 q2
  have q3 := Kd.R_take (m := (Lib.compact xs).length) q1 (by simp)
  rw [List.take_left'  rfl] at q3
  exact ⟨_, rfl, q3, q2, rfl⟩
end Go.Proofs.Ytclhjalgflebfaa.Q
/- Ascending rows: what Sort and Compact leave, as a function that the kernel can reckon. -/
namespace Go.Proofs.Ytclhjalgflebfaa.Q
open Go.RowKit Go.Proofs.YtclhjalgflebfaaW.PrintWords Go.Proofs.YtclhjalgflebfaaW.PrintLast Go.Proofs.YtclhjalgflebfaaW.PrintMore
set_option linter.unusedVariables false
set_option linter.unusedSimpArgs false
/-- Those below n of whom p holds, in order. -/
def ascTo (p : Nat → Bool) : Nat → List Int
 | 0 => []
 | k + 1 => if p k = true then ascTo p k ++ [(k : Int)] else ascTo p k
theorem asc_mem (p : Nat → Bool) : ∀ n x, x ∈ ascTo p n ↔ 0 ≤ x ∧ x < (n : Int) ∧ p x.toNat = true
 | 0, x => by
  constructor
  ·intro h; cases h
  ·intro h; omega
 | n + 1, x => by
  unfold ascTo
  split
  ·rename_i hp
   rw [List.mem_append, List.mem_singleton, asc_mem p n]
   constructor
   ·rintro (h | rfl)
    ·exact ⟨h.1, by omega, h.2.2⟩
    ·exact ⟨by omega, by omega, by rw [Int.toNat_natCast]; exact hp⟩
   ·rintro ⟨h0, h1, h2⟩
    by_cases e : x = (n : Int)
    ·exact .inr e
    ·exact .inl ⟨h0, by omega, h2⟩
  ·rename_i hp
   rw [asc_mem p n]
   constructor
   ·rintro h; exact ⟨h.1, by omega, h.2.2⟩
   ·rintro ⟨h0, h1, h2⟩
    by_cases e : x = (n : Int)
    ·rw [e, Int.toNat_natCast] at h2; exact absurd h2 hp
    ·exact ⟨h0, by omega, h2⟩
theorem asc_up (p : Nat → Bool) : ∀ n, (ascTo p n).Pairwise (· < ·)
 | 0 => List.Pairwise.nil
 | n + 1 => by
  unfold ascTo
  split
  ·refine List.pairwise_append.mpr ⟨asc_up p n, List.pairwise_singleton _ _, fun y hy z hz => ?_⟩
   rw [List.mem_singleton] at hz; subst hz
   exact ((asc_mem p n y).mp hy).2.1
  ·exact asc_up p n
theorem asc_len (p : Nat → Bool) : ∀ n, (ascTo p n).length ≤ n
 | 0 => Nat.le_refl _
 | n + 1 => by unfold ascTo; have := asc_len p n; split <;> simp <;> omega
/-- Two rows in order with the same elements are the same. -/
theorem asc_eq : ∀ {a b : List Int}, a.Pairwise (· < ·) → b.Pairwise (· < ·) → (∀ x, x ∈ a ↔ x ∈ b) → a = b
 | [], [], _, _, _ => rfl
 | [], y :: b, _, _, h => absurd ((h y).mpr List.mem_cons_self) (by simp)
 | x :: a, [], _, _, h => absurd ((h x).mp List.mem_cons_self) (by simp)
 | x :: a, y :: b, h1, h2, h => by
  rw [List.pairwise_cons] at h1 h2
  have e : x = y := by
   have q1 := (h x).mp List.mem_cons_self
   have q2 := (h y).mpr List.mem_cons_self
   rcases List.mem_cons.mp q1 with q1 | q1
   ·exact q1
   ·rcases List.mem_cons.mp q2 with q2 | q2
    ·exact q2.symm
    ·have := h1.1 y q2; have := h2.1 x q1; omega
  subst e
  congr 1
  refine asc_eq h1.2 h2.2 (fun z => ?_)
  have := h z
  rw [List.mem_cons, List.mem_cons] at this
  constructor
  ·intro hz
   rcases this.mp (.inr hz) with e | e
   ·have := h1.1 z hz; omega
   ·exact e
  ·intro hz
   rcases this.mpr (.inr hz) with e | e
   ·have := h2.1 z hz; omega
   ·exact e
theorem compact_upto (xs : List Int) (hs : ∀ i j, i ≤ j → j < xs.length → xs.getD i 0 ≤ xs.getD j 0) : ∀ m, m ≤ xs.length → (Lib.compactUpTo xs.toArray m).Pairwise (· < ·) ∧ (∀ y ∈ Lib.compactUpTo xs.toArray m, ∃ j, j < m ∧ y = xs.getD j 0) ∧ (∀ j, j < m → xs.getD j 0 ∈ Lib.compactUpTo xs.toArray m)
 | 0, _ => ⟨by simp [Lib.compactUpTo], fun y hy => by simp [Lib.compactUpTo] at hy, fun j hj => by omega⟩
 | m + 1, hm => by
  obtain ⟨h1, h2, h3⟩ := compact_upto xs hs m (by omega)
  have em : xs.toArray[m]! = xs.getD m 0 := by rw [getD_at _ _ (by omega)]; simp [show m < xs.length by omega]
  rw [Lib.compactUpTo_succ, em]
  by_cases hk : Lib.keeps xs.toArray m = true
  ·rw [if_pos hk]
   refine ⟨List.pairwise_append.mpr ⟨h1, List.pairwise_singleton _ _, fun y hy z hz => ?_⟩, fun y hy => ?_, fun j hj => ?_⟩
   ·rw [List.mem_singleton] at hz; subst hz
    obtain ⟨j, hj, rfl⟩ := h2 y hy
    have em1 : xs.toArray[m - 1]! = xs.getD (m - 1) 0 := by rw [getD_at _ _ (by omega)]; simp [show m - 1 < xs.length by omega]
    unfold Lib.keeps at hk
    have hk2 := (of_decide_eq_true hk).resolve_left (by omega)
    rw [em, em1] at hk2
    have := hs j (m - 1) (by omega) (by omega)
    have := hs (m - 1) m (by omega) (by omega)
    omega
   ·rcases List.mem_append.mp hy with hy | hy
    ·obtain ⟨j, hj, e⟩ := h2 y hy; exact ⟨j, by omega, e⟩
    ·rw [List.mem_singleton] at hy; exact ⟨m, by omega, hy⟩
   ·by_cases e : j = m
    ·subst e; simp
    ·exact List.mem_append_left _ (h3 j (by omega))
  ·have hk' : Lib.keeps xs.toArray m = false := by simpa using hk
   rw [if_neg hk, List.append_nil]
   unfold Lib.keeps at hk'
   have hk2 := of_decide_eq_false hk'
   have hm0 : m ≠ 0 := fun e => hk2 (.inl e)
   have em1 : xs.toArray[m - 1]! = xs.getD (m - 1) 0 := by rw [getD_at _ _ (by omega)]; simp [show m - 1 < xs.length by omega]
   have e : xs.getD m 0 = xs.getD (m - 1) 0 := by
    rw [← em, ← em1]
    exact Classical.byContradiction (fun q => hk2 (.inr q))
   refine ⟨h1, fun y hy => ?_, fun j hj => ?_⟩
   ·obtain ⟨j, hj, e⟩ := h2 y hy; exact ⟨j, by omega, e⟩
   ·by_cases ej : j = m
    ·subst ej; rw [e]; exact h3 (j - 1) (by omega)
    ·exact h3 j (by omega)
theorem sort_le (L : List Int) : (L.mergeSort fun x y => decide (x ≤ y)).Pairwise (· ≤ ·) := by
 have h := List.pairwise_mergeSort (le := fun x y : Int => decide (x ≤ y)) (fun a b c h1 h2 => by simp at h1 h2 ⊢; omega) (fun a b => by simp; omega) L
 exact h.imp (fun h => by simpa using h)
theorem sort_mono (L : List Int) : ∀ i j, i ≤ j → j < (L.mergeSort fun x y => decide (x ≤ y)).length → (L.mergeSort fun x y => decide (x ≤ y)).getD i 0 ≤ (L.mergeSort fun x y => decide (x ≤ y)).getD j 0 := fun i j hij hj => by
 by_cases e : i = j
 ·subst e; exact Int.le_refl _
 ·rw [getD_at _ _ (by omega), getD_at _ _ hj]
  exact List.pairwise_iff_getElem.mp (sort_le L) i j (by omega) hj (by omega)
def sortC (l : List Int) : List Int := Go.Lib.compact (l.mergeSort fun x y => decide (x ≤ y))
def insU (x : Int) : List Int → List Int
 | [] => [x]
 | y :: r => if x < y then x :: y :: r else if x = y then y :: r else y :: insU x r
/-- A row in order, each once. -/
def upI (l : List Int) : List Int := l.foldr insU []
theorem insU_mem (x z : Int) : ∀ r, z ∈ insU x r ↔ z = x ∨ z ∈ r
 | [] => by simp [insU]
 | y :: r => by
  unfold insU
  split
  ·simp
  ·split
   ·rename_i e; subst e; simp
   ·rw [List.mem_cons, insU_mem x z r, List.mem_cons]
    exact ⟨fun h => h.elim (fun h => .inr (.inl h)) (fun h => h.imp id .inr), fun h => h.elim (fun h => .inr (.inl h)) (fun h => h.imp id .inr)⟩
theorem insU_up (x : Int) : ∀ {r : List Int}, r.Pairwise (· < ·) → (insU x r).Pairwise (· < ·)
 | [], _ => List.pairwise_singleton _ _
 | y :: r, h => by
  obtain ⟨h1, h2⟩ := List.pairwise_cons.mp h
  unfold insU
  split
  ·rename_i e
   refine List.pairwise_cons.mpr ⟨fun z hz => ?_, h⟩
   rcases List.mem_cons.mp hz with hz | hz
   ·rw [hz]; exact e
   ·have := h1 z hz; omega
  ·split
   ·exact h
   ·refine List.pairwise_cons.mpr ⟨fun z hz => ?_, insU_up x h2⟩
    rcases (insU_mem x z r).mp hz with hz | hz
    ·omega
    ·exact h1 z hz
theorem upI_mem (z : Int) : ∀ l, z ∈ upI l ↔ z ∈ l
 | [] => Iff.rfl
 | x :: l => by
  show z ∈ insU x (upI l) ↔ _
  rw [insU_mem, upI_mem z l, List.mem_cons]
theorem upI_up : ∀ l, (upI l).Pairwise (· < ·)
 | [] => List.Pairwise.nil
 | x :: l => insU_up x (upI_up l)
theorem up_eq {a b : List Int} (ha : a.Pairwise (· < ·)) (h : ∀ x, x ∈ a ↔ x ∈ b) : a = upI b := asc_eq ha (upI_up b) (fun x => (h x).trans (upI_mem x b).symm)
theorem insU_le (x : Int) : ∀ r, (insU x r).length ≤ r.length + 1
 | [] => Nat.le_refl _
 | y :: r => by
  unfold insU
  split
  ·simp
  ·split
   ·simp
   ·have := insU_le x r; simp only [List.length_cons]; omega
theorem upI_le : ∀ l, (upI l).length ≤ l.length
 | [] => Nat.le_refl _
 | x :: l => by have h1 := insU_le x (upI l); have := upI_le l; show (insU x (upI l)).length ≤ l.length + 1; omega
/-- Sorted, and without what stands there twice. -/
theorem sortC_is (L : List Int) : sortC L = upI L := by
 obtain ⟨S, hS⟩ : ∃ S, S = L.mergeSort fun x y => decide (x ≤ y) := ⟨_, rfl⟩
 have hm := sort_mono L
 rw [← hS] at hm
 obtain ⟨h1, h2, h3⟩ := compact_upto S hm S.length (Nat.le_refl _)
 have e : sortC L = Lib.compactUpTo S.toArray S.length := by unfold sortC Lib.compact; rw [hS]
 rw [e]
 refine up_eq h1 (fun x => ?_)
 have hmem : x ∈ S ↔ x ∈ L := by rw [hS]; exact List.mem_mergeSort
 rw [← hmem]
 constructor
 ·intro hx
  obtain ⟨j, hj, rfl⟩ := h2 x hx
  rw [getD_at _ _ hj]
  exact List.getElem_mem hj
 ·intro hx
  obtain ⟨j, hj, rfl⟩ := List.mem_iff_getElem.mp hx
  rw [← getD_at S 0 hj]
  exact h3 j hj
/-- Sorted, where nothing stands twice. -/
theorem sort_is {L : List Int} (h : L.Nodup) : (L.mergeSort fun x y => decide (x ≤ y)) = upI L := by
 have hn : (L.mergeSort fun x y => decide (x ≤ y)).Nodup := (List.mergeSort_perm L _).nodup_iff.mpr h
 refine up_eq ?_ (fun x => List.mem_mergeSort)
 have h1 := (sort_le L).and hn
 exact h1.imp (fun h => by omega)
def LIMS : Nat := 1000000
def inR (n : Nat) (i : Int) : Bool := decide (0 ≤ i) && decide (i < (n : Int))
theorem inR_iff {n : Nat} {i : Int} : inR n i = true ↔ 0 ≤ i ∧ i < (n : Int) := by unfold inR; simp
/-- Whether a place is a call of one of n functions. -/
def callAt (n : Nat) (l : List S58) (i : Int) : Bool := decide (0 ≤ i) && (decide (i < (l.length : Int)) && (decide ((rd_T58 l i).f0 = 31) && inR n (rd_T58 l i).f3))
def rawL (n : Nat) (ins : List S58) (bs : List S40) : List Int := (bs.map (fun b => b.f0.filter (callAt n ins))).flatten
def listedN (bs : List S40) : Nat := (bs.map (fun b => b.f0.length)).sum
theorem raw_len (n : Nat) (ins : List S58) : ∀ bs, (rawL n ins bs).length ≤ listedN bs
 | [] => Nat.le_refl _
 | b :: bs => by
  have h1 := raw_len n ins bs
  have h2 := List.length_filter_le (callAt n ins) b.f0
  simp only [rawL, listedN, List.map_cons, List.flatten_cons, List.sum_cons, List.length_append] at h1 ⊢
  omega
theorem raw_snoc (n : Nat) (ins : List S58) (bs : List S40) (b : S40) : rawL n ins (bs ++ [b]) = rawL n ins bs ++ b.f0.filter (callAt n ins) := by simp [rawL]
theorem listedN_take (bs : List S40) (i : Nat) : listedN (bs.take i) ≤ listedN bs := by
 have h : listedN bs = listedN (bs.take i) + listedN (bs.drop i) := by
  unfold listedN
  conv => lhs; rw [← List.take_append_drop i bs, List.map_append, List.sum_append]
 omega
theorem raw_in {n : Nat} {ins : List S58} {bs : List S40} {x : Int} (h : x ∈ rawL n ins bs) : 0 ≤ x ∧ x < (ins.length : Int) := by
 unfold rawL at h
 obtain ⟨l, hl, hx⟩ := List.mem_flatten.mp h
 obtain ⟨b, _, rfl⟩ := List.mem_map.mp hl
 have := (List.mem_filter.mp hx).2
 unfold callAt at this
 simp only [Bool.and_eq_true, decide_eq_true_eq] at this
 exact ⟨this.1, this.2.1⟩
def pairAt (l : List S58) (i : Int) : S38 := ⟨i, (rd_T58 l i).f3⟩
def okF (f : S26) : Bool := decide (listedN f.f5 ≤ LIMS)
def scc_Places.f (l0_0 : List (S150)) (l0_1 : List (S152)) (l0_2 : List (S26)) (a1 : Int) : Option ((List (S38))) :=
 if inR l0_2.length a1 = true then (if okF (rd_T26 l0_2 a1) = true then some ((upI (rawL l0_2.length (rd_T26 l0_2 a1).f4 (rd_T26 l0_2 a1).f5)).map (pairAt (rd_T26 l0_2 a1).f4)) else none) else some []
theorem is_f (l0_0 : List (S150)) (l0_1 : List (S152)) (l0_2 : List (S26)) (a1 : Int) : scc_is.f l0_0 l0_1 l0_2 a1 = some (inR l0_2.length a1) := by
 unfold scc_is.f inR
 by_cases h : a1 ≥ 0
 ·rw [if_pos h, decide_eq_true (show 0 ≤ a1 from h)]; rfl
 ·rw [if_neg h, decide_eq_false (show ¬ 0 ≤ a1 from h)]; rfl
/-- A program in memory. -/
structure PAt (w : World) (A0 : Option Addr) (c0 : Nat) (l0 : List S150) (A1 : Option Addr) (c1 : Nat) (l1 : List S152) (A2 : Option Addr) (c2 : Nat) (l2 : List S26) : Prop where
 r0 : Kd.C k150 w A0 l0.length l0
 h0 : l0.length ≤ c0
 r1 : Kd.C k152 w A1 l1.length l1
 h1 : l1.length ≤ c1
 r2 : Kd.C k26 w A2 l2.length l2
 h2 : l2.length ≤ c2
section
variable {w w1 : World} {A0 A1 A2 : Option Addr} {c0 c1 c2 : Nat} {l0 : List S150} {l1 : List S152} {l2 : List S26}
theorem PAt.below (h : PAt w A0 c0 l0 A1 c1 l1 A2 c2 l2) (hb : Below w.heap.size w w1) : PAt w1 A0 c0 l0 A1 c1 l1 A2 c2 l2 := ⟨Kd.C_below h.r0 hb, h.h0, Kd.C_below h.r1 hb, h.h1, Kd.C_below h.r2 hb, h.h2⟩
theorem is_at (h : PAt w A0 c0 l0 A1 c1 l1 A2 c2 l2) (a1 : Int) (r : Bool) (hr : inR l2.length a1 = r) :
  Calls Try.prog 57 #[.agg #[.slice A0 l0.length c0, .slice A1 l1.length c1, .slice A2 l2.length c2], .int .i64 a1] w fun e w' => e = .returned (.bool r) ∧ Below w.heap.size w w' :=
 scc_is.calls A0 c0 l0 A1 c1 l1 A2 c2 l2 a1 r w h.r0 h.h0 h.r1 h.h1 h.r2 h.h2 (by rw [is_f, hr])
end
def places_at.T11 : Bool × List (List Nat × List Nat) := (true, [([], []), ([0], [0]), ([1], [1]), ([2], [2]), ([2], [2]), ([4, 2], [2, 4]), ([5, 2], [2, 5]), ([3, 6, 2], [2, 3, 6]), ([2, 7], [2, 7]), ([8, 2], [8]), ([9], [9]), ([10, 9], [9, 10]), ([9], [9]), ([11, 12, 9], [9, 11, 12]), ([13, 9], [9, 13]), ([14, 9], [9, 14]), ([15, 9], [9, 15]), ([9, 16], [9, 16]), ([17, 9], [17]), ([18], [18]), ([18], [18]), ([20, 18], [18, 20]), ([18], [18]), ([21, 22, 18], [18, 21, 22]), ([23, 18], [18, 23]), ([24, 18], [18, 24]), ([19, 25, 18, 18], [18, 19, 25]), ([18, 26], [18, 26])])
def places_at.B11 : List Nat := [0, 1, 3, 7, 7, 23, 55, 127, 255, 511, 1023, 2047, 1023, 8191, 16383, 32767, 65535, 131071, 262143, 524287, 524287, 1572863, 524287, 7864319, 16252927, 33030143, 67108863, 134217727]
theorem places_at.tab11 : rtab .any (opsOf Try.f29 11) = places_at.T11 := by kernel_rfl
theorem places_at.bits11 : waitsOk places_at.T11.2 places_at.B11 = true := by kernel_rfl
set_option maxRecDepth 100000 in
set_option maxHeartbeats 8000000 in
theorem places_at {A0 A1 A2 : Option Addr} {c0 c1 c2 : Nat} {l0 : List S150} {l1 : List S152} {l2 : List S26} (a1 : Int) (r : List S38) (w : World) (hp : PAt w A0 c0 l0 A1 c1 l1 A2 c2 l2) (h : scc_Places.f l0 l1 l2 a1 = some r) :
  Calls Try.prog 29 #[.agg #[.slice A0 l0.length c0, .slice A1 l1.length c1, .slice A2 l2.length c2], .int .i64 a1] w fun e w' => ∃ v0_ : Value, e = .returned (v0_) ∧ Kd.R k38 38 w' w.heap.size (fun _ => True) v0_ r ∧ Below w.heap.size w w' := by
 unfold scc_Places.f at h
 have HB0 := Aside0.mk (below_alloc (Below.refl w.heap.size w) (.cells #[.slice A0 l0.length c0, .slice A1 l1.length c1, .slice A2 l2.length c2] 48))
 have HBX := Aside0.mk (blk_new w (.cells #[.slice A0 l0.length c0, .slice A1 l1.length c1, .slice A2 l2.length c2] 48))
 have HP0 := Aside0.mk (hp.below HB0.out)
 clear hp
 cases hin : inR l2.length a1 with
 | false =>
  rw [if_neg (by rw [hin]; decide)] at h
  obtain rfl := Option.some.inj h
  clear h
  have HIN := Aside0.mk hin; clear hin
  go_enter Try.func29, Try.ntmps29
  go_upto_region 1 with fail
  generalize hW0 : w.alloc (.cells #[.slice A0 l0.length c0, .slice A1 l1.length c1, .slice A2 l2.length c2] 48) = W0 at HB0 HBX HP0 ⊢
  clear hW0
  generalize hbw : w.heap.size = bw at HBX ⊢
  obtain ⟨k0, k1, k2, _⟩ := bk3 HBX.out
  go_wp2_with fail
  refine (is_at HP0.out a1 false HIN.out).mono ?_
  rintro e w1 ⟨rfl, hb1⟩
  have HB1 := Aside0.mk (below_step HB0.out hb1)
  clear hb1
  go_wp2
  go_ret
  exact ⟨_, rfl, Kd.R_nil _ _ _ _ _, HB1.out⟩
 | true =>
  rw [if_pos hin] at h
  obtain ⟨f, hf⟩ : ∃ f, f = rd_T26 l2 a1 := ⟨_, rfl⟩
  rw [← hf] at h
  split at h
  case isFalse => cases h
  rename_i hls
  obtain rfl := Option.some.inj h
  clear h
  have HLS := Aside0.mk (of_decide_eq_true hls); clear hls
  have HIN := Aside0.mk hin
  obtain ⟨i0, i1⟩ := inR_iff.mp hin
  clear hin
  go_enter Try.func29, Try.ntmps29
  go_upto_region 1 with fail
  generalize hW0 : w.alloc (.cells #[.slice A0 l0.length c0, .slice A1 l1.length c1, .slice A2 l2.length c2] 48) = W0 at HB0 HBX HP0 ⊢
  clear hW0
  generalize hbw : w.heap.size = bw at HBX ⊢
  have ks := bk3 HBX.out
  go_wp2_with fail
  refine (is_at HP0.out a1 true HIN.out).mono ?_
  rintro e w1 ⟨rfl, hb1⟩
  have HB1 := Aside0.mk (below_step HB0.out hb1)
  have HBX1 := Aside0.mk (blk_below HBX.out hb1)
  have HP1 := Aside0.mk (HP0.out.below hb1)
  clear hb1 HB0 HBX HP0 ks
  have ks := bk3 HBX1.out
  obtain ⟨ad, B1, d1, B3, d3, B4, d4, B5, d5, ea, e0, e1, e2, e3, e4, e5, _, _, _, _, h4, r4, h5, r5⟩ := at_T26 HP1.out.r2 a1 i0 i1
  subst ea
  rw [← hf] at e0 e1 e2 e3 e4 e5 h4 r4 h5 r5
  have HR4 := Aside0.mk r4; have HR5 := Aside0.mk r5
  have hm4 := Kd.C_max r4; have hm5 := Kd.C_max r5
  have hm2 := Kd.C_max HP1.out.r2
  clear r4 r5 h4 h5 hf
  go_wp2_with fail
  clear ks e0 e1 e2 e3 e4 e5
  have HBF := Aside0.mk (blk_new w1 (.cells #[.string f.f0, .slice B1 f.f1.length d1, .string f.f2, .slice B3 f.f3.length d3, .slice B4 f.f4.length d4, .slice B5 f.f5.length d5] 26))
  have HB2 := Aside0.mk (below_alloc HB1.out (.cells #[.string f.f0, .slice B1 f.f1.length d1, .string f.f2, .slice B3 f.f3.length d3, .slice B4 f.f4.length d4, .slice B5 f.f5.length d5] 26))
  have hba := below_alloc (Below.refl w1.heap.size w1) (.cells #[.string f.f0, .slice B1 f.f1.length d1, .string f.f2, .slice B3 f.f3.length d3, .slice B4 f.f4.length d4, .slice B5 f.f5.length d5] 26)
  have HP2 := Aside0.mk (HP1.out.below hba)
  have HBX2 := Aside0.mk (blk_below HBX1.out hba)
  have HC4 := Aside0.mk (Kd.C_below HR4.out hba)
  have HC5 := Aside0.mk (Kd.C_below HR5.out hba)
  clear hba HB1 HP1 HBX1 HR4 HR5
  generalize w1.alloc (.cells #[.string f.f0, .slice B1 f.f1.length d1, .string f.f2, .slice B3 f.f3.length d3, .slice B4 f.f4.length d4, .slice B5 f.f5.length d5] 26) = W2 at HBF HB2 HP2 HBX2 HC4 HC5 ⊢
  generalize w1.heap.size = gf at HBF ⊢
  obtain ⟨bs, hbs⟩ : ∃ bs, bs = f.f5 := ⟨_, rfl⟩
  obtain ⟨ins, hins⟩ : ∃ ins, ins = f.f4 := ⟨_, rfl⟩
  rw [← hbs] at HLS HBF HC5 hm5 ⊢
  rw [← hins] at HBF HC4 hm4 ⊢
  have HEQ : Aside0 (bs = f.f5 ∧ ins = f.f4) := ⟨hbs, hins⟩
  clear hbs hins
  go_loopg [6, 26] bs.length (fun kq v6 v26 wr => ∃ (i : Nat), v26 = .int .i64 i ∧ i + kq = bs.length ∧ Aside0 (Below W2.heap.size W2 wr) ∧ Aside0 ((Kd.int .i64).R 3 wr W2.heap.size (fun _ => True) v6 (rawL l2.length ins (bs.take i))))
  case atStart => exact ⟨0, rfl, Nat.zero_add _, ⟨Below.refl _ _⟩, ⟨Kd.R_nil _ _ _ _ _⟩⟩
  case round =>
   obtain ⟨i, rfl, hik, HB, HO⟩ := hrel
   by_cases hlt : i < bs.length
   ·obtain ⟨k1, rfl⟩ : ∃ k1, gk = k1 + 1 := ⟨gk - 1, by omega⟩
    obtain ⟨ad5, AL, cL, e5, hx0, hx1, hx2, hx3, hx4, hle, hC⟩ := at_T40 HC5.out (i : Int) (by omega) (by omega)
    subst e5
    obtain ⟨b, hb⟩ : ∃ b, b = rd_T40 bs (i : Int) := ⟨_, rfl⟩
    rw [← hb] at hx0 hx1 hx2 hx3 hx4 hle hC
    simp only [Int.toNat_natCast] at hx0 hx1 hx2 hx3 hx4
    replace hx0 := pw_cell_below HB.out hx0; replace hx1 := pw_cell_below HB.out hx1; replace hx2 := pw_cell_below HB.out hx2; replace hx3 := pw_cell_below HB.out hx3; replace hx4 := pw_cell_below HB.out hx4
    have hbe : bs.take (i + 1) = bs.take i ++ [b] := by
     rw [List.take_succ_eq_append_getElem hlt, hb]
     congr 2
     unfold rd_T40
     rw [Int.toNat_natCast, getD_at _ _ hlt]
    have hlst : listedN (bs.take i) + b.f0.length ≤ listedN bs := by
     have h1 := listedN_take bs (i + 1)
     rw [hbe] at h1
     simpa [listedN] using h1
    have HBE := Aside0.mk hbe; have HLST := Aside0.mk hlst; have HCW := Aside0.mk hC; have HLE := Aside0.mk hle
    clear hb hbe hlst hC hle
    go_wp2
    go_loopg [6, 10, 33] b.f0.length (fun kq v6 v10 v33 wr2 => ∃ (j : Nat), v33 = .int .i64 j ∧ j + kq = b.f0.length ∧ Aside0 (Below W2.heap.size W2 wr2) ∧ Aside0 ((Kd.int .i64).R 3 wr2 W2.heap.size (fun _ => True) v6 (rawL l2.length ins (bs.take i) ++ (b.f0.take j).filter (callAt l2.length ins))))
    case atStart => exact ⟨0, rfl, Nat.zero_add _, ⟨below_alloc HB.out _⟩, ⟨by rw [List.take_zero, List.filter_nil, List.append_nil]; exact Kd.R_alloc HO.out _⟩⟩
    case round =>
     clear hx0 hx1 hx2 hx3 hx4
     obtain ⟨j, rfl, hjk, HB2', HO2⟩ := hrel
     have hbm := Kd.C_max HCW.out
     by_cases hj : j < b.f0.length
     ·obtain ⟨k2, rfl⟩ : ∃ k2, gk = k2 + 1 := ⟨gk - 1, by omega⟩
      have hCr := Kd.C_below HCW.out HB2'.out
      obtain ⟨adx, ex, hxx⟩ := Kd.at_int hCr (j : Int) (by omega) (by omega)
      subst ex
      obtain ⟨x, hx⟩ : ∃ x, x = rd b.f0 (j : Int) := ⟨_, rfl⟩
      rw [← hx, Int.toNat_natCast] at hxx
      have htk : b.f0.take (j + 1) = b.f0.take j ++ [x] := by
       rw [List.take_succ_eq_append_getElem hj, hx]
       congr 2
       unfold rd
       rw [Int.toNat_natCast, getD_at _ _ hj]
      have hno : callAt l2.length ins x = false → (b.f0.take (j + 1)).filter (callAt l2.length ins) = (b.f0.take j).filter (callAt l2.length ins) := fun e => by rw [htk, List.filter_append, List.filter_cons, if_neg (by rw [e]; simp), List.filter_nil, List.append_nil]
      have hyes : callAt l2.length ins x = true → (b.f0.take (j + 1)).filter (callAt l2.length ins) = (b.f0.take j).filter (callAt l2.length ins) ++ [x] := fun e => by rw [htk, List.filter_append, List.filter_cons, if_pos e, List.filter_nil]
      have HNO := Aside0.mk hno; have HYES := Aside0.mk hyes
      clear hno hyes htk hx hCr
      have hk4 := blk_cell (blk_below HBF.out HB2'.out) 4
      have hks := bk3 (blk_below HBX2.out HB2'.out)
      by_cases h1 : 0 ≤ x
      ·have d1 : decide (0 ≤ x) = true := decide_eq_true h1
       by_cases h2 : x < (ins.length : Int)
       ·have d2 : decide (x < (ins.length : Int)) = true := decide_eq_true h2
        obtain ⟨ady, AY, cY, ey, hy0, hy1, hy2, hy3, hy4, _, _⟩ := at_T58 (Kd.C_below HC4.out HB2'.out) x h1 h2
        subst ey
        obtain ⟨n0, hn0⟩ : ∃ n0, n0 = (rd_T58 ins x).f0 := ⟨_, rfl⟩
        obtain ⟨n3, hn3⟩ : ∃ n3, n3 = (rd_T58 ins x).f3 := ⟨_, rfl⟩
        rw [← hn0] at hy0
        clear hy1 hy2 hy3 hy4
        by_cases h3 : n0 = 31
        ·have d3 : (n0 == 31) = true := by simp [h3]
         have HCX : Aside0 (∀ w', Below wr.heap.size wr w' → w'.cell? (ady.add (x.toNat * 5)) = some (.int .i64 n0) ∧ w'.cell? ⟨(ady.add (x.toNat * 5)).block, (ady.add (x.toNat * 5)).off + 3, none⟩ = some (.int .i64 n3)) := ⟨fun w' hb => by
          obtain ⟨ad, AY, cY, e, q0, _, _, q3, _⟩ := at_T58 (Kd.C_below (Kd.C_below HC4.out HB2'.out) hb) x h1 h2
          cases e
          rw [← hn0] at q0
          rw [← hn3] at q3
          exact ⟨q0, q3⟩⟩
         have HBFr := Aside0.mk (blk_below HBF.out HB2'.out); have HBXr := Aside0.mk (blk_below HBX2.out HB2'.out)
         clear hk4 hks hy0
         have hv : callAt l2.length ins x = inR l2.length n3 := by unfold callAt; rw [d1, d2, ← hn0, ← hn3, decide_eq_true h3]; simp
         cases hq : inR l2.length n3 with
         | false =>
          rw [hq] at hv
          have HV := Aside0.mk hv; have HQ := Aside0.mk hq
          clear hv hq hn0 hn3 h3
          go_upto_region 11 with fail
          refine start_ (n := 28) (S := fun w' => Below wr.heap.size wr w') (ds := []) (tf 0 28) (by kernel_rfl) rfl rfl ((below_drew1 (Below.refl _ _))) (fun hHeld => ?_)
          refine with_tabW places_at.tab11 places_at.bits11 (fun HT_ HW_ => ?_)
          refine pure_ (i := 0) (N := some 37) (v := ?_) (a' := ?_) (tf 1 27) rfl rfl (any_of HT_.out (by kernel_rfl)) (fun _ _ _ h => h) (Or.inl ⟨by rfl, ?_⟩) ?_ ?_
          rotate_left
          ·intro w'
           go_simp
           with_reducible rfl
          rotate_left
          ·simp only [Act.put, List.setIfInBounds_toArray, List.set_cons_zero, List.set_cons_succ, i64_w, i32_w]
           rfl
          refine pure_ (i := 1) (N := some 38) (v := ?_) (a' := ?_) (tf 2 26) rfl rfl (any_of HT_.out (by kernel_rfl)) (fun _ _ _ h => h) (Or.inl ⟨by rfl, ?_⟩) ?_ ?_
          rotate_left
          ·intro w'
           go_simp
           with_reducible rfl
          rotate_left
          ·simp only [Act.put, List.setIfInBounds_toArray, List.set_cons_zero, List.set_cons_succ, i64_w, i32_w]
           rfl
          refine pure_ (i := 2) (N := some 39) (v := ?_) (a' := ?_) (tf 3 25) rfl rfl (any_of HT_.out (by kernel_rfl)) (fun _ _ _ h => h) (Or.inl ⟨by rfl, ?_⟩) ?_ ?_
          rotate_left
          ·intro w'
           go_simp
           with_reducible rfl
          rotate_left
          ·simp only [Act.put, List.setIfInBounds_toArray, List.set_cons_zero, List.set_cons_succ, i64_w, i32_w]
           rfl
          refine pure_ (i := 3) (N := some 40) (v := ?_) (a' := ?_) (tf 4 24) rfl rfl (any_of HT_.out (by kernel_rfl)) (fun _ _ _ h => h) (Or.inl ⟨by rfl, ?_⟩) ?_ ?_
          rotate_left
          ·intro w'
           go_simp
           with_reducible rfl
          rotate_left
          ·simp only [Act.put, List.setIfInBounds_toArray, List.set_cons_zero, List.set_cons_succ, i64_w, i32_w]
           rfl
          refine pure_ (i := 4) (N := some 41) (v := ?_) (a' := ?_) (tf 5 23) rfl rfl (any_of HT_.out (by kernel_rfl)) (fun _ _ _ h => h) (Or.inl ⟨by rfl, ?_⟩) ?_ ?_
          rotate_left
          ·intro w'
           go_simp
           with_reducible rfl
          rotate_left
          ·simp only [Act.put, List.setIfInBounds_toArray, List.set_cons_zero, List.set_cons_succ, i64_w, i32_w]
           rfl
          refine take_ (i := 5) (N := some 42) (v := ?_) (a' := ?_) (tf 6 22) rfl rfl (take_ofW HT_.out HW_.out (by kernel_rfl)) (fun _ _ _ h => h) (Or.inl ⟨by rfl, ?_⟩) hHeld ?_ ?_
          rotate_left
          ·intro w' s0
           have x4 := blk_cell (blk_below HBFr.out s0) 4
           go_simp
           with_reducible rfl
          rotate_left
          ·simp only [Act.put, List.setIfInBounds_toArray, List.set_cons_zero, List.set_cons_succ, i64_w, i32_w]
           rfl
          refine pure_ (i := 6) (N := some 43) (v := ?_) (a' := ?_) (tf 7 21) rfl rfl (any_of HT_.out (by kernel_rfl)) (fun _ _ _ h => h) (Or.inl ⟨by rfl, ?_⟩) ?_ ?_
          rotate_left
          ·intro w'
           go_simp
           with_reducible rfl
          rotate_left
          ·simp only [Act.put, List.setIfInBounds_toArray, List.set_cons_zero, List.set_cons_succ, i64_w, i32_w]
           rfl
          refine pure_ (i := 7) (N := some 44) (v := ?_) (a' := ?_) (tf 8 20) rfl rfl (any_of HT_.out (by kernel_rfl)) (fun _ _ _ h => h) (Or.inl ⟨by rfl, ?_⟩) ?_ ?_
          rotate_left
          ·intro w'
           go_simp
           with_reducible rfl
          rotate_left
          ·simp only [Act.put, List.setIfInBounds_toArray, List.set_cons_zero, List.set_cons_succ, i64_w, i32_w]
           rfl
          refine pure_ (i := 8) (N := some 45) (v := ?_) (a' := ?_) (tf 9 19) rfl rfl (any_of HT_.out (by kernel_rfl)) (fun _ _ _ h => h) (Or.inl ⟨by rfl, ?_⟩) ?_ ?_
          rotate_left
          ·intro w'
           go_simp
           with_reducible rfl
          rotate_left
          ·simp only [Act.put, List.setIfInBounds_toArray, List.set_cons_zero, List.set_cons_succ, i64_w, i32_w]
           rfl
          refine pure_ (i := 9) (N := some 46) (v := ?_) (a' := ?_) (tf 10 18) rfl rfl (any_of HT_.out (by kernel_rfl)) (fun _ _ _ h => h) (Or.inl ⟨by rfl, ?_⟩) ?_ ?_
          rotate_left
          ·intro w'
           go_simp
           with_reducible rfl
          rotate_left
          ·simp only [Act.put, List.setIfInBounds_toArray, List.set_cons_zero, List.set_cons_succ, i64_w, i32_w]
           rfl
          refine pure_ (i := 10) (N := some 47) (v := ?_) (a' := ?_) (tf 11 17) rfl rfl (any_of HT_.out (by kernel_rfl)) (fun _ _ _ h => h) (Or.inl ⟨by rfl, ?_⟩) ?_ ?_
          rotate_left
          ·intro w'
           go_simp
           with_reducible rfl
          rotate_left
          ·simp only [Act.put, List.setIfInBounds_toArray, List.set_cons_zero, List.set_cons_succ, i64_w, i32_w]
           rfl
          refine pure_ (i := 12) (N := some 49) (v := ?_) (a' := ?_) #[true, true, true, true, true, true, true, true, true, true, true, false, true, false, false, false, false, false, false, false, false, false, false, false, false, false, false, false] rfl rfl (any_of HT_.out (by kernel_rfl)) (fun _ _ _ h => h) (Or.inl ⟨by rfl, ?_⟩) ?_ ?_
          rotate_left
          ·intro w'
           go_simp
           with_reducible rfl
          rotate_left
          ·simp only [Act.put, List.setIfInBounds_toArray, List.set_cons_zero, List.set_cons_succ, i64_w, i32_w]
           rfl
          refine take_ (i := 11) (N := some 48) (v := ?_) (a' := ?_) (tf 13 15) rfl rfl (take_ofW HT_.out HW_.out (by kernel_rfl)) (fun _ _ _ h => h) (Or.inl ⟨by rfl, ?_⟩) hHeld ?_ ?_
          rotate_left
          ·intro w' s0
           have x4 := blk_cell (blk_below HBFr.out s0) 4
           go_simp
           with_reducible rfl
          rotate_left
          ·simp only [Act.put, List.setIfInBounds_toArray, List.set_cons_zero, List.set_cons_succ, i64_w, i32_w]
           rfl
          refine pure_ (i := 13) (N := some 50) (v := ?_) (a' := ?_) (tf 14 14) rfl rfl (any_of HT_.out (by kernel_rfl)) (fun _ _ _ h => h) (Or.inl ⟨by rfl, ?_⟩) ?_ ?_
          rotate_left
          ·intro w'
           go_simp
           with_reducible rfl
          rotate_left
          ·simp only [Act.put, List.setIfInBounds_toArray, List.set_cons_zero, List.set_cons_succ, i64_w, i32_w]
           rfl
          refine pure_ (i := 14) (N := some 51) (v := ?_) (a' := ?_) (tf 15 13) rfl rfl (any_of HT_.out (by kernel_rfl)) (fun _ _ _ h => h) (Or.inl ⟨by rfl, ?_⟩) ?_ ?_
          rotate_left
          ·intro w'
           go_simp
           with_reducible rfl
          rotate_left
          ·simp only [Act.put, List.setIfInBounds_toArray, List.set_cons_zero, List.set_cons_succ, i64_w, i32_w]
           rfl
          refine take_ (i := 15) (N := some 52) (v := ?_) (a' := ?_) (tf 16 12) rfl rfl (take_ofW HT_.out HW_.out (by kernel_rfl)) (fun _ _ _ h => h) (Or.inl ⟨by rfl, ?_⟩) hHeld ?_ ?_
          rotate_left
          ·intro w' s0
           have x4 := (HCX.out w' s0).1
           go_simp
           with_reducible rfl
          rotate_left
          ·simp only [Act.put, List.setIfInBounds_toArray, List.set_cons_zero, List.set_cons_succ, i64_w, i32_w]
           rfl
          refine pure_ (i := 16) (N := some 53) (v := ?_) (a' := ?_) (tf 17 11) rfl rfl (any_of HT_.out (by kernel_rfl)) (fun _ _ _ h => h) (Or.inl ⟨by rfl, ?_⟩) ?_ ?_
          rotate_left
          ·intro w'
           go_simp
           with_reducible rfl
          rotate_left
          ·simp only [Act.put, List.setIfInBounds_toArray, List.set_cons_zero, List.set_cons_succ, i64_w, i32_w]
           rfl
          refine pure_ (i := 17) (N := some 54) (v := ?_) (a' := ?_) (tf 18 10) rfl rfl (any_of HT_.out (by kernel_rfl)) (fun _ _ _ h => h) (Or.inl ⟨by rfl, ?_⟩) ?_ ?_
          rotate_left
          ·intro w'
           go_simp
           with_reducible rfl
          rotate_left
          ·simp only [Act.put, List.setIfInBounds_toArray, List.set_cons_zero, List.set_cons_succ, i64_w, i32_w]
           rfl
          refine pure_ (i := 18) (N := some 55) (v := ?_) (a' := ?_) (tf 19 9) rfl rfl (any_of HT_.out (by kernel_rfl)) (fun _ _ _ h => h) (Or.inl ⟨by rfl, ?_⟩) ?_ ?_
          rotate_left
          ·intro w'
           go_simp
           with_reducible rfl
          rotate_left
          ·simp only [Act.put, List.setIfInBounds_toArray, List.set_cons_zero, List.set_cons_succ, i64_w, i32_w]
           rfl
          refine pure_ (i := 20) (N := some 57) (v := ?_) (a' := ?_) #[true, true, true, true, true, true, true, true, true, true, true, true, true, true, true, true, true, true, true, false, true, false, false, false, false, false, false, false] rfl rfl (any_of HT_.out (by kernel_rfl)) (fun _ _ _ h => h) (Or.inl ⟨by rfl, ?_⟩) ?_ ?_
          rotate_left
          ·intro w'
           go_simp
           with_reducible rfl
          rotate_left
          ·simp only [Act.put, List.setIfInBounds_toArray, List.set_cons_zero, List.set_cons_succ, i64_w, i32_w]
           rfl
          refine pure_ (i := 22) (N := some 59) (v := ?_) (a' := ?_) #[true, true, true, true, true, true, true, true, true, true, true, true, true, true, true, true, true, true, true, false, true, false, true, false, false, false, false, false] rfl rfl (any_of HT_.out (by kernel_rfl)) (fun _ _ _ h => h) (Or.inl ⟨by rfl, ?_⟩) ?_ ?_
          rotate_left
          ·intro w'
           go_simp
           with_reducible rfl
          rotate_left
          ·simp only [Act.put, List.setIfInBounds_toArray, List.set_cons_zero, List.set_cons_succ, i64_w, i32_w]
           rfl
          refine take_ (i := 19) (N := some 56) (v := ?_) (a' := ?_) #[true, true, true, true, true, true, true, true, true, true, true, true, true, true, true, true, true, true, true, true, true, false, true, false, false, false, false, false] rfl rfl (take_ofW HT_.out HW_.out (by kernel_rfl)) (fun _ _ _ h => h) (Or.inl ⟨by rfl, ?_⟩) hHeld ?_ ?_
          rotate_left
          ·intro w' s0
           obtain ⟨x0, x1, x2, _⟩ := bk3 (blk_below HBXr.out s0)
           go_simp
           with_reducible rfl
          rotate_left
          ·simp only [Act.put, List.setIfInBounds_toArray, List.set_cons_zero, List.set_cons_succ, i64_w, i32_w]
           rfl
          refine take_ (i := 21) (N := some 58) (v := ?_) (a' := ?_) (tf 23 5) rfl rfl (take_ofW HT_.out HW_.out (by kernel_rfl)) (fun _ _ _ h => h) (Or.inl ⟨by rfl, ?_⟩) hHeld ?_ ?_
          rotate_left
          ·intro w' s0
           have x4 := blk_cell (blk_below HBFr.out s0) 4
           go_simp
           with_reducible rfl
          rotate_left
          ·simp only [Act.put, List.setIfInBounds_toArray, List.set_cons_zero, List.set_cons_succ, i64_w, i32_w]
           rfl
          refine pure_ (i := 23) (N := some 60) (v := ?_) (a' := ?_) (tf 24 4) rfl rfl (any_of HT_.out (by kernel_rfl)) (fun _ _ _ h => h) (Or.inl ⟨by rfl, ?_⟩) ?_ ?_
          rotate_left
          ·intro w'
           go_simp
           with_reducible rfl
          rotate_left
          ·simp only [Act.put, List.setIfInBounds_toArray, List.set_cons_zero, List.set_cons_succ, i64_w, i32_w]
           rfl
          refine pure_ (i := 24) (N := some 61) (v := ?_) (a' := ?_) (tf 25 3) rfl rfl (any_of HT_.out (by kernel_rfl)) (fun _ _ _ h => h) (Or.inl ⟨by rfl, ?_⟩) ?_ ?_
          rotate_left
          ·intro w'
           go_simp
           with_reducible rfl
          rotate_left
          ·simp only [Act.put, List.setIfInBounds_toArray, List.set_cons_zero, List.set_cons_succ, i64_w, i32_w]
           rfl
          refine take_ (i := 25) (N := some 62) (v := ?_) (a' := ?_) (tf 26 2) rfl rfl (take_ofW HT_.out HW_.out (by kernel_rfl)) (fun _ _ _ h => h) (Or.inl ⟨by rfl, ?_⟩) hHeld ?_ ?_
          rotate_left
          ·intro w' s0
           have x4 := (HCX.out w' s0).2
           go_simp
           with_reducible rfl
          rotate_left
          ·simp only [Act.put, List.setIfInBounds_toArray, List.set_cons_zero, List.set_cons_succ, i64_w, i32_w]
           rfl
          refine one_ (i := 26) (N := some 63) (tf 27 1) rfl rfl (one_of HT_.out (by kernel_rfl)) (by decide) (fun K hK => ?_)
          refine goes_ Try.func57 (by kernel_rfl) rfl #[.agg #[.slice A0 l0.length c0, .slice A1 l1.length c1, .slice (some ad) l2.length c2], .int .i64 n3] (by rfl) rfl rfl (by simp only [List.map_toArray, List.map_cons, List.map_nil]; rfl) ?_
          refine (is_at ((HP2.out.below HB2'.out).below hHeld) n3 false HQ.out).mono ?_
          rintro e w926 ⟨rfl, hb⟩
          refine ⟨_, rfl, ?_⟩
          refine hK.out _ _ (below_step hHeld hb) (fun hHeld => ?_)
          clear hK K
          refine norm_ (a' := ?_) ?_ ?_
          rotate_left
          ·show Act.put _ (some 63) _ = _
           simp only [Act.put, List.setIfInBounds_toArray, List.set_cons_zero, List.set_cons_succ, i64_w, i32_w]
           rfl
          refine pure_ (i := 27) (N := some 64) (v := ?_) (a' := ?_) (tf 28 0) rfl rfl (any_of HT_.out (by kernel_rfl)) (fun _ _ _ h => h) (Or.inl ⟨by rfl, ?_⟩) ?_ ?_
          rotate_left
          ·intro w'
           go_simp
           with_reducible rfl
          rotate_left
          ·simp only [Act.put, List.setIfInBounds_toArray, List.set_cons_zero, List.set_cons_succ, i64_w, i32_w]
           rfl
          refine done_ (done_of HT_.out (by kernel_rfl)) ?_
          have HB4 := Aside0.mk (below_step HB2'.out hHeld); have HO4 := Aside0.mk (Kd.R_below HO2.out hHeld)
          clear hHeld HCX HBFr HBXr
          go_wp2
          go_roundg k2
          case measure => omega
          case rel => exact ⟨j + 1, by go_num, by omega, HB4, ⟨by rw [HNO.out HV.out]; exact HO4.out⟩⟩
         | true =>
          rw [hq] at hv
          have HV := Aside0.mk hv; have HQ := Aside0.mk hq
          obtain ⟨L, hL⟩ : ∃ L, L = rawL l2.length ins (bs.take i) ++ (b.f0.take j).filter (callAt l2.length ins) := ⟨_, rfl⟩
          have hll : L.length ≤ LIMS := by
           have h3 := raw_len l2.length ins (bs.take i)
           have h4 := List.length_filter_le (callAt l2.length ins) (b.f0.take j)
           have h5 := HLST.out
           have h6 := HLS.out
           rw [List.length_take] at h4
           rw [hL, List.length_append]
           omega
          have hnx : rawL l2.length ins (bs.take i) ++ (b.f0.take (j + 1)).filter (callAt l2.length ins) = L ++ [x] := by rw [HYES.out HV.out, ← List.append_assoc, ← hL]
          rw [← hL] at HO2
          have HLL := Aside0.mk hll; have HNX := Aside0.mk hnx
          clear hv hq hn0 hn3 h3 hll hnx hL HYES HNO
          go_upto_region 11 with fail
          refine start_ (n := 28) (S := fun w' => Below wr.heap.size wr w') (ds := []) (tf 0 28) (by kernel_rfl) rfl rfl ((below_drew1 (Below.refl _ _))) (fun hHeld => ?_)
          refine with_tabW places_at.tab11 places_at.bits11 (fun HT_ HW_ => ?_)
          refine pure_ (i := 0) (N := some 37) (v := ?_) (a' := ?_) (tf 1 27) rfl rfl (any_of HT_.out (by kernel_rfl)) (fun _ _ _ h => h) (Or.inl ⟨by rfl, ?_⟩) ?_ ?_
          rotate_left
          ·intro w'
           go_simp
           with_reducible rfl
          rotate_left
          ·simp only [Act.put, List.setIfInBounds_toArray, List.set_cons_zero, List.set_cons_succ, i64_w, i32_w]
           rfl
          refine pure_ (i := 1) (N := some 38) (v := ?_) (a' := ?_) (tf 2 26) rfl rfl (any_of HT_.out (by kernel_rfl)) (fun _ _ _ h => h) (Or.inl ⟨by rfl, ?_⟩) ?_ ?_
          rotate_left
          ·intro w'
           go_simp
           with_reducible rfl
          rotate_left
          ·simp only [Act.put, List.setIfInBounds_toArray, List.set_cons_zero, List.set_cons_succ, i64_w, i32_w]
           rfl
          refine pure_ (i := 2) (N := some 39) (v := ?_) (a' := ?_) (tf 3 25) rfl rfl (any_of HT_.out (by kernel_rfl)) (fun _ _ _ h => h) (Or.inl ⟨by rfl, ?_⟩) ?_ ?_
          rotate_left
          ·intro w'
           go_simp
           with_reducible rfl
          rotate_left
          ·simp only [Act.put, List.setIfInBounds_toArray, List.set_cons_zero, List.set_cons_succ, i64_w, i32_w]
           rfl
          refine pure_ (i := 3) (N := some 40) (v := ?_) (a' := ?_) (tf 4 24) rfl rfl (any_of HT_.out (by kernel_rfl)) (fun _ _ _ h => h) (Or.inl ⟨by rfl, ?_⟩) ?_ ?_
          rotate_left
          ·intro w'
           go_simp
           with_reducible rfl
          rotate_left
          ·simp only [Act.put, List.setIfInBounds_toArray, List.set_cons_zero, List.set_cons_succ, i64_w, i32_w]
           rfl
          refine pure_ (i := 4) (N := some 41) (v := ?_) (a' := ?_) (tf 5 23) rfl rfl (any_of HT_.out (by kernel_rfl)) (fun _ _ _ h => h) (Or.inl ⟨by rfl, ?_⟩) ?_ ?_
          rotate_left
          ·intro w'
           go_simp
           with_reducible rfl
          rotate_left
          ·simp only [Act.put, List.setIfInBounds_toArray, List.set_cons_zero, List.set_cons_succ, i64_w, i32_w]
           rfl
          refine take_ (i := 5) (N := some 42) (v := ?_) (a' := ?_) (tf 6 22) rfl rfl (take_ofW HT_.out HW_.out (by kernel_rfl)) (fun _ _ _ h => h) (Or.inl ⟨by rfl, ?_⟩) hHeld ?_ ?_
          rotate_left
          ·intro w' s0
           have x4 := blk_cell (blk_below HBFr.out s0) 4
           go_simp
           with_reducible rfl
          rotate_left
          ·simp only [Act.put, List.setIfInBounds_toArray, List.set_cons_zero, List.set_cons_succ, i64_w, i32_w]
           rfl
          refine pure_ (i := 6) (N := some 43) (v := ?_) (a' := ?_) (tf 7 21) rfl rfl (any_of HT_.out (by kernel_rfl)) (fun _ _ _ h => h) (Or.inl ⟨by rfl, ?_⟩) ?_ ?_
          rotate_left
          ·intro w'
           go_simp
           with_reducible rfl
          rotate_left
          ·simp only [Act.put, List.setIfInBounds_toArray, List.set_cons_zero, List.set_cons_succ, i64_w, i32_w]
           rfl
          refine pure_ (i := 7) (N := some 44) (v := ?_) (a' := ?_) (tf 8 20) rfl rfl (any_of HT_.out (by kernel_rfl)) (fun _ _ _ h => h) (Or.inl ⟨by rfl, ?_⟩) ?_ ?_
          rotate_left
          ·intro w'
           go_simp
           with_reducible rfl
          rotate_left
          ·simp only [Act.put, List.setIfInBounds_toArray, List.set_cons_zero, List.set_cons_succ, i64_w, i32_w]
           rfl
          refine pure_ (i := 8) (N := some 45) (v := ?_) (a' := ?_) (tf 9 19) rfl rfl (any_of HT_.out (by kernel_rfl)) (fun _ _ _ h => h) (Or.inl ⟨by rfl, ?_⟩) ?_ ?_
          rotate_left
          ·intro w'
           go_simp
           with_reducible rfl
          rotate_left
          ·simp only [Act.put, List.setIfInBounds_toArray, List.set_cons_zero, List.set_cons_succ, i64_w, i32_w]
           rfl
          refine pure_ (i := 9) (N := some 46) (v := ?_) (a' := ?_) (tf 10 18) rfl rfl (any_of HT_.out (by kernel_rfl)) (fun _ _ _ h => h) (Or.inl ⟨by rfl, ?_⟩) ?_ ?_
          rotate_left
          ·intro w'
           go_simp
           with_reducible rfl
          rotate_left
          ·simp only [Act.put, List.setIfInBounds_toArray, List.set_cons_zero, List.set_cons_succ, i64_w, i32_w]
           rfl
          refine pure_ (i := 10) (N := some 47) (v := ?_) (a' := ?_) (tf 11 17) rfl rfl (any_of HT_.out (by kernel_rfl)) (fun _ _ _ h => h) (Or.inl ⟨by rfl, ?_⟩) ?_ ?_
          rotate_left
          ·intro w'
           go_simp
           with_reducible rfl
          rotate_left
          ·simp only [Act.put, List.setIfInBounds_toArray, List.set_cons_zero, List.set_cons_succ, i64_w, i32_w]
           rfl
          refine pure_ (i := 12) (N := some 49) (v := ?_) (a' := ?_) #[true, true, true, true, true, true, true, true, true, true, true, false, true, false, false, false, false, false, false, false, false, false, false, false, false, false, false, false] rfl rfl (any_of HT_.out (by kernel_rfl)) (fun _ _ _ h => h) (Or.inl ⟨by rfl, ?_⟩) ?_ ?_
          rotate_left
          ·intro w'
           go_simp
           with_reducible rfl
          rotate_left
          ·simp only [Act.put, List.setIfInBounds_toArray, List.set_cons_zero, List.set_cons_succ, i64_w, i32_w]
           rfl
          refine take_ (i := 11) (N := some 48) (v := ?_) (a' := ?_) (tf 13 15) rfl rfl (take_ofW HT_.out HW_.out (by kernel_rfl)) (fun _ _ _ h => h) (Or.inl ⟨by rfl, ?_⟩) hHeld ?_ ?_
          rotate_left
          ·intro w' s0
           have x4 := blk_cell (blk_below HBFr.out s0) 4
           go_simp
           with_reducible rfl
          rotate_left
          ·simp only [Act.put, List.setIfInBounds_toArray, List.set_cons_zero, List.set_cons_succ, i64_w, i32_w]
           rfl
          refine pure_ (i := 13) (N := some 50) (v := ?_) (a' := ?_) (tf 14 14) rfl rfl (any_of HT_.out (by kernel_rfl)) (fun _ _ _ h => h) (Or.inl ⟨by rfl, ?_⟩) ?_ ?_
          rotate_left
          ·intro w'
           go_simp
           with_reducible rfl
          rotate_left
          ·simp only [Act.put, List.setIfInBounds_toArray, List.set_cons_zero, List.set_cons_succ, i64_w, i32_w]
           rfl
          refine pure_ (i := 14) (N := some 51) (v := ?_) (a' := ?_) (tf 15 13) rfl rfl (any_of HT_.out (by kernel_rfl)) (fun _ _ _ h => h) (Or.inl ⟨by rfl, ?_⟩) ?_ ?_
          rotate_left
          ·intro w'
           go_simp
           with_reducible rfl
          rotate_left
          ·simp only [Act.put, List.setIfInBounds_toArray, List.set_cons_zero, List.set_cons_succ, i64_w, i32_w]
           rfl
          refine take_ (i := 15) (N := some 52) (v := ?_) (a' := ?_) (tf 16 12) rfl rfl (take_ofW HT_.out HW_.out (by kernel_rfl)) (fun _ _ _ h => h) (Or.inl ⟨by rfl, ?_⟩) hHeld ?_ ?_
          rotate_left
          ·intro w' s0
           have x4 := (HCX.out w' s0).1
           go_simp
           with_reducible rfl
          rotate_left
          ·simp only [Act.put, List.setIfInBounds_toArray, List.set_cons_zero, List.set_cons_succ, i64_w, i32_w]
           rfl
          refine pure_ (i := 16) (N := some 53) (v := ?_) (a' := ?_) (tf 17 11) rfl rfl (any_of HT_.out (by kernel_rfl)) (fun _ _ _ h => h) (Or.inl ⟨by rfl, ?_⟩) ?_ ?_
          rotate_left
          ·intro w'
           go_simp
           with_reducible rfl
          rotate_left
          ·simp only [Act.put, List.setIfInBounds_toArray, List.set_cons_zero, List.set_cons_succ, i64_w, i32_w]
           rfl
          refine pure_ (i := 17) (N := some 54) (v := ?_) (a' := ?_) (tf 18 10) rfl rfl (any_of HT_.out (by kernel_rfl)) (fun _ _ _ h => h) (Or.inl ⟨by rfl, ?_⟩) ?_ ?_
          rotate_left
          ·intro w'
           go_simp
           with_reducible rfl
          rotate_left
          ·simp only [Act.put, List.setIfInBounds_toArray, List.set_cons_zero, List.set_cons_succ, i64_w, i32_w]
           rfl
          refine pure_ (i := 18) (N := some 55) (v := ?_) (a' := ?_) (tf 19 9) rfl rfl (any_of HT_.out (by kernel_rfl)) (fun _ _ _ h => h) (Or.inl ⟨by rfl, ?_⟩) ?_ ?_
          rotate_left
          ·intro w'
           go_simp
           with_reducible rfl
          rotate_left
          ·simp only [Act.put, List.setIfInBounds_toArray, List.set_cons_zero, List.set_cons_succ, i64_w, i32_w]
           rfl
          refine pure_ (i := 20) (N := some 57) (v := ?_) (a' := ?_) #[true, true, true, true, true, true, true, true, true, true, true, true, true, true, true, true, true, true, true, false, true, false, false, false, false, false, false, false] rfl rfl (any_of HT_.out (by kernel_rfl)) (fun _ _ _ h => h) (Or.inl ⟨by rfl, ?_⟩) ?_ ?_
          rotate_left
          ·intro w'
           go_simp
           with_reducible rfl
          rotate_left
          ·simp only [Act.put, List.setIfInBounds_toArray, List.set_cons_zero, List.set_cons_succ, i64_w, i32_w]
           rfl
          refine pure_ (i := 22) (N := some 59) (v := ?_) (a' := ?_) #[true, true, true, true, true, true, true, true, true, true, true, true, true, true, true, true, true, true, true, false, true, false, true, false, false, false, false, false] rfl rfl (any_of HT_.out (by kernel_rfl)) (fun _ _ _ h => h) (Or.inl ⟨by rfl, ?_⟩) ?_ ?_
          rotate_left
          ·intro w'
           go_simp
           with_reducible rfl
          rotate_left
          ·simp only [Act.put, List.setIfInBounds_toArray, List.set_cons_zero, List.set_cons_succ, i64_w, i32_w]
           rfl
          refine take_ (i := 19) (N := some 56) (v := ?_) (a' := ?_) #[true, true, true, true, true, true, true, true, true, true, true, true, true, true, true, true, true, true, true, true, true, false, true, false, false, false, false, false] rfl rfl (take_ofW HT_.out HW_.out (by kernel_rfl)) (fun _ _ _ h => h) (Or.inl ⟨by rfl, ?_⟩) hHeld ?_ ?_
          rotate_left
          ·intro w' s0
           obtain ⟨x0, x1, x2, _⟩ := bk3 (blk_below HBXr.out s0)
           go_simp
           with_reducible rfl
          rotate_left
          ·simp only [Act.put, List.setIfInBounds_toArray, List.set_cons_zero, List.set_cons_succ, i64_w, i32_w]
           rfl
          refine take_ (i := 21) (N := some 58) (v := ?_) (a' := ?_) (tf 23 5) rfl rfl (take_ofW HT_.out HW_.out (by kernel_rfl)) (fun _ _ _ h => h) (Or.inl ⟨by rfl, ?_⟩) hHeld ?_ ?_
          rotate_left
          ·intro w' s0
           have x4 := blk_cell (blk_below HBFr.out s0) 4
           go_simp
           with_reducible rfl
          rotate_left
          ·simp only [Act.put, List.setIfInBounds_toArray, List.set_cons_zero, List.set_cons_succ, i64_w, i32_w]
           rfl
          refine pure_ (i := 23) (N := some 60) (v := ?_) (a' := ?_) (tf 24 4) rfl rfl (any_of HT_.out (by kernel_rfl)) (fun _ _ _ h => h) (Or.inl ⟨by rfl, ?_⟩) ?_ ?_
          rotate_left
          ·intro w'
           go_simp
           with_reducible rfl
          rotate_left
          ·simp only [Act.put, List.setIfInBounds_toArray, List.set_cons_zero, List.set_cons_succ, i64_w, i32_w]
           rfl
          refine pure_ (i := 24) (N := some 61) (v := ?_) (a' := ?_) (tf 25 3) rfl rfl (any_of HT_.out (by kernel_rfl)) (fun _ _ _ h => h) (Or.inl ⟨by rfl, ?_⟩) ?_ ?_
          rotate_left
          ·intro w'
           go_simp
           with_reducible rfl
          rotate_left
          ·simp only [Act.put, List.setIfInBounds_toArray, List.set_cons_zero, List.set_cons_succ, i64_w, i32_w]
           rfl
          refine take_ (i := 25) (N := some 62) (v := ?_) (a' := ?_) (tf 26 2) rfl rfl (take_ofW HT_.out HW_.out (by kernel_rfl)) (fun _ _ _ h => h) (Or.inl ⟨by rfl, ?_⟩) hHeld ?_ ?_
          rotate_left
          ·intro w' s0
           have x4 := (HCX.out w' s0).2
           go_simp
           with_reducible rfl
          rotate_left
          ·simp only [Act.put, List.setIfInBounds_toArray, List.set_cons_zero, List.set_cons_succ, i64_w, i32_w]
           rfl
          refine one_ (i := 26) (N := some 63) (tf 27 1) rfl rfl (one_of HT_.out (by kernel_rfl)) (by decide) (fun K hK => ?_)
          refine goes_ Try.func57 (by kernel_rfl) rfl #[.agg #[.slice A0 l0.length c0, .slice A1 l1.length c1, .slice (some ad) l2.length c2], .int .i64 n3] (by rfl) rfl rfl (by simp only [List.map_toArray, List.map_cons, List.map_nil]; rfl) ?_
          refine (is_at ((HP2.out.below HB2'.out).below hHeld) n3 true HQ.out).mono ?_
          rintro e w926 ⟨rfl, hb⟩
          refine ⟨_, rfl, ?_⟩
          refine hK.out _ _ (below_step hHeld hb) (fun hHeld => ?_)
          clear hK K
          refine norm_ (a' := ?_) ?_ ?_
          rotate_left
          ·show Act.put _ (some 63) _ = _
           simp only [Act.put, List.setIfInBounds_toArray, List.set_cons_zero, List.set_cons_succ, i64_w, i32_w]
           rfl
          refine pure_ (i := 27) (N := some 64) (v := ?_) (a' := ?_) (tf 28 0) rfl rfl (any_of HT_.out (by kernel_rfl)) (fun _ _ _ h => h) (Or.inl ⟨by rfl, ?_⟩) ?_ ?_
          rotate_left
          ·intro w'
           go_simp
           with_reducible rfl
          rotate_left
          ·simp only [Act.put, List.setIfInBounds_toArray, List.set_cons_zero, List.set_cons_succ, i64_w, i32_w]
           rfl
          refine done_ (done_of HT_.out (by kernel_rfl)) ?_
          have HB4 := Aside0.mk (below_step HB2'.out hHeld); have HO4 := Aside0.mk (Kd.R_below HO2.out hHeld)
          clear hHeld HCX HBFr HBXr
          go_wp2_with (at_builtin; refine Kd.R_append (Kd.int .i64) (w0 := W2) W2.heap.size rfl (.tmp 65) (.tmp 67) 34 3 (.int .i64 0) 8 rfl Try.underlying34 info3 rfl (by decide) (by omega) _ L x [.int .i64 x] (fun _ => True) (fun _ => False) rfl rfl ?aP (fun _ hk => hk.elim) ?aF ?aO ?aB ?aS ?aL ?_; (case aP => exact rfl); (case aF => exact fun k hk => trivial); (case aO => exact HO4.out); (case aB => exact HB4.out); (case aS => exact HB4.out.size); (case aL => have := HLL.out; unfold LIMS at this; omega); intro v1 w5 ho hb hg hat; have HO5 := Aside0.mk ho; have HB6 := Aside0.mk hb; clear ho hb hg hat)
          go_roundg k2
          case measure => omega
          case rel => exact ⟨j + 1, by go_num, by omega, HB6, ⟨by rw [HNX.out]; exact HO5.out⟩⟩
        ·have d3 : (n0 == 31) = false := by simp [h3]
         have hv : callAt l2.length ins x = false := by unfold callAt; rw [← hn0, decide_eq_false h3]; simp
         have HV := Aside0.mk hv
         clear hv hn0 hn3 h3
         go_upto_region 11 with fail
         go_region
         go_wp2
         go_roundg k2
         case measure => omega
         case rel => exact ⟨j + 1, by go_num, by omega, ⟨below_drew HB2'.out⟩, ⟨by rw [HNO.out HV.out]; exact Kd.R_below HO2.out (below_drew (Below.refl _ _))⟩⟩
       ·have d2 : decide (x < (ins.length : Int)) = false := decide_eq_false h2
        have hv : callAt l2.length ins x = false := by unfold callAt; rw [d2]; simp
        have HV := Aside0.mk hv; clear hv
        go_upto_region 11 with fail
        go_region
        go_wp2
        go_roundg k2
        case measure => omega
        case rel => exact ⟨j + 1, by go_num, by omega, ⟨below_drew HB2'.out⟩, ⟨by rw [HNO.out HV.out]; exact Kd.R_below HO2.out (below_drew (Below.refl _ _))⟩⟩
      ·have d1 : decide (0 ≤ x) = false := decide_eq_false h1
       have hv : callAt l2.length ins x = false := by unfold callAt; rw [d1]; simp
       have HV := Aside0.mk hv; clear hv
       go_upto_region 11 with fail
       go_region
       go_wp2
       go_roundg k2
       case measure => omega
       case rel => exact ⟨j + 1, by go_num, by omega, ⟨below_drew HB2'.out⟩, ⟨by rw [HNO.out HV.out]; exact Kd.R_below HO2.out (below_drew (Below.refl _ _))⟩⟩
     ·have hje : j = b.f0.length := by omega
      have hO3 := HO2.out
      rw [hje, List.take_length, ← raw_snoc, ← HBE.out] at hO3
      have HO3 := Aside0.mk hO3; clear hO3 hje
      go_wp2
      go_roundg k1
      case measure => omega
      case rel => exact ⟨i + 1, by go_num, by omega, HB2', HO3⟩
   ·have hi : i = bs.length := by omega
    have hO := HO.out
    rw [hi, List.take_length] at hO
    have HO1 := Aside0.mk hO
    have HLN := Aside0.mk (raw_len l2.length ins bs)
    clear hO
    go_wp2_with fail
    refine (sort_R HO1.out (by have := HLN.out; have := HLS.out; unfold LIMS at this; omega)).mono ?_
    rintro e w3 ⟨rfl, hR3, hg3⟩
    have HR3 := Aside0.mk hR3
    have HB3 := Aside0.mk (Below.grown HB.out hg3 HB.out.size (fun k hk => Kd.R_base HO1.out k hk))
    clear hR3 hg3
    go_wp2_with fail
    refine (compact_R HR3.out).mono ?_
    rintro e w4 ⟨v4, rfl, hR4, hg4, hob⟩
    have HB4 := Aside0.mk (Below.grown HB3.out hg4 HB3.out.size (fun k hk => Kd.R_base HR3.out k hk))
    obtain ⟨ks, hks⟩ : ∃ ks, ks = upI (rawL l2.length ins bs) := ⟨_, rfl⟩
    have hR5 : (Kd.int .i64).R 3 w4 W2.heap.size (fun _ => True) v4 ks := by rw [hks, ← sortC_is]; exact hR4
    have HALL : Aside0 (∀ x ∈ ks, 0 ≤ x ∧ x < (ins.length : Int)) := ⟨fun x hx => raw_in ((upI_mem x _).mp (hks ▸ hx))⟩
    have HKS := Aside0.mk hks
    have HLK : Aside0 (ks.length ≤ LIMS) := ⟨by
     have h1 := upI_le (rawL l2.length ins bs)
     have h2 := HLN.out; have h3 := HLS.out
     rw [hks]; omega⟩
    obtain ⟨A9, c9, rfl, hkl, hkC⟩ := Kd.R_reads hR5
    have HK4 := Aside0.mk hR5
    have HKM := Aside0.mk (Kd.C_max hkC)
    have hkm := HKM.out
    clear hR4 hR5 hg4 hob hks hkC hkl HR3 HB3 HO1 HB HO
    go_wp2_with fail
    go_loopg [11, 13, 76] ks.length (fun kq v11 v13 v76 wr => ∃ (j : Nat), v76 = .int .i64 j ∧ j + kq = ks.length ∧ Aside0 (Below W2.heap.size W2 wr) ∧ Aside0 (k38.R 38 wr W2.heap.size (fun _ => True) v11 ((ks.take j).map (pairAt ins))) ∧ Aside0 ((Kd.int .i64).R 3 wr W2.heap.size (fun _ => True) (.slice A9 ks.length c9) ks))
    case atStart => exact ⟨0, rfl, Nat.zero_add _, HB4, ⟨Kd.R_nil _ _ _ _ _⟩, HK4⟩
    case round =>
     clear HB4 HK4
     obtain ⟨j, rfl, hjk, HB, HT, HK⟩ := hrel
     by_cases hj : j < ks.length
     ·obtain ⟨k2, rfl⟩ : ∃ k2, gk = k2 + 1 := ⟨gk - 1, by omega⟩
      have HJ := Aside0.mk hj
      obtain ⟨ak, ea, hkc⟩ := at_int (Kd.R_reads' HK.out).2.2 j hj
      cases ea
      obtain ⟨x, hx⟩ : ∃ x, x = ks.getD j 0 := ⟨_, rfl⟩
      rw [← hx] at hkc
      have hxk : ks[j] = x := by rw [hx, getD_at ks 0 hj]
      obtain ⟨h1, h2⟩ := HALL.out x (by rw [← hxk]; exact List.getElem_mem hj)
      obtain ⟨ady, AY, cY, ey, hy0, hy1, hy2, hy3, hy4, _, _⟩ := at_T58 (Kd.C_below HC4.out HB.out) x h1 h2
      subst ey
      obtain ⟨n3, hn3⟩ : ∃ n3, n3 = (rd_T58 ins x).f3 := ⟨_, rfl⟩
      rw [← hn3] at hy3
      have HROW : Aside0 ((ks.take (j + 1)).map (pairAt ins) = (ks.take j).map (pairAt ins) ++ [⟨x, n3⟩]) := ⟨by
       rw [List.take_succ_eq_append_getElem hj, List.map_append, hxk]
       unfold pairAt
       rw [hn3]; rfl⟩
      have hk4 := blk_cell (blk_below HBF.out HB.out) 4
      obtain ⟨M, hM⟩ : ∃ M, M = (ks.take j).map (pairAt ins) := ⟨_, rfl⟩
      have HML : Aside0 (M.length ≤ LIMS) := ⟨by rw [hM, List.length_map, List.length_take]; have := HLK.out; omega⟩
      rw [← hM] at HROW HT
      clear hy0 hy1 hy2 hy4 hn3 hx hxk hM
      go_wp2_with (at_builtin; refine Kd.R_append k38 (w0 := W2) W2.heap.size rfl (.tmp 80) (.tmp 89) 41 38 (.agg #[(.int .i64 0), (.int .i64 0)]) 16 rfl Try.underlying41 info38 rfl (by decide) (by decide) _ M ⟨x, n3⟩ [.int .i64 x, .int .i64 n3] (fun _ => True) (fun _ => False) rfl rfl ?aP (fun _ hk => hk.elim) ?aF HT.out HB.out HB.out.size ?aL ?_)
      case aP => exact k38_mkM _ _ _ ⟨x, n3⟩
      case aL => have := HML.out; unfold LIMS at this; omega
      intro v1 w8 hq8 hb8 hg8 hat8
      have HT8 : Aside0 (k38.R 38 w8 W2.heap.size (fun _ => True) v1 ((ks.take (j + 1)).map (pairAt ins))) := ⟨by rw [HROW.out]; exact hq8⟩
      have HB8 := Aside0.mk hb8
      have HK8 := Aside0.mk (Kd.R_over' HK.out (Kd.R_typed HT.out) (by decide) hg8)
      clear hq8 hb8 hg8 hat8 HT HB HK hkc hk4 hy3
      go_wp2
      go_roundg k2
      case measure => omega
      case rel => exact ⟨j + 1, by go_num, by omega, HB8, HT8, HK8⟩
     ·have hje : j = ks.length := by omega
      have hT := HT.out
      rw [hje, List.take_length, HKS.out, HEQ.out.2, HEQ.out.1] at hT
      have HT9 := Aside0.mk hT; clear hT hje HT
      go_wp2
      go_ret
      subst hbw
      exact ⟨_, rfl, Kd.R_lower HT9.out HB2.out.size, below_step HB2.out HB.out⟩
theorem scc_Places.calls (A0_0 : Option Addr) (c0_0 : Nat) (l0_0 : List (S150)) (A0_1 : Option Addr) (c0_1 : Nat) (l0_1 : List (S152)) (A0_2 : Option Addr) (c0_2 : Nat) (l0_2 : List (S26)) (a1 : Int) (r : List (S38)) (w : World) (hr0_0 : Kd.C k150 w A0_0 l0_0.length l0_0) (hc0_0 : l0_0.length ≤ c0_0) (hr0_1 : Kd.C k152 w A0_1 l0_1.length l0_1) (hc0_1 : l0_1.length ≤ c0_1) (hr0_2 : Kd.C k26 w A0_2 l0_2.length l0_2) (hc0_2 : l0_2.length ≤ c0_2) (h : scc_Places.f l0_0 l0_1 l0_2 a1 = some r) :
  Calls Try.prog 29 #[.agg #[.slice A0_0 l0_0.length c0_0, .slice A0_1 l0_1.length c0_1, .slice A0_2 l0_2.length c0_2], .int .i64 a1] w fun e w' => ∃ v0_ : Value, e = .returned (v0_) ∧ Kd.R k38 38 w' w.heap.size (fun _ => True) v0_ r ∧ Below w.heap.size w w' :=
 places_at a1 r w ⟨hr0_0, hc0_0, hr0_1, hc0_1, hr0_2, hc0_2⟩ h
def scc_Calls.f (l0_0 : List (S150)) (l0_1 : List (S152)) (l0_2 : List (S26)) (a1 : Int) : Option (List Int) := (scc_Places.f l0_0 l0_1 l0_2 a1).map (fun ps => upI (ps.map (·.f1)))
theorem places_len {l0 : List S150} {l1 : List S152} {l2 : List S26} {a1 : Int} {ps : List S38} (h : scc_Places.f l0 l1 l2 a1 = some ps) : ps.length ≤ LIMS := by
 unfold scc_Places.f at h
 split at h
 ·split at h
  ·rename_i hok
   obtain rfl := Option.some.inj h
   have h1 := upI_le (rawL l2.length (rd_T26 l2 a1).f4 (rd_T26 l2 a1).f5)
   have h2 := raw_len l2.length (rd_T26 l2 a1).f4 (rd_T26 l2 a1).f5
   have h3 := of_decide_eq_true hok
   rw [List.length_map]
   omega
  ·cases h
 ·obtain rfl := Option.some.inj h
  exact Nat.zero_le _
set_option maxRecDepth 100000 in
set_option maxHeartbeats 4000000 in
theorem calls_at {A0 A1 A2 : Option Addr} {c0 c1 c2 : Nat} {l0 : List S150} {l1 : List S152} {l2 : List S26} (a1 : Int) (r : List Int) (w : World) (hp : PAt w A0 c0 l0 A1 c1 l1 A2 c2 l2) (h : scc_Calls.f l0 l1 l2 a1 = some r) :
  Calls Try.prog 31 #[.agg #[.slice A0 l0.length c0, .slice A1 l1.length c1, .slice A2 l2.length c2], .int .i64 a1] w fun e w' => ∃ v0_ : Value, e = .returned (v0_) ∧ (Kd.int .i64).R 3 w' w.heap.size (fun _ => True) v0_ r ∧ Below w.heap.size w w' := by
 unfold scc_Calls.f at h
 obtain ⟨ps, hps, rfl⟩ := Option.map_eq_some_iff.mp h
 clear h
 have HPL := Aside0.mk (places_len hps)
 have HPS := Aside0.mk hps; clear hps
 have HB0 := Aside0.mk (below_alloc (Below.refl w.heap.size w) (.cells #[.slice A0 l0.length c0, .slice A1 l1.length c1, .slice A2 l2.length c2] 48))
 have HBX := Aside0.mk (blk_new w (.cells #[.slice A0 l0.length c0, .slice A1 l1.length c1, .slice A2 l2.length c2] 48))
 have HP0 := Aside0.mk (hp.below HB0.out)
 clear hp
 go_enter Try.func31, Try.ntmps31
 go_upto_region 2 with fail
 generalize hW0 : w.alloc (.cells #[.slice A0 l0.length c0, .slice A1 l1.length c1, .slice A2 l2.length c2] 48) = W0 at HB0 HBX HP0 ⊢
 clear hW0
 have ks := bk3 HBX.out
 go_wp2_with fail
 refine (places_at a1 ps W0 HP0.out HPS.out).mono ?_
 rintro e w1 ⟨v0, rfl, hv0, hb1⟩
 have HB1 := Aside0.mk (below_step HB0.out hb1)
 have HV1 := Aside0.mk hv0
 obtain ⟨A3, c3, rfl, hkl, hkC⟩ := Kd.R_reads hv0
 have HM := Aside0.mk (Kd.C_max hkC)
 have hm := HM.out
 clear hb1 HBX HP0 ks hkl hkC hv0
 go_wp2_with fail
 go_loopg [5, 7, 12] ps.length (fun kq v5 v7 v12 wr => ∃ (i : Nat), v12 = .int .i64 i ∧ i + kq = ps.length ∧ Aside0 (Below w.heap.size w wr) ∧ Aside0 ((Kd.int .i64).R 3 wr w.heap.size (fun _ => True) v5 ((ps.take i).map (·.f1))) ∧ Aside0 (k38.R 38 wr w.heap.size (fun _ => True) (.slice A3 ps.length c3) ps))
 case atStart => exact ⟨0, rfl, Nat.zero_add _, HB1, ⟨Kd.R_nil _ _ _ _ _⟩, ⟨Kd.R_lower HV1.out HB0.out.size⟩⟩
 case round =>
  obtain ⟨i, rfl, hik, HB, HO, HV⟩ := hrel
  by_cases hlt : i < ps.length
  ·obtain ⟨k1, rfl⟩ : ∃ k1, gk = k1 + 1 := ⟨gk - 1, by omega⟩
   obtain ⟨ad, ea, hx0, hx1⟩ := at_T38 (Kd.R_reads' HV.out).2.2 (i : Int) (by omega) (by omega)
   subst ea
   obtain ⟨x, hx⟩ : ∃ x, x = rd_T38 ps (i : Int) := ⟨_, rfl⟩
   rw [← hx] at hx0 hx1
   rw [Int.toNat_natCast] at hx0 hx1
   have HE : Aside0 ((ps.take (i + 1)).map (·.f1) = (ps.take i).map (·.f1) ++ [x.f1]) := ⟨by
    rw [List.take_succ_eq_append_getElem hlt, List.map_append, hx]
    unfold rd_T38
    rw [Int.toNat_natCast, getD_at _ _ hlt]; rfl⟩
   obtain ⟨M, hM⟩ : ∃ M, M = (ps.take i).map (·.f1) := ⟨_, rfl⟩
   have HML : Aside0 (M.length ≤ LIMS) := ⟨by rw [hM, List.length_map, List.length_take]; have := HPL.out; omega⟩
   rw [← hM] at HE HO
   clear hM hx
   have HB2 := Aside0.mk (below_alloc HB.out (.cells #[.int .i64 x.f0, .int .i64 x.f1] 38))
   have HO2 := Aside0.mk (Kd.R_alloc HO.out (.cells #[.int .i64 x.f0, .int .i64 x.f1] 38))
   have HV2 := Aside0.mk (Kd.R_alloc HV.out (.cells #[.int .i64 x.f0, .int .i64 x.f1] 38))
   have HG := Aside0.mk (blk_new wr (.cells #[.int .i64 x.f0, .int .i64 x.f1] 38))
   go_upto_region 5 with fail
   generalize wr.alloc (.cells #[.int .i64 x.f0, .int .i64 x.f1] 38) = w2 at HB2 HO2 HV2 HG ⊢
   generalize wr.heap.size = g7 at HG ⊢
   obtain ⟨q0, q1, _⟩ := bk2 HG.out
   clear HB HO HV hx0 hx1
   go_wp2_with (at_builtin; refine Kd.R_append (Kd.int .i64) (w0 := w) w.heap.size rfl (.tmp 16) (.tmp 19) 34 3 (.int .i64 0) 8 rfl Try.underlying34 info3 rfl (by decide) (by decide) _ M x.f1 [.int .i64 x.f1] (fun _ => True) (fun _ => False) rfl rfl ?aP (fun _ hk => hk.elim) ?aF HO2.out HB2.out HB2.out.size ?aL ?_)
   case aP => exact rfl
   case aL => have := HML.out; unfold LIMS at this; omega
   intro v1 w8 hq8 hb8 hg8 hat8
   have HT8 : Aside0 ((Kd.int .i64).R 3 w8 w.heap.size (fun _ => True) v1 ((ps.take (i + 1)).map (·.f1))) := ⟨by rw [HE.out]; exact hq8⟩
   have HB8 := Aside0.mk hb8
   have HV8 := Aside0.mk (Kd.R_over' HV2.out (Kd.R_typed HO2.out) (by decide) hg8)
   clear hq8 hb8 hg8 hat8 HO2 HB2 HV2 HG q0 q1
   go_wp2
   go_roundg k1
   case measure => omega
   case rel => exact ⟨i + 1, by go_num, by omega, HB8, HT8, HV8⟩
  ·have hi : i = ps.length := by omega
   have hO := HO.out
   rw [hi, List.take_length] at hO
   have HO1 := Aside0.mk hO
   clear hO
   go_wp2_with fail
   refine (sort_R HO1.out (by have := HPL.out; rw [List.length_map]; unfold LIMS at this; omega)).mono ?_
   rintro e w3 ⟨rfl, hR3, hg3⟩
   have HR3 := Aside0.mk hR3
   have HB3 := Aside0.mk (Below.grown HB.out hg3 HB.out.size (fun k hk => Kd.R_base HO1.out k hk))
   clear hR3 hg3
   go_wp2_with fail
   refine (compact_R HR3.out).mono ?_
   rintro e w4 ⟨v4, rfl, hR4, hg4, hob⟩
   have HB4 := Aside0.mk (Below.grown HB3.out hg4 HB3.out.size (fun k hk => Kd.R_base HR3.out k hk))
   have HR4 : Aside0 ((Kd.int .i64).R 3 w4 w.heap.size (fun _ => True) v4 (upI (ps.map (·.f1)))) := ⟨by rw [← sortC_is]; exact hR4⟩
   clear hR4 hg4 hob
   go_wp2
   go_ret
   exact ⟨_, rfl, HR4.out, HB4.out⟩
theorem scc_Calls.calls (A0_0 : Option Addr) (c0_0 : Nat) (l0_0 : List (S150)) (A0_1 : Option Addr) (c0_1 : Nat) (l0_1 : List (S152)) (A0_2 : Option Addr) (c0_2 : Nat) (l0_2 : List (S26)) (a1 : Int) (r : List Int) (w : World) (hr0_0 : Kd.C k150 w A0_0 l0_0.length l0_0) (hc0_0 : l0_0.length ≤ c0_0) (hr0_1 : Kd.C k152 w A0_1 l0_1.length l0_1) (hc0_1 : l0_1.length ≤ c0_1) (hr0_2 : Kd.C k26 w A0_2 l0_2.length l0_2) (hc0_2 : l0_2.length ≤ c0_2) (h : scc_Calls.f l0_0 l0_1 l0_2 a1 = some r) :
  Calls Try.prog 31 #[.agg #[.slice A0_0 l0_0.length c0_0, .slice A0_1 l0_1.length c0_1, .slice A0_2 l0_2.length c0_2], .int .i64 a1] w fun e w' => ∃ v0_ : Value, e = .returned (v0_) ∧ Kd.R (Kd.int .i64) 3 w' w.heap.size (fun _ => True) v0_ r ∧ Below w.heap.size w w' :=
 calls_at a1 r w ⟨hr0_0, hc0_0, hr0_1, hc0_1, hr0_2, hc0_2⟩ h
end Go.Proofs.Ytclhjalgflebfaa.Q
/- Maps of any keys and elements, told by their keys in some order and a function: laws for the walk. -/
namespace Go.Proofs.Ytclhjalgflebfaa.Q
open Go.RowKit Go.Proofs.YtclhjalgflebfaaW.PrintWords Go.Proofs.YtclhjalgflebfaaW.PrintLast Go.Proofs.YtclhjalgflebfaaW.PrintMore
set_option linter.unusedVariables false
set_option linter.unusedSimpArgs false
open Go.Maps (Keyed)
/-- How keys of a type are told. -/
structure KeyK {α : Type} (P : Program) (k : TypeId) (kv : α → Value) (lit : α → Lit) (kwf : α → Prop) : Prop where
 keyed : Keyed P k
 key : ∀ {x}, kwf x → keyOf P k (kv x) = some (lit x)
 islit : ∀ x, WideAt.IsKeyLit (lit x)
 inj : ∀ {x y}, kwf x → kwf y → lit x = lit y → x = y
/-- How elements of a type are told. -/
structure ElemK {β : Type} (P : Program) (e : TypeId) (R : Value → Option (DataW Unit × List MemPlace)) (ev : β → Value) (dat : β → DataW Unit) (ewf : β → Prop) (z : β) : Prop where
 rd : ∀ {c}, ewf c → R (ev c) = some (dat c, [])
 inv : ∀ {v y}, R v = some y → ∃ c, ewf c ∧ v = ev c
 inj : ∀ {c d}, ewf c → ewf d → dat c = dat d → c = d
 zwf : ewf z
 zero : ∀ w, (zeroValue e).run P w = .ok (ev z) w
def addK {α : Type} [DecidableEq α] (ks : List α) (x : α) : List α := if x ∈ ks then ks else ks ++ [x]
def setF {α β : Type} [DecidableEq α] (m : α → β) (x : α) (c : β) : α → β := fun y => if y = x then c else m y
def getG {α β : Type} [DecidableEq α] (z : β) (ks : List α) (m : α → β) (x : α) : β := if x ∈ ks then m x else z
def strike {α : Type} [DecidableEq α] (ks : List α) (x : α) : List α := ks.filter (fun y => !decide (y = x))
section
variable {α β : Type} [DecidableEq α] {P : Program} {k e : TypeId} {kv : α → Value} {lit : α → Lit} {kwf : α → Prop} {R : Value → Option (DataW Unit × List MemPlace)} {ev : β → Value} {dat : β → DataW Unit} {ewf : β → Prop} {z : β}
theorem addK_mem (ks : List α) (x y : α) : y ∈ addK ks x ↔ y ∈ ks ∨ y = x := by
 unfold addK
 split
 ·rename_i h
  exact ⟨.inl, fun h2 => h2.elim id (fun e => e ▸ h)⟩
 ·simp
theorem strike_mem (ks : List α) (x y : α) : y ∈ strike ks x ↔ y ∈ ks ∧ y ≠ x := by
 unfold strike; rw [List.mem_filter]; simp
/-- What a map's data say. -/
structure DataG (K : KeyK P k kv lit kwf) (E : ElemK P e R ev dat ewf z) (D : DataW Unit) (ks : List α) (m : α → β) : Prop where
 tidy : Maps.Tidy D
 nodup : ks.Nodup
 wf : ∀ x ∈ ks, kwf x ∧ ewf (m x)
 has : ∀ x, kwf x → (Maps.has D (lit x) = true ↔ x ∈ ks)
 keys : ∀ l, Maps.has D l = true → ∃ x ∈ ks, l = lit x
 val : ∀ x ∈ ks, ∀ y, D.atKey (lit x) y = dat (m x)
 size : Maps.size D = ks.length
variable {K : KeyK P k kv lit kwf} {E : ElemK P e R ev dat ewf z}
omit [DecidableEq α] in
theorem DataG.empty (m : α → β) : DataG K E (.map []) [] m := ⟨Maps.tidy_empty, List.nodup_nil, fun x hx => (nomatch hx), fun x _ => ⟨fun h => (nomatch h), fun h => (nomatch h)⟩, fun l h => (nomatch h), fun l h => (nomatch h), rfl⟩
theorem DataG.put {D : DataW Unit} {ks : List α} {m : α → β} (h : DataG K E D ks m) {x : α} (hx : kwf x) {c : β} (hc : ewf c) : DataG K E (D.put (lit x) (dat c)) (addK ks x) (setF m x c) := by
 have hm := h.tidy.isMap
 have hhas : ∀ l, Maps.has (D.put (lit x) (dat c)) l = true ↔ (Maps.has D l = true ∨ l = lit x) := fun l => by
  by_cases e : l = lit x
  ·rw [e, Maps.has_put_same hm (K.islit x)]; exact ⟨fun _ => .inr rfl, fun _ => rfl⟩
  ·rw [Maps.has_put_other e]; exact ⟨.inl, fun h => h.elim id (fun e2 => absurd e2 e)⟩
 have hwf : ∀ y ∈ addK ks x, kwf y := fun y hy => ((addK_mem ks x y).mp hy).elim (fun h2 => (h.wf y h2).1) (fun e => e ▸ hx)
 refine ⟨h.tidy.put (K.islit x) _, ?_, fun y hy => ⟨hwf y hy, ?_⟩, fun y hy => ?_, fun l hl => ?_, fun y hy z0 => ?_, ?_⟩
 ·unfold addK
  split
  ·exact h.nodup
  ·rename_i hn
   exact List.nodup_append.mpr ⟨h.nodup, by simp, fun a ha b hb e => hn (by rw [List.mem_singleton] at hb; rw [← hb, ← e]; exact ha)⟩
 ·unfold setF
  split
  ·exact hc
  ·rename_i hn
   exact (h.wf y (((addK_mem ks x y).mp hy).resolve_right hn)).2
 ·rw [hhas, addK_mem, h.has y hy]
  exact ⟨fun h => h.imp id (K.inj hy hx), fun h => h.imp id (fun e => by rw [e])⟩
 ·rcases (hhas l).mp hl with hl | hl
  ·obtain ⟨y, hy, e⟩ := h.keys l hl
   exact ⟨y, (addK_mem ks x y).mpr (.inl hy), e⟩
  ·exact ⟨x, (addK_mem ks x x).mpr (.inr rfl), hl⟩
 ·unfold setF
  by_cases e : y = x
  ·rw [if_pos e, e, Maps.atKey_put_same hm (K.islit x)]
  ·rw [if_neg e, Maps.atKey_put_other (fun e2 => e (K.inj (hwf y hy) hx e2))]
   exact h.val y (((addK_mem ks x y).mp hy).resolve_right e) z0
 ·rw [Maps.size_put h.tidy, h.size]
  unfold addK
  by_cases hm2 : x ∈ ks
  ·rw [if_pos ((h.has x hx).mpr hm2), if_pos hm2]
  ·rw [if_neg (fun e => hm2 ((h.has x hx).mp e)), if_neg hm2]; simp
theorem strike_len {ks : List α} (hn : ks.Nodup) (x : α) : (strike ks x).length + (if x ∈ ks then 1 else 0) = ks.length := by
 induction ks with
 | nil => rfl
 | cons y l ih =>
  obtain ⟨h1, h2⟩ := List.nodup_cons.mp hn
  have := ih h2
  unfold strike at this ⊢
  by_cases e : y = x
  ·subst e
   have hne : (l.filter (fun z => !decide (z = y))) = l := List.filter_eq_self.mpr (fun z hz => by
    have : z ≠ y := fun e => h1 (e ▸ hz)
    simp [this])
   simp [hne]
  ·have e2 : x ≠ y := fun e3 => e e3.symm
   simp only [List.filter_cons, e, decide_false, Bool.not_false, if_true, List.length_cons, List.mem_cons, e2, false_or]
   omega
theorem DataG.del {D : DataW Unit} {ks : List α} {m : α → β} (h : DataG K E D ks m) {x : α} (hx : kwf x) : DataG K E (D.del (lit x)) (strike ks x) m := by
 have hhas : ∀ l, Maps.has (D.del (lit x)) l = true ↔ (Maps.has D l = true ∧ l ≠ lit x) := fun l => by
  by_cases e : l = lit x
  ·rw [e, Maps.has_del_same]; exact ⟨fun h => (nomatch h), fun h => absurd rfl h.2⟩
  ·rw [Maps.has_del_other e]; exact ⟨fun h => ⟨h, e⟩, fun h => h.1⟩
 refine ⟨h.tidy.del _, h.nodup.filter _, fun y hy => h.wf y ((strike_mem ks x y).mp hy).1, fun y hy => ?_, fun l hl => ?_, fun y hy z0 => ?_, ?_⟩
 ·rw [hhas, strike_mem, h.has y hy]
  exact ⟨fun h2 => ⟨h2.1, fun e => h2.2 (by rw [e])⟩, fun h2 => ⟨h2.1, fun e => h2.2 (K.inj hy hx e)⟩⟩
 ·obtain ⟨h1, h2⟩ := (hhas l).mp hl
  obtain ⟨y, hy, e⟩ := h.keys l h1
  exact ⟨y, (strike_mem ks x y).mpr ⟨hy, fun e2 => h2 (by rw [e, e2])⟩, e⟩
 ·obtain ⟨h1, h2⟩ := (strike_mem ks x y).mp hy
  rw [Maps.atKey_del_other (fun e => h2 (K.inj (h.wf y h1).1 hx e))]
  exact h.val y h1 z0
 ·have h1 := Maps.size_del (k := lit x) h.tidy
  have h2 := strike_len h.nodup x
  rw [h.size] at h1
  by_cases hm : x ∈ ks
  ·rw [if_pos ((h.has x hx).mpr hm)] at h1; rw [if_pos hm] at h2; omega
  ·rw [if_neg (fun e => hm ((h.has x hx).mp e))] at h1; rw [if_neg hm] at h2; omega
omit [DecidableEq α] in
theorem DataG.congr {D : DataW Unit} {ks : List α} {m m' : α → β} (h : DataG K E D ks m) (he : ∀ x ∈ ks, m' x = m x) : DataG K E D ks m' :=
 ⟨h.tidy, h.nodup, fun x hx => ⟨(h.wf x hx).1, by rw [he x hx]; exact (h.wf x hx).2⟩, h.has, h.keys, fun x hx y => by rw [he x hx]; exact h.val x hx y, h.size⟩
/-- Block b is a map that holds m at the keys ks. -/
def MapG (K : KeyK P k kv lit kwf) (E : ElemK P e R ev dat ewf z) (w : World) (b : Nat) (ks : List α) (m : α → β) : Prop := ∃ D, w.ownsMap (H := Unit) P k R b ks.length D ∧ DataG K E D ks m
omit [DecidableEq α] in
theorem owns_tightG {w : World} {b n : Nat} {D : DataW Unit} (h : w.ownsMap P k R b n D) : w.ownsMap P k R b (Maps.size D) D := by
 obtain ⟨es, clock, hb, F, hs, hD⟩ := h
 refine ⟨es, clock, hb, F, ?_, hD⟩
 rw [hD, Maps.size_eq, length_read]
 exact Nat.le_refl _
variable {w w1 : World} {b : Nat} {ks : List α} {m : α → β} {t : TypeId}
omit [DecidableEq α] in
theorem MapG.made (w : World) (m : α → β) : MapG K E (w.alloc (.map #[] 0)) w.heap.size [] m := ⟨.map [], World.ownsMap_made _ _ _ _, DataG.empty m⟩
omit [DecidableEq α] in
theorem MapG.kept (h : MapG K E w b ks m) {row : Option Nat} (hg : w.grownBy w1 row) (hne : some b ≠ row) : MapG K E w1 b ks m := by
 obtain ⟨D, h1, h2⟩ := h
 exact ⟨D, h1.kept hg hne, h2⟩
omit [DecidableEq α] in
theorem MapG.move (h : MapG K E w b ks m) (e : w1.heap[b]? = w.heap[b]?) : MapG K E w1 b ks m := by
 obtain ⟨D, ⟨es, clock, hb, r⟩, h2⟩ := h
 exact ⟨D, ⟨es, clock, e.trans hb, r⟩, h2⟩
omit [DecidableEq α] in
theorem MapG.is_map (h : MapG K E w b ks m) : ∃ es clock, w.heap[b]? = some (.map es clock) := by
 obtain ⟨D, ⟨es, clock, hb, r⟩, h2⟩ := h
 exact ⟨es, clock, hb⟩
omit [DecidableEq α] in
theorem MapG.lt (h : MapG K E w b ks m) : b < w.heap.size := by obtain ⟨D, h1, h2⟩ := h; exact h1.lt
omit [DecidableEq α] in
theorem MapG.below (h : MapG K E w b ks m) (hb : Below w.heap.size w w1) : MapG K E w1 b ks m := h.kept (grown_of_below hb none) (by simp)
omit [DecidableEq α] in
theorem MapG.alloc (h : MapG K E w b ks m) (o : Obj) : MapG K E (w.alloc o) b ks m := h.below (below_alloc (Below.refl _ _) o)
omit [DecidableEq α] in
theorem MapG.setCell (h : MapG K E w b ks m) {a : Addr} (ha : b ≠ a.block) (u : Value) : MapG K E (w.setCell a u) b ks m := by
 obtain ⟨D, h1, h2⟩ := h
 exact ⟨D, h1.setCell ha u, h2⟩
omit [DecidableEq α] in
theorem MapG.nodup (h : MapG K E w b ks m) : ks.Nodup := by obtain ⟨D, _, h2⟩ := h; exact h2.nodup
omit [DecidableEq α] in
theorem MapG.wf (h : MapG K E w b ks m) : ∀ x ∈ ks, kwf x ∧ ewf (m x) := by obtain ⟨D, _, h2⟩ := h; exact h2.wf
omit [DecidableEq α] in
theorem MapG.congr (h : MapG K E w b ks m) {m' : α → β} (he : ∀ x ∈ ks, m' x = m x) : MapG K E w b ks m' := by
 obtain ⟨D, h1, h2⟩ := h
 exact ⟨D, h1, h2.congr he⟩
omit [DecidableEq α] in
theorem MapG.ne_cells (h : MapG K E w b ks m) {g : Nat} {cs : Array Value} {T : TypeId} {f : Nat × Nat} (hb : w.heap[g]? = some (.cells cs T f)) : b ≠ g := by
 rintro rfl
 obtain ⟨D, ⟨es, clock, hb2, _⟩, _⟩ := h
 rw [hb] at hb2; cases hb2
omit [DecidableEq α] in
theorem MapG.ne_own {γ : Type} {d : Kd γ} {e' base : Nat} {ok : Nat → Prop} {v : Value} {xs : List γ} (h : MapG K E w b ks m) (hq : d.Q e' w base ok v xs) : some b ≠ v.ownBlock := by
 intro he
 obtain ⟨cells, hc⟩ := Kd.Q_typed hq b he.symm
 obtain ⟨D, ⟨es, clock, hb, _⟩, _⟩ := h
 rw [hb] at hc
 cases hc
theorem MapG.lookup (h : MapG K E w b ks m) (ht : P.underlying t = some (.map k e)) {x : α} (hx : kwf x) : (Instr.lookup t (.map (some b)) (kv x) false).run P w = .ok (ev (getG z ks m x)) w := by
 obtain ⟨D, h1, h2⟩ := h
 obtain ⟨v, ps, hrun, hv⟩ := h1.lookup K.keyed ht (E.zero w) (E.rd E.zwf) (K.key hx)
 rw [hrun]
 unfold getG
 obtain ⟨c, hc, rfl⟩ := E.inv hv
 rw [E.rd hc] at hv
 injection hv with hv
 injection hv with hv _
 split
 ·rename_i hm
  rw [h2.val x hm] at hv
  rw [E.inj hc (h2.wf x hm).2 hv]
 ·rename_i hm
  rw [Maps.atKey_of_not_has (by rw [← Bool.not_eq_true, h2.has x hx]; exact hm)] at hv
  rw [E.inj hc E.zwf hv]
omit [DecidableEq α] in
theorem MapG.len (h : MapG K E w b ks m) (ht : P.underlying t = some (.map k e)) (ty : TypeId) : (Builtin.len_ #[t] ty #[.map (some b)]).run P w = .ok (.int .i64 ks.length) w := by
 obtain ⟨D, h1, h2⟩ := h
 rw [h1.len ht ty, h2.size]
theorem MapG.update (h : MapG K E w b ks m) (ht : P.underlying t = some (.map k e)) (hn : ks.length < maxLen) {y : α} {c : β} (hy : kwf y) (hc : ewf c) : ∃ w', (Instr.mapUpdate t (.map (some b)) (kv y) (ev c)).run P w = .ok () w' ∧ MapG K E w' b (addK ks y) (setF m y c) ∧ w.grownBy w' (some b) := by
 obtain ⟨D, h1, h2⟩ := h
 obtain ⟨w', hrun, ho, hgr⟩ := h1.update K.keyed ht hn (K.key hy) (E.rd hc)
 have h3 := h2.put hy hc
 have ho2 := owns_tightG ho
 rw [h3.size] at ho2
 exact ⟨w', hrun, ⟨_, ho2, h3⟩, hgr⟩
section
variable {ops : Array Oper} {rest : List Oper} {o : Oper} {a : Act} {Q : Exit → Act → World → Prop}
theorem MapG.update_op (h : MapG K E w b ks m) (hg : o.guard = none) (mm x v : Operand) (hop : o.op = Op.mapUpdate t mm x v) (ht : P.underlying t = some (.map k e))
  (hm : a.eval mm = .map (some b)) (hn : ks.length < maxLen) (y : α) (c : β) (hx : a.eval x = kv y) (hv : a.eval v = ev c) (hy : kwf y) (hc : ewf c)
  (hK : ∀ w', MapG K E w' b (addK ks y) (setF m y c) → w.grownBy w' (some b) → wpList P ops Q rest (a.put o.dst undef) w') :
  wpList P ops Q (o :: rest) a w := by
 obtain ⟨D, h1, h2⟩ := h
 refine wpList_mapUpdate_own w hg mm x v t hop k e K.keyed ht R b _ D hm h1 hn (kv y) _ (lit y) hx hv (K.key hy) _ [] (E.rd hc) ?_
 intro w' ho hgr
 have h3 := h2.put hy hc
 have ho2 := owns_tightG ho
 rw [h3.size] at ho2
 exact hK w' ⟨_, ho2, h3⟩ hgr
theorem MapG.delete_op (h : MapG K E w b ks m) (hg : o.guard = none) (mm x : Operand) (hop : o.op = Op.call { callee := Callee.builtin Builtin.delete, args := #[mm, x], argTypes := #[t, k] }) (ht : P.underlying t = some (.map k e))
  (hm : a.eval mm = .map (some b)) (y : α) (hx : a.eval x = kv y) (hy : kwf y)
  (hK : ∀ w', MapG K E w' b (strike ks y) m → w.grownBy w' (some b) → w'.heap.size = w.heap.size → wpList P ops Q rest (a.put o.dst (.tuple #[])) w') :
  wpList P ops Q (o :: rest) a w := by
 obtain ⟨D, h1, h2⟩ := h
 refine wpList_delete_own w hg mm x t k hop e K.keyed ht R b _ D hm h1 (kv y) (lit y) hx (K.key hy) ?_
 intro w' ho hgr
 have h3 := h2.del hy
 have ho2 := owns_tightG ho
 rw [h3.size] at ho2
 refine hK w' ⟨_, ho2, h3⟩ hgr.grown ?_
 obtain ⟨es, clock, es', clock', _, rfl⟩ := hgr
 simp [ChangeMaps.setBlock]
end
/-- A walk over a map: it goes on at block q; these have come. -/
def RunG (K : KeyK P k kv lit kwf) (E : ElemK P e R ev dat ewf z) (w : World) (b q : Nat) (ks : List α) (m : α → β) (done : List α) : Prop :=
 ∃ D left cnt, w.ranges (H := Unit) P k R b q ks.length D left cnt ∧ DataG K E D ks m ∧ (∀ l, left l = true ↔ ∃ x ∈ ks, x ∉ done ∧ l = lit x) ∧ (∀ x ∈ done, x ∈ ks) ∧ done.Nodup
theorem len_le_sub {α : Type} [DecidableEq α] : ∀ {l r : List α}, l.Nodup → (∀ z ∈ l, z ∈ r) → l.length ≤ r.length
 | [], _, _, _ => Nat.zero_le _
 | x :: l, r, hn, hs => by
  obtain ⟨h1, h2⟩ := List.nodup_cons.mp hn
  have hx := hs x (by simp)
  have := len_le_sub (l := l) (r := r.erase x) h2 (fun z hz => (List.mem_erase_of_ne (fun (e : z = x) => h1 (by rw [← e]; exact hz))).mpr (hs z (List.mem_cons_of_mem _ hz)))
  rw [List.length_erase_of_mem hx] at this
  have := List.length_pos_of_mem hx
  rw [List.length_cons]; omega
variable {q : Nat} {done : List α}
omit [DecidableEq α] in
theorem RunG.map (h : RunG K E w b q ks m done) : MapG K E w b ks m := by
 obtain ⟨D, left, cnt, h1, h2, _⟩ := h
 exact ⟨D, h1.owns, h2⟩
omit [DecidableEq α] in
theorem RunG.lt (h : RunG K E w b q ks m done) : q < w.heap.size := by obtain ⟨D, left, cnt, h1, _⟩ := h; exact h1.lt
omit [DecidableEq α] in
theorem RunG.kept (h : RunG K E w b q ks m done) {row : Option Nat} (hg : w.grownBy w1 row) (hb : some b ≠ row) (hq : some q ≠ row) : RunG K E w1 b q ks m done := by
 obtain ⟨D, left, cnt, h1, h2⟩ := h
 exact ⟨D, left, cnt, h1.kept hg hb hq, h2⟩
omit [DecidableEq α] in
theorem RunG.below (h : RunG K E w b q ks m done) (hb : Below w.heap.size w w1) : RunG K E w1 b q ks m done := h.kept (grown_of_below hb none) (by simp) (by simp)
omit [DecidableEq α] in
theorem RunG.iter (h : RunG K E w b q ks m done) : ∃ since seen c0, w.heap[q]? = some (.mapIter (some b) since seen c0) := by
 obtain ⟨D, left, cnt, ⟨es, clock, since, seen, c0, hb, F, hs, hD, hr, rest⟩, h2⟩ := h
 exact ⟨since, seen, c0, hr⟩
omit [DecidableEq α] in
theorem RunG.move (h : RunG K E w b q ks m done) (eb : w1.heap[b]? = w.heap[b]?) (eq : w1.heap[q]? = w.heap[q]?) : RunG K E w1 b q ks m done := by
 obtain ⟨D, left, cnt, ⟨es, clock, since, seen, c0, hb, F, hs, hD, hr, rest⟩, h2⟩ := h
 exact ⟨D, left, cnt, ⟨es, clock, since, seen, c0, eb.trans hb, F, hs, hD, eq.trans hr, rest⟩, h2⟩
omit [DecidableEq α] in
theorem RunG.ne_cells (h : RunG K E w b q ks m done) {g : Nat} {cs : Array Value} {T : TypeId} {f : Nat × Nat} (hb : w.heap[g]? = some (.cells cs T f)) : q ≠ g := by
 rintro rfl
 obtain ⟨D, left, cnt, ⟨es, clock, since, seen, c0, _, _, _, _, hr, _⟩, _⟩ := h
 rw [hb] at hr; cases hr
section
variable {ops : Array Oper} {rest : List Oper} {o : Oper} {a : Act} {Q : Exit → Act → World → Prop}
omit [DecidableEq α] in
theorem RunG.start_op (h : MapG K E w b ks m) (hg : o.guard = none) (mm : Operand) (hop : o.op = Op.range t mm) (ht : P.underlying t = some (.map k e)) (hm : a.eval mm = .map (some b))
  (hK : ∀ w', RunG K E w' b w.heap.size ks m [] → Below w.heap.size w w' → wpList P ops Q rest (a.put o.dst (.pointer (some ⟨w.heap.size, 0, none⟩))) w') : wpList P ops Q (o :: rest) a w := by
 obtain ⟨D, h1, h2⟩ := h
 refine wpList_range_own w hg mm t hop k e K.keyed ht R b _ D hm h1 ?_
 intro w' hr hgr _
 refine hK w' ⟨D, _, _, hr, h2, fun l => ?_, fun x hx => (nomatch hx), List.nodup_nil⟩ ((Below.refl w.heap.size w).grown hgr (Nat.le_refl _) (fun k hk => (nomatch hk)))
 constructor
 ·intro hl
  obtain ⟨x, hx, e⟩ := h2.keys l hl
  exact ⟨x, hx, by simp, e⟩
 ·rintro ⟨x, hx, _, rfl⟩
  exact (h2.has x (h2.wf x hx).1).mpr hx
theorem RunG.next_op (h : RunG K E w b q ks m done) (hg : o.guard = none) (it : Operand) (hop : o.op = Op.next it false) (hit : a.eval it = .pointer (some ⟨q, 0, none⟩))
  (hDone : done.Perm ks → wpList P ops Q rest (a.put o.dst (.tuple #[.bool false])) w)
  (hMore : ∀ (x : α) (w' : World), x ∈ ks → x ∉ done → done.length < ks.length → RunG K E w' b q ks m (done ++ [x]) → w.grownBy w' (some q) → w'.heap.size = w.heap.size → w'.rangeLeft b q < w.rangeLeft b q → (Instr.entry (.pointer (some ⟨q, 0, none⟩))).run P w' = .ok (.tuple #[kv x, ev (m x)]) w' → wpList P ops Q rest (a.put o.dst (.tuple #[.bool true, kv x, ev (m x)])) w') :
  wpList P ops Q (o :: rest) a w := by
 obtain ⟨D, left, cnt, h1, h2, h3, h4, h5⟩ := h
 refine wpList_next_ranges w hg it hop k K.keyed R id id (fun key _ _ => ⟨key, rfl⟩) (fun v _ _ => ⟨v, rfl⟩) b q _ D left cnt hit h1 ?_ ?_
 ·intro _ hl
  refine hDone ?_
  refine (List.perm_ext_iff_of_nodup h5 h2.nodup).mpr (fun x => ⟨h4 x, fun hx => ?_⟩)
  exact Classical.byContradiction (fun hn => by
   have := (h3 (lit x)).mpr ⟨x, hx, hn, rfl⟩
   rw [hl] at this; cases this)
 ·intro key val kl y w' cnt' hkey hlk hv hat hr hlt hgr hsz hen
  obtain ⟨x, hx, hn, rfl⟩ := (h3 kl).mp hlk
  have hk : key = kv x := K.keyed.inj hkey (K.key (h2.wf x hx).1)
  have hvy := hat (.lit (.bool false))
  rw [h2.val x hx] at hvy
  have hval : val = ev (m x) := by
   have hv2 : R val = some y := hv
   obtain ⟨c, hc, e⟩ := E.inv hv2
   rw [e, E.rd hc] at hv2
   injection hv2 with hv2
   rw [← hv2] at hvy
   rw [e, ← E.inj (h2.wf x hx).2 hc hvy]
  subst hk hval
  have hlen : done.length < ks.length := by
   have hsub : (done ++ [x]).Nodup := List.nodup_append.mpr ⟨h5, by simp, fun a ha c hc e => hn (by rw [List.mem_singleton] at hc; rw [← hc, ← e]; exact ha)⟩
   have h6 := len_le_sub hsub (fun z hz => by
    rcases List.mem_append.mp hz with hz | hz
    ·exact h4 z hz
    ·rw [List.mem_singleton.mp hz]; exact hx)
   rw [List.length_append, List.length_singleton] at h6
   omega
  refine hMore x w' hx hn hlen ⟨D, _, cnt', hr, h2, fun l => ?_, fun z hz => ?_, ?_⟩ hgr hsz (by rw [hr.left_eq, h1.left_eq]; exact hlt) hen
  ·rw [Bool.and_eq_true, h3]
   constructor
   ·rintro ⟨⟨z, hz, hzn, rfl⟩, hne⟩
    refine ⟨z, hz, fun hm => ?_, rfl⟩
    rcases List.mem_append.mp hm with hm | hm
    ·exact hzn hm
    ·rw [List.mem_singleton.mp hm, WideAt.sameKey_self (K.islit x)] at hne
     cases hne
   ·rintro ⟨z, hz, hzn, rfl⟩
    refine ⟨⟨z, hz, fun hm => hzn (List.mem_append_left _ hm), rfl⟩, ?_⟩
    rw [Maps.sameKey_ne (fun e => hzn (List.mem_append_right _ (by rw [K.inj (h2.wf z hz).1 (h2.wf x hx).1 e]; simp)))]
    rfl
  ·rcases List.mem_append.mp hz with hz | hz
   ·exact h4 z hz
   ·rw [List.mem_singleton.mp hz]; exact hx
  ·exact List.nodup_append.mpr ⟨h5, by simp, fun a ha c hc e => hn (by rw [List.mem_singleton] at hc; rw [← hc, ← e]; exact ha)⟩
end
end
/-- Keys that are ints. -/
theorem int_keyK {P : Program} {k : TypeId} (hk : P.underlying k = some (.int .i64)) : KeyK P k (Value.int .i64) (Lit.int .i64) (fun x => (Lit.int .i64 x).wf = true) :=
 ⟨Go.Maps.int_keyed hk, fun h => Go.Maps.keyOf_int_mk hk h, fun _ => trivial, fun _ _ h => by injection h⟩
/-- Elements that are Bools. -/
theorem bool_elemK {P : Program} {e : TypeId} (he : P.underlying e = some .bool) (hz : ∀ w, (zeroValue e).run P w = .ok (.bool false) w) : ElemK P e (plainElem P e) Value.bool (fun c => .lit (.bool c)) (fun _ => True) false :=
 ⟨fun _ => plainElem_bool he _, fun {v y} h => by
  unfold plainElem at h
  rw [he] at h
  cases v <;> simp at h
  exact ⟨_, trivial, rfl⟩, fun _ _ h => by injection h with h; injection h, trivial, hz⟩
/-- How an element that is a map reads: by its block. -/
def mapElem : Value → Option (DataW Unit × List MemPlace)
 | .map none => some (.nil, [])
 | .map (some b) => some (.lit (.int .i64 b), [])
 | _ => none
def mapDat : Option Nat → DataW Unit
 | none => .nil
 | some b => .lit (.int .i64 b)
theorem map_elemK {P : Program} {e : TypeId} (hz : ∀ w, (zeroValue e).run P w = .ok (.map none) w) : ElemK P e mapElem Value.map mapDat (fun _ => True) none :=
 ⟨fun {c} _ => by cases c <;> rfl, fun {v y} h => by
  cases v <;> try (cases h; done)
  exact ⟨_, trivial, rfl⟩, fun {c d} _ _ h => by
  cases c <;> cases d <;> simp [mapDat] at h ⊢
  omega, trivial, hz⟩
end Go.Proofs.Ytclhjalgflebfaa.Q
/- Sets of ints: a map to bools that holds true at each of its keys. -/
namespace Go.Proofs.Ytclhjalgflebfaa.Q
open Go.RowKit Go.Proofs.YtclhjalgflebfaaW.PrintWords Go.Proofs.YtclhjalgflebfaaW.PrintLast Go.Proofs.YtclhjalgflebfaaW.PrintMore
set_option linter.unusedVariables false
set_option linter.unusedSimpArgs false
theorem zeroBo (w : World) : (zeroValue 4).run Try.prog w = .ok (.bool false) w := by kernel_rfl
theorem iK : KeyK Try.prog 3 (Value.int .i64) (Lit.int .i64) (fun x => (Lit.int .i64 x).wf = true) := int_keyK Try.underlying3
theorem bE : ElemK Try.prog 4 (plainElem Try.prog 4) Value.bool (fun c => .lit (.bool c)) (fun _ => True) false := bool_elemK Try.underlying4 zeroBo
/-- Block b is the set of the ints ks. -/
def SI (w : World) (b : Nat) (ks : List Int) : Prop := MapG iK bE w b ks (fun _ => true)
section
variable {w w1 : World} {b : Nat} {ks : List Int}
theorem SI.made (w : World) : SI (w.alloc (.map #[] 0)) w.heap.size [] := MapG.made w _
theorem SI.kept (h : SI w b ks) {row : Option Nat} (hg : w.grownBy w1 row) (hne : some b ≠ row) : SI w1 b ks := MapG.kept h hg hne
theorem SI.move (h : SI w b ks) (e : w1.heap[b]? = w.heap[b]?) : SI w1 b ks := MapG.move h e
theorem SI.lt (h : SI w b ks) : b < w.heap.size := MapG.lt h
theorem SI.below (h : SI w b ks) (hb : Below w.heap.size w w1) : SI w1 b ks := MapG.below h hb
theorem SI.alloc (h : SI w b ks) (o : Obj) : SI (w.alloc o) b ks := MapG.alloc h o
theorem SI.nodup (h : SI w b ks) : ks.Nodup := MapG.nodup h
theorem SI.ne_own {γ : Type} {d : Kd γ} {e' base : Nat} {ok : Nat → Prop} {v : Value} {xs : List γ} (h : SI w b ks) (hq : d.Q e' w base ok v xs) : some b ≠ v.ownBlock := MapG.ne_own h hq
theorem SI.ne_cells (h : SI w b ks) {g : Nat} {cs : Array Value} {T : TypeId} {f : Nat × Nat} (hb : w.heap[g]? = some (.cells cs T f)) : b ≠ g := MapG.ne_cells h hb
theorem SI.lookup (h : SI w b ks) {x : Int} (hx : (Lit.int .i64 x).wf = true) {q : Bool} (hq : decide (x ∈ ks) = q) : (Instr.lookup 77 (.map (some b)) (.int .i64 x) false).run Try.prog w = .ok (.bool q) w := by
 have h1 := MapG.lookup h (t := 77) Try.underlying77 hx
 rw [h1]
 unfold getG
 rw [← hq]
 by_cases hm : x ∈ ks
 ·rw [if_pos hm, decide_eq_true hm]
 ·rw [if_neg hm, decide_eq_false hm]
theorem SI.len (h : SI w b ks) (ty : TypeId) : (Builtin.len_ #[77] ty #[.map (some b)]).run Try.prog w = .ok (.int .i64 ks.length) w := MapG.len h Try.underlying77 ty
theorem setF_true (x : Int) : setF (fun _ : Int => true) x true = fun _ => true := by funext y; unfold setF; split <;> rfl
theorem SI.update_op {ops : Array Oper} {rest : List Oper} {o : Oper} {a : Act} {Q : Exit → Act → World → Prop} (h : SI w b ks) (hg : o.guard = none) (mm x v : Operand) (hop : o.op = Op.mapUpdate 77 mm x v)
  (hm : a.eval mm = .map (some b)) (hn : ks.length < maxLen) (y : Int) (hx : a.eval x = .int .i64 y) (hv : a.eval v = .bool true) (hy : (Lit.int .i64 y).wf = true)
  (hK : ∀ w', SI w' b (addK ks y) → w.grownBy w' (some b) → wpList Try.prog ops Q rest (a.put o.dst undef) w') :
  wpList Try.prog ops Q (o :: rest) a w :=
 MapG.update_op h hg mm x v hop Try.underlying77 hm hn y true hx hv hy trivial (fun w' h1 h2 => hK w' (by unfold SI; rw [← setF_true y]; exact h1) h2)
theorem SI.update (h : SI w b ks) (hn : ks.length < maxLen) {y : Int} (hy : (Lit.int .i64 y).wf = true) : ∃ w', (Instr.mapUpdate 77 (.map (some b)) (.int .i64 y) (.bool true)).run Try.prog w = .ok () w' ∧ SI w' b (addK ks y) ∧ w.grownBy w' (some b) := by
 obtain ⟨w', h1, h2, h3⟩ := MapG.update h Try.underlying77 hn hy (c := true) trivial
 exact ⟨w', h1, by unfold SI; rw [← setF_true y]; exact h2, h3⟩
theorem SI.delete_op {ops : Array Oper} {rest : List Oper} {o : Oper} {a : Act} {Q : Exit → Act → World → Prop} (h : SI w b ks) (hg : o.guard = none) (mm x : Operand) (hop : o.op = Op.call { callee := Callee.builtin Builtin.delete, args := #[mm, x], argTypes := #[77, 3] })
  (hm : a.eval mm = .map (some b)) (y : Int) (hx : a.eval x = .int .i64 y) (hy : (Lit.int .i64 y).wf = true)
  (hK : ∀ w', SI w' b (strike ks y) → w.grownBy w' (some b) → w'.heap.size = w.heap.size → wpList Try.prog ops Q rest (a.put o.dst (.tuple #[])) w') :
  wpList Try.prog ops Q (o :: rest) a w :=
 MapG.delete_op h hg mm x hop Try.underlying77 hm y hx hy hK
theorem addK_new {x : Int} (h : x ∉ ks) : addK ks x = ks ++ [x] := if_neg h
end
theorem wf_int {x : Int} (h0 : 0 ≤ x) (h1 : x ≤ 9223372036854775807) : (Lit.int .i64 x).wf = true := by
 simp [Lit.wf, IntKind.min, IntKind.max, IntKind.signed, IntKind.bits]
 omega
/-- The stack: to whom it comes. -/
def comesG (nx : Int → Option (List Int)) : Nat → List Int → List Int → Option (List Int)
 | 0, _, _ => none
 | k + 1, todo, out =>
  if 0 < todo.length then
   (if out.contains (rd todo ((todo.length - 1 : Nat) : Int)) = false then
    (nx (rd todo ((todo.length - 1 : Nat) : Int))).bind fun ns =>
     if todo.length + ns.length ≤ LIMS ∧ out.length < LIMS then comesG nx k (todo.take (todo.length - 1) ++ ns) (out ++ [rd todo ((todo.length - 1 : Nat) : Int)]) else none
   else comesG nx k (todo.take (todo.length - 1)) out)
  else if out.length ≤ LIMS then some out else none
def FUEL : Nat := 1000
def scc_Comes.f (l0_0 : List (S150)) (l0_1 : List (S152)) (l0_2 : List (S26)) (a1 : Int) : Option (List Int) := (scc_Calls.f l0_0 l0_1 l0_2 a1).bind fun l => (comesG (scc_Calls.f l0_0 l0_1 l0_2) FUEL l []).map upI
theorem raw_inN {n : Nat} {ins : List S58} {bs : List S40} {x : Int} (h : x ∈ rawL n ins bs) : inR n (rd_T58 ins x).f3 = true := by
 unfold rawL at h
 obtain ⟨l, hl, hx⟩ := List.mem_flatten.mp h
 obtain ⟨b, _, rfl⟩ := List.mem_map.mp hl
 have := (List.mem_filter.mp hx).2
 unfold callAt at this
 simp only [Bool.and_eq_true, decide_eq_true_eq] at this
 exact this.2.2.2
theorem calls_in {l0 : List S150} {l1 : List S152} {l2 : List S26} {a1 : Int} {r : List Int} (h : scc_Calls.f l0 l1 l2 a1 = some r) : ∀ x ∈ r, inR l2.length x = true := by
 unfold scc_Calls.f at h
 obtain ⟨ps, hps, rfl⟩ := Option.map_eq_some_iff.mp h
 intro x hx
 rw [upI_mem] at hx
 obtain ⟨p, hp, rfl⟩ := List.mem_map.mp hx
 unfold scc_Places.f at hps
 split at hps
 ·split at hps
  ·obtain rfl := Option.some.inj hps
   obtain ⟨i, hi, rfl⟩ := List.mem_map.mp hp
   rw [upI_mem] at hi
   exact raw_inN hi
  ·cases hps
 ·obtain rfl := Option.some.inj hps
  cases hp
def comes_at.T9 : Bool × List (List Nat × List Nat) := (true, [([], []), ([], []), ([1], [1]), ([0, 2], [0, 2]), ([], []), ([], []), ([], []), ([5, 6, 3], [5, 6]), ([4, 7, 7], [4, 7]), ([3, 8, 0, 1, 2, 3], [0, 3]), ([8, 9, 0, 1, 2, 3, 4, 5, 6, 7, 8, 9], [4, 8])])
def comes_at.B9 : List Nat := [0, 0, 2, 7, 0, 0, 0, 111, 255, 511, 1023]
theorem comes_at.tab9 : rtab .any (opsOf Try.f32 9) = comes_at.T9 := by kernel_rfl
theorem comes_at.bits9 : waitsOk comes_at.T9.2 comes_at.B9 = true := by kernel_rfl
set_option maxRecDepth 100000 in
set_option maxHeartbeats 4000000 in
theorem comes_at {A0 A1 A2 : Option Addr} {c0 c1 c2 : Nat} {l0 : List S150} {l1 : List S152} {l2 : List S26} (a1 : Int) (r : List Int) (w : World) (hp : PAt w A0 c0 l0 A1 c1 l1 A2 c2 l2) (h : scc_Comes.f l0 l1 l2 a1 = some r) :
  Calls Try.prog 32 #[.agg #[.slice A0 l0.length c0, .slice A1 l1.length c1, .slice A2 l2.length c2], .int .i64 a1] w fun e w' => ∃ v0_ : Value, e = .returned (v0_) ∧ (Kd.int .i64).R 3 w' w.heap.size (fun _ => True) v0_ r ∧ Below w.heap.size w w' := by
 unfold scc_Comes.f at h
 obtain ⟨l, hl, h⟩ := Option.bind_eq_some_iff.mp h
 obtain ⟨out, hout, rfl⟩ := Option.map_eq_some_iff.mp h
 clear h
 have HIN : Aside0 (∀ x ∈ l, inR l2.length x = true) := ⟨calls_in hl⟩
 have HM2 := Aside0.mk (Kd.C_max hp.r2)
 have HQ := Aside0.mk hout; have HL := Aside0.mk hl
 have HB0 := Aside0.mk (below_alloc (below_alloc (Below.refl w.heap.size w) (.cells #[.slice A0 l0.length c0, .slice A1 l1.length c1, .slice A2 l2.length c2] 48)) (.map #[] 0))
 have HBX : Aside0 (((w.alloc (.cells #[.slice A0 l0.length c0, .slice A1 l1.length c1, .slice A2 l2.length c2] 48)).alloc (.map #[] 0)).heap[w.heap.size]? = some (.cells #[.slice A0 l0.length c0, .slice A1 l1.length c1, .slice A2 l2.length c2] 48 (0, 0))) := ⟨blk_alloc (blk_new _ _) _⟩
 have HPW := Aside0.mk hp
 have HS0 : Aside0 (SI ((w.alloc (.cells #[.slice A0 l0.length c0, .slice A1 l1.length c1, .slice A2 l2.length c2] 48)).alloc (.map #[] 0)) (w.heap.size + 1) []) := ⟨by
  have := SI.made (w.alloc (.cells #[.slice A0 l0.length c0, .slice A1 l1.length c1, .slice A2 l2.length c2] 48))
  rw [World.size_alloc] at this
  exact this⟩
 clear hp hout hl
 have hmm := @run_makeMap Try.prog
 go_enter Try.func32, Try.ntmps32
 go_upto_region 2 with fail
 generalize (w.alloc (.cells #[.slice A0 l0.length c0, .slice A1 l1.length c1, .slice A2 l2.length c2] 48)).alloc (.map #[] 0) = W0 at HB0 HBX HS0 ⊢
 obtain ⟨bm, hbm⟩ : ∃ bm, bm = w.heap.size + 1 := ⟨_, rfl⟩
 rw [← hbm] at HS0 ⊢
 have HBM : Aside0 (w.heap.size ≤ bm) := ⟨by omega⟩
 clear hbm hmm
 have ks := bk3 HBX.out
 go_wp2_with fail
 refine (calls_at a1 l W0 (HPW.out.below HB0.out) HL.out).mono ?_
 rintro e w1 ⟨v0, rfl, hv0, hb1⟩
 have HB1 := Aside0.mk (below_step HB0.out hb1)
 have HBX1 := Aside0.mk (blk_below HBX.out hb1)
 have HS1 := Aside0.mk (HS0.out.below hb1)
 have HT1 : Aside0 ((Kd.int .i64).R 3 w1 w.heap.size (fun k => True ∧ some k ≠ (Value.slice none 0 0).ownBlock) v0 l) := ⟨Kd.R_mono (Kd.R_lower hv0 HB0.out.size) (fun k _ => ⟨trivial, by simp [Value.ownBlock]⟩)⟩
 clear hb1 HBX HS0 ks hv0 HB0
 go_wp2_with fail
 go_loopg [6, 7, 8] FUEL (fun kq v6 v7 _ wr => ∃ todo ou : List Int, Aside0 (comesG (scc_Calls.f l0 l1 l2) kq todo ou = some out) ∧ Aside0 ((Kd.int .i64).R 3 wr w.heap.size (fun k => True ∧ some k ≠ v7.ownBlock) v6 todo) ∧ Aside0 ((Kd.int .i64).R 3 wr w.heap.size (fun _ => True) v7 ou) ∧ Aside0 (SI wr bm ou) ∧ Aside0 (Below w.heap.size w wr) ∧ Aside0 (wr.heap[w.heap.size]? = some (.cells #[.slice A0 l0.length c0, .slice A1 l1.length c1, .slice A2 l2.length c2] 48 (0, 0))) ∧ Aside0 (∀ x ∈ todo, inR l2.length x = true))
 case atStart => exact ⟨l, [], HQ, HT1, ⟨Kd.R_nil _ _ _ _ _⟩, HS1, HB1, HBX1, HIN⟩
 case round =>
  clear HQ HT1 HS1 HB1 HBX1 HIN
  obtain ⟨todo, ou, HQ, HT, HO, HS, HB, HBX, HIN⟩ := hrel
  cases gk with
  | zero => exact absurd HQ.out (by simp [comesG])
  | succ kq =>
  obtain ⟨A, c, rfl, hc, hC⟩ := Kd.R_reads HT.out
  have htm := Kd.C_max hC
  by_cases hp : 0 < todo.length
  ·have hq := HQ.out
   unfold comesG at hq
   rw [if_pos hp] at hq
   obtain ⟨m, hm⟩ : ∃ m, todo.length = m + 1 := ⟨todo.length - 1, by omega⟩
   have em : todo.length - 1 = m := by omega
   rw [em] at hq
   obtain ⟨x, hx⟩ : ∃ x, x = rd todo (m : Int) := ⟨_, rfl⟩
   obtain ⟨tk, htk⟩ : ∃ tk, tk = todo.take m := ⟨_, rfl⟩
   rw [← hx, ← htk] at hq
   obtain ⟨ad, ea, hcell⟩ := Kd.at_int hC (m : Int) (by omega) (by omega)
   subst ea
   simp only [Int.toNat_natCast] at hcell
   rw [← hx] at hcell
   obtain ⟨hcut, hR3⟩ := cut_stack (P := Try.prog) (t := 34) (e := 3) Try.underlying34 (by kernel_rfl) HT.out rfl hc hp
   rw [em, ← htk] at hR3
   rw [em] at hcut
   have hwr : IntKind.i64.wrap ((todo.length : Int) - 1) = (m : Int) := by rw [IntKind.wrap_i64]; omega
   have hcut2 : ∀ W : World, (Instr.slice 34 (.slice (some ad) todo.length c) none (some (.int .i64 (m : Int))) none).run Try.prog W = .ok (.slice (some ad) m c) W := fun W => by
    have := hcut W
    rwa [show ((todo.length : Int) - 1) = (m : Int) by omega] at this
   have htkl : tk.length = m := by rw [htk, List.length_take]; omega
   have hxin : inR l2.length x = true := HIN.out x (by rw [hx]; unfold rd; rw [Int.toNat_natCast, getD_at _ _ (by omega)]; exact List.getElem_mem _)
   have hxw : (Lit.int .i64 x).wf = true := by
    obtain ⟨q0, q1⟩ := inR_iff.mp hxin
    have := HM2.out
    exact wf_int q0 (by omega)
   have HINK : Aside0 (∀ x ∈ tk, inR l2.length x = true) := ⟨fun y hy => HIN.out y (by rw [htk] at hy; exact List.mem_of_mem_take hy)⟩
   have HTK := Aside0.mk htkl
   have HR3 := Aside0.mk hR3
   have hml : (m : Int) < (todo.length : Int) := by omega
   have HM := Aside0.mk hm
   have hd0 : decide (0 < (todo.length : Int)) = true := decide_eq_true (by omega)
   have HXW := Aside0.mk hxw
   cases hcx : ou.contains x with
   | true =>
    have hlk := HS.out.lookup hxw (q := true) (decide_eq_true (List.contains_iff_mem.mp hcx))
    rw [if_neg (by rw [hcx]; decide)] at hq
    have HQ2 := Aside0.mk hq
    clear hC hq hx htk hR3 hcut hc HT HQ htkl em hm hp hcx hxin hxw HIN
    go_wp2
    go_roundg kq
    case rel => exact ⟨tk, ou, HQ2, ⟨by have h := HR3.out; exact h⟩, HO, HS, HB, HBX, HINK⟩
    case measure => omega
   | false =>
    have hlk := HS.out.lookup hxw (q := false) (decide_eq_false (fun e => by rw [← List.contains_iff_mem, hcx] at e; cases e))
    have HNEW : Aside0 (addK ou x = ou ++ [x]) := ⟨addK_new (fun e => by rw [← List.contains_iff_mem, hcx] at e; cases e)⟩
    rw [if_pos hcx] at hq
    obtain ⟨ns, hns, hq⟩ := Option.bind_eq_some_iff.mp hq
    by_cases hlim : todo.length + ns.length ≤ LIMS ∧ ou.length < LIMS
    case neg => rw [if_neg hlim] at hq; cases hq
    rw [if_pos hlim] at hq
    have HQ2 := Aside0.mk hq; have HNS := Aside0.mk hns; have HLIM := Aside0.mk hlim
    have HINN : Aside0 (∀ x ∈ tk ++ ns, inR l2.length x = true) := ⟨fun y hy => (List.mem_append.mp hy).elim (HINK.out y) (calls_in hns y)⟩
    clear hC hq hx htk hR3 hcut hc HT HQ htkl em hm hp hcx hxin hxw HIN hns hlim HINK
    go_wp2_with (at_mapUpdate; refine SI.update_op HS.out rfl (.tmp 31) (.tmp 32) (.const (.bool true)) rfl rfl ?hn x rfl rfl HXW.out ?_)
    case hn => have := HLIM.out.2; unfold LIMS at this; unfold maxLen; omega
    intro w4 hs4 hg4
    rw [HNEW.out] at hs4
    have HB4 : Aside0 (Below w.heap.size w w4) := ⟨HB.out.grown hg4 HB.out.size (fun j hj => by injection hj with hj; have := HBM.out; omega)⟩
    have hneT : ∀ {α : Type} {d : Kd α} {okx : Nat → Prop} {vx : Value} {xs : List α}, d.R 3 wr w.heap.size okx vx xs → ∀ k, vx.ownBlock = some k → k ≠ bm := fun hR k hk e => (SI.ne_own HS.out (Kd.Q_of_R hR)) (by rw [hk, e])
    have HT4 : Aside0 ((Kd.int .i64).R 3 w4 w.heap.size (fun k => True ∧ some k ≠ u7.ownBlock) (.slice (some ad) m c) tk) := ⟨Kd.R_mono (Kd.R_grown (Kd.R_tight2 rfl HR3.out) hg4 (fun k hk e => hneT HR3.out k hk.1.symm (by injection e))) (fun k hk => hk.2)⟩
    have HO4 : Aside0 ((Kd.int .i64).R 3 w4 w.heap.size (fun _ => True) u7 ou) := ⟨Kd.R_mono (Kd.R_grown (Kd.R_tight rfl HO.out) hg4 (fun k hk e => hneT HO.out k hk.symm (by injection e))) (fun _ _ => trivial)⟩
    have HS4 := Aside0.mk hs4
    have HBX4 := Aside0.mk (blk_grown HBX.out hg4 (by have := HS.out.ne_cells HBX.out; simpa using fun e => this e.symm))
    clear hs4 hg4 hlk hneT HS HR3 HO HB HBX
    obtain ⟨Ao, co, eo⟩ := Kd.R_slice HO4.out
    subst eo
    go_upto_region 9 with fail
    refine start_ (n := 11) (S := fun w' => w'.heap[w.heap.size]? = some (.cells #[.slice A0 l0.length c0, .slice A1 l1.length c1, .slice A2 l2.length c2] 48 (0, 0))) (ds := []) (tf 0 11) (by kernel_rfl) rfl rfl ((blk_drew HBX4.out)) (fun hHeld => ?_)
    refine with_tabW comes_at.tab9 comes_at.bits9 (fun HT_ HW_ => ?_)
    refine pure_ (i := 0) (N := some 33) (v := ?_) (a' := ?_) (tf 1 10) rfl rfl (any_of HT_.out (by kernel_rfl)) (fun _ _ _ h => h) (Or.inl ⟨by rfl, ?_⟩) ?_ ?_
    rotate_left
    ·intro w'
     go_simp
     with_reducible rfl
    rotate_left
    ·simp only [Act.put, List.setIfInBounds_toArray, List.set_cons_zero, List.set_cons_succ, i64_w, i32_w]
     rfl
    refine pure_ (i := 1) (N := some 34) (v := ?_) (a' := ?_) (tf 2 9) rfl rfl (any_of HT_.out (by kernel_rfl)) (fun _ _ _ h => h) (Or.inl ⟨by rfl, ?_⟩) ?_ ?_
    rotate_left
    ·intro w'
     go_simp
     with_reducible rfl
    rotate_left
    ·simp only [Act.put, List.setIfInBounds_toArray, List.set_cons_zero, List.set_cons_succ, i64_w, i32_w]
     rfl
    refine pure_ (i := 4) (N := some 37) (v := ?_) (a' := ?_) #[true, true, false, false, true, false, false, false, false, false, false] rfl rfl (any_of HT_.out (by kernel_rfl)) (fun _ _ _ h => h) (Or.inl ⟨by rfl, ?_⟩) ?_ ?_
    rotate_left
    ·intro w'
     go_simp
     with_reducible rfl
    rotate_left
    ·simp only [Act.put, List.setIfInBounds_toArray, List.set_cons_zero, List.set_cons_succ, i64_w, i32_w]
     rfl
    refine pure_ (i := 6) (N := some 39) (v := ?_) (a' := ?_) #[true, true, false, false, true, false, true, false, false, false, false] rfl rfl (any_of HT_.out (by kernel_rfl)) (fun _ _ _ h => h) (Or.inl ⟨by rfl, ?_⟩) ?_ ?_
    rotate_left
    ·intro w'
     go_simp
     with_reducible rfl
    rotate_left
    ·simp only [Act.put, List.setIfInBounds_toArray, List.set_cons_zero, List.set_cons_succ, i64_w, i32_w]
     rfl
    refine take_ (i := 5) (N := some 38) (v := ?_) (a' := ?_) #[true, true, false, false, true, true, true, false, false, false, false] rfl rfl (take_ofW HT_.out HW_.out (by kernel_rfl)) (fun _ _ _ h => h) (Or.inl ⟨by rfl, ?_⟩) hHeld ?_ ?_
    rotate_left
    ·intro w' s0
     obtain ⟨x0, x1, x2, _⟩ := bk3 s0
     go_simp
     with_reducible rfl
    rotate_left
    ·simp only [Act.put, List.setIfInBounds_toArray, List.set_cons_zero, List.set_cons_succ, i64_w, i32_w]
     rfl
    refine one_ (i := 2) (N := some 35) #[true, true, true, false, true, true, true, false, false, false, false] rfl rfl (one_of HT_.out (by kernel_rfl)) (by decide) (fun K hK => ?_)
    refine value_ (w1 := ?_) (v := ?_) (by rfl) rfl ?_ ?_
    rotate_left 2
    ·go_simp
     constructor
     ·rfl
     ·rfl
    refine hK.out _ _ ((blk_alloc (blk_drew HBX4.out) _)) (fun hHeld => ?_)
    clear hK K
    refine norm_ (a' := ?_) ?_ ?_
    rotate_left
    ·show Act.put _ (some 35) _ = _
     simp only [Act.put, List.setIfInBounds_toArray, List.set_cons_zero, List.set_cons_succ, i64_w, i32_w]
     rfl
    refine one_ (i := 3) (N := some 36) (tf 7 4) rfl rfl (one_of HT_.out (by kernel_rfl)) (by decide) (fun K hK => ?_)
    refine Kd.R_append_step (Kd.int .i64) (w0 := w) (W := w4.drew) w.heap.size (by rfl) (.tmp 33) (.tmp 35) 34 3 (.int .i64 0) 8 rfl Try.underlying34 info3 rfl (by decide) (by decide) _ ou x [.int .i64 x] (fun _ => True) (fun _ => False) rfl rfl rfl (fun _ hk => hk.elim) (fun _ _ => trivial) (Kd.R_below HO4.out (below_drew (Below.refl _ _))) (below_drew HB4.out) HB4.out.size (by have := HLIM.out.2; unfold LIMS at this; omega) ?_
    intro v5 w5 hq5 hb5 hg5 hat5
    have HB5 := Aside0.mk hb5
    have HO5 := Aside0.mk hq5
    have HT5 := Aside0.mk (Kd.R_after (Kd.R_below HT4.out (below_drew (Below.refl _ _))) hg5 hat5)
    have HS5 := Aside0.mk (SI.kept (SI.below HS4.out (below_drew (Below.refl _ _))) hg5 (SI.ne_own HS4.out (Kd.Q_of_R HO4.out)))
    have HBX5 := Aside0.mk (blk_grown (blk_drew HBX4.out) hg5 (Kd.R_ne HO4.out HBX4.out (by decide)))
    clear hq5 hb5 hg5 hat5 HT4 HO4 HS4 HB4 HBX4
    refine hK.out _ _ (HBX5.out) (fun hHeld => ?_)
    clear hK K
    refine norm_ (a' := ?_) ?_ ?_
    rotate_left
    ·show Act.put _ (some 36) _ = _
     simp only [Act.put, List.setIfInBounds_toArray, List.set_cons_zero, List.set_cons_succ, i64_w, i32_w]
     rfl
    refine one_ (i := 7) (N := some 40) (tf 8 3) rfl rfl (one_of HT_.out (by kernel_rfl)) (by decide) (fun K hK => ?_)
    refine goes_ Try.func31 (by kernel_rfl) rfl #[.agg #[.slice A0 l0.length c0, .slice A1 l1.length c1, .slice A2 l2.length c2], .int .i64 x] (by rfl) rfl rfl (by simp only [List.map_toArray, List.map_cons, List.map_nil]; rfl) ?_
    refine (calls_at x ns _ (HPW.out.below HB5.out) HNS.out).mono ?_
    rintro e w6 ⟨vn, rfl, hrn, hb6⟩
    refine ⟨_, rfl, ?_⟩
    have HB6 := Aside0.mk (below_step HB5.out hb6)
    have HT6 := Aside0.mk (Kd.R_below HT5.out hb6)
    have HO6 := Aside0.mk (Kd.R_below HO5.out hb6)
    have HS6 := Aside0.mk (SI.below HS5.out hb6)
    have HBX6 := Aside0.mk (blk_below HBX5.out hb6)
    obtain ⟨An, cn, rfl, hcn, hCn⟩ := Kd.R_reads hrn
    have HCN := Aside0.mk hCn
    clear hrn hb6 hCn HT5 HO5 HS5 HB5 HBX5
    refine hK.out _ _ (HBX6.out) (fun hHeld => ?_)
    clear hK K
    refine norm_ (a' := ?_) ?_ ?_
    rotate_left
    ·show Act.put _ (some 40) _ = _
     simp only [Act.put, List.setIfInBounds_toArray, List.set_cons_zero, List.set_cons_succ, i64_w, i32_w]
     rfl
    refine one_ (i := 8) (N := some 41) (tf 9 2) rfl rfl (one_of HT_.out (by kernel_rfl)) (by decide) (fun K hK => ?_)
    refine Kd.R_append_rows_step (Kd.int .i64) (Rr := fun x cs => (Kd.int .i64).K w6 x cs) (w0 := w) w.heap.size (by rfl) (.tmp 37) (.tmp 40) 34 3 (.int .i64 0) 8 rfl Try.underlying34 info3 rfl (by decide) (by decide) _ tk ns An ns.length cn (fun k => True ∧ some k ≠ v5.ownBlock) (fun _ => False) rfl rfl HT6.out HCN.out (fun _ _ h => h) (fun _ hk => hk.elim) (fun k hk => ⟨trivial, fun e => by have := Kd.R_lt HO6.out k e.symm; omega⟩) HB6.out HB6.out.size (by have := HLIM.out.1; have := HTK.out; have := HM.out; unfold LIMS at *; omega) ?_
    intro v7 w7 hq7 hb7 hg7 hat7
    have HB7 := Aside0.mk hb7
    have HT7 : Aside0 ((Kd.int .i64).R 3 w7 w.heap.size (fun k => True ∧ some k ≠ v5.ownBlock) v7 (tk ++ ns)) := ⟨hq7⟩
    have HO7 : Aside0 ((Kd.int .i64).R 3 w7 w.heap.size (fun _ => True) v5 (ou ++ [x])) := ⟨Kd.R_mono (Kd.R_grown (Kd.R_tight rfl HO6.out) hg7 (fun k hk e => (HT6.out.1 k e.symm).2 hk)) (fun _ _ => trivial)⟩
    have HS7 := Aside0.mk (SI.kept HS6.out hg7 (SI.ne_own HS6.out (Kd.Q_of_R HT6.out)))
    have HBX7 := Aside0.mk (blk_grown HBX6.out hg7 (Kd.R_ne HT6.out HBX6.out (by decide)))
    clear hq7 hb7 hg7 hat7 HT6 HO6 HS6 HB6 HCN HBX6
    refine hK.out _ _ (HBX7.out) (fun hHeld => ?_)
    clear hK K
    refine norm_ (a' := ?_) ?_ ?_
    rotate_left
    ·show Act.put _ (some 41) _ = _
     simp only [Act.put, List.setIfInBounds_toArray, List.set_cons_zero, List.set_cons_succ, i64_w, i32_w]
     rfl
    refine pure_ (i := 9) (N := some 7) (v := ?_) (a' := ?_) (tf 10 1) rfl rfl (any_of HT_.out (by kernel_rfl)) (fun _ _ _ h => h) (Or.inl ⟨by rfl, ?_⟩) ?_ ?_
    rotate_left
    ·intro w'
     go_simp
     with_reducible rfl
    rotate_left
    ·simp only [Act.put, List.setIfInBounds_toArray, List.set_cons_zero, List.set_cons_succ, i64_w, i32_w]
     rfl
    refine pure_ (i := 10) (N := some 6) (v := ?_) (a' := ?_) (tf 11 0) rfl rfl (any_of HT_.out (by kernel_rfl)) (fun _ _ _ h => h) (Or.inl ⟨by rfl, ?_⟩) ?_ ?_
    rotate_left
    ·intro w'
     go_simp
     with_reducible rfl
    rotate_left
    ·simp only [Act.put, List.setIfInBounds_toArray, List.set_cons_zero, List.set_cons_succ, i64_w, i32_w]
     rfl
    refine done_ (done_of HT_.out (by kernel_rfl)) ?_
    go_wp2
    go_roundg kq
    case rel => exact ⟨tk ++ ns, ou ++ [x], HQ2, HT7, HO7, HS7, HB7, HBX7, HINN⟩
    case measure => omega
  ·have hq := HQ.out
   unfold comesG at hq
   rw [if_neg hp] at hq
   split at hq
   case isFalse => cases hq
   rename_i hol
   have HOL := Aside0.mk hol
   obtain rfl := Option.some.inj hq
   have h0 : todo.length = 0 := by omega
   have HND := Aside0.mk HS.out.nodup
   clear hq HQ hC hc HT hol
   rw [h0]
   clear h0 hp htm
   go_wp2_with fail
   refine (sort_R HO.out (by have := HOL.out; unfold LIMS at this; omega)).mono ?_
   rintro e w3 ⟨rfl, hR3, hg3⟩
   rw [sort_is HND.out] at hR3
   have HR3 := Aside0.mk hR3
   have HB3 := Aside0.mk (Below.grown HB.out hg3 HB.out.size (fun k hk => Kd.R_base HO.out k hk))
   clear hR3 hg3
   go_wp2
   go_ret
   exact ⟨_, rfl, HR3.out, HB3.out⟩
theorem scc_Comes.calls (A0_0 : Option Addr) (c0_0 : Nat) (l0_0 : List (S150)) (A0_1 : Option Addr) (c0_1 : Nat) (l0_1 : List (S152)) (A0_2 : Option Addr) (c0_2 : Nat) (l0_2 : List (S26)) (a1 : Int) (r : List Int) (w : World) (hr0_0 : Kd.C k150 w A0_0 l0_0.length l0_0) (hc0_0 : l0_0.length ≤ c0_0) (hr0_1 : Kd.C k152 w A0_1 l0_1.length l0_1) (hc0_1 : l0_1.length ≤ c0_1) (hr0_2 : Kd.C k26 w A0_2 l0_2.length l0_2) (hc0_2 : l0_2.length ≤ c0_2) (h : scc_Comes.f l0_0 l0_1 l0_2 a1 = some r) :
  Calls Try.prog 32 #[.agg #[.slice A0_0 l0_0.length c0_0, .slice A0_1 l0_1.length c0_1, .slice A0_2 l0_2.length c0_2], .int .i64 a1] w fun e w' => ∃ v0_ : Value, e = .returned (v0_) ∧ Kd.R (Kd.int .i64) 3 w' w.heap.size (fun _ => True) v0_ r ∧ Below w.heap.size w w' :=
 comes_at a1 r w ⟨hr0_0, hc0_0, hr0_1, hc0_1, hr0_2, hc0_2⟩ h
end Go.Proofs.Ytclhjalgflebfaa.Q
namespace Go.Proofs.Ytclhjalgflebfaa.Q
open Go.RowKit Go.Proofs.YtclhjalgflebfaaW.PrintWords Go.Proofs.YtclhjalgflebfaaW.PrintLast Go.Proofs.YtclhjalgflebfaaW.PrintMore
attribute [local go_sem] max2_int min2_int max_two min_two max_three min_three max_four min_four   -- for this text's walks alone
set_option linter.unusedVariables false
set_option linter.unusedSimpArgs false
/-! ### scc_IsLoop: function 34 -/
def scc_IsLoop.f (k : Nat) (l0_0 : List (S150)) (l0_1 : List (S152)) (l0_2 : List (S26)) (a1 : Int) : Option (Bool) := (scc_Comes.f l0_0 l0_1 l0_2 a1).bind fun t239 => ((slices_Contains_int_int.f k t239 a1).bind fun t242 => (some t242))
theorem scc_IsLoop.mono : ∀ a0 a1 a2 a3 k, LeO (scc_IsLoop.f k a0 a1 a2 a3) (scc_IsLoop.f (k + 1) a0 a1 a2 a3) := by
 intro a0 a1 a2 a3 k
 unfold scc_IsLoop.f
 repeat' first
   | (with_reducible exact slices_Contains_int_int.mono _ _ _)
   | (with_reducible exact LeO.refl _)
   | (with_reducible exact LeO.none _)
   | (with_reducible refine LeO.ite ?_ ?_)
   | (with_reducible refine LeO.bind ?_ (fun _ => ?_))
   | exact slices_Contains_int_int.mono _ _ _
   | exact LeO.none _
   | refine LeO.ite ?_ ?_
   | refine LeO.bind ?_ (fun _ => ?_)
set_option maxHeartbeats 8000000 in
set_option maxRecDepth 100000 in
theorem scc_IsLoop.calls (k : Nat) (A0_0 : Option Addr) (c0_0 : Nat) (l0_0 : List (S150)) (A0_1 : Option Addr) (c0_1 : Nat) (l0_1 : List (S152)) (A0_2 : Option Addr) (c0_2 : Nat) (l0_2 : List (S26)) (a1 : Int) (r : Bool) (w : World) (hr0_0 : Kd.C k150 w A0_0 l0_0.length l0_0) (hc0_0 : l0_0.length ≤ c0_0) (hr0_1 : Kd.C k152 w A0_1 l0_1.length l0_1) (hc0_1 : l0_1.length ≤ c0_1) (hr0_2 : Kd.C k26 w A0_2 l0_2.length l0_2) (hc0_2 : l0_2.length ≤ c0_2) (h : scc_IsLoop.f k l0_0 l0_1 l0_2 a1 = some r) :
  Calls Try.prog 34 #[.agg #[.slice A0_0 l0_0.length c0_0, .slice A0_1 l0_1.length c0_1, .slice A0_2 l0_2.length c0_2], .int .i64 a1] w fun e w' => e = .returned (.bool r) ∧ Below w.heap.size w w' := by
 have hu48 := Try.underlying48
 have HR0_0 := Aside0.mk hr0_0
 have HC0_0 := Aside0.mk hc0_0
 clear hr0_0 hc0_0
 have HR0_1 := Aside0.mk hr0_1
 have HC0_1 := Aside0.mk hc0_1
 clear hr0_1 hc0_1
 have HR0_2 := Aside0.mk hr0_2
 have HC0_2 := Aside0.mk hc0_2
 clear hr0_2 hc0_2
 have HB := Aside0.mk (Below.refl w.heap.size w)
 have H : ((scc_Comes.f l0_0 l0_1 l0_2 a1).bind fun t239 => ((slices_Contains_int_int.f k t239 a1).bind fun t242 => (some t242))) = some r := h
 clear h
 replace H := Option.bind_eq_some_iff.mp H
 obtain ⟨t239, A30, H⟩ := H
 replace H : ((slices_Contains_int_int.f k t239 a1).bind fun t242 => (some t242)) = some r := H
 have A3 := Aside0.mk A30
 clear A30
 replace H := Option.bind_eq_some_iff.mp H
 obtain ⟨t242, A40, H⟩ := H
 replace H : (some t242) = some r := H
 have A4 := Aside0.mk A40
 clear A40
 obtain rfl := Option.some.inj H
 go_enter Try.func34, Try.ntmps34
 go_wp2_with (first | ((with_reducible refine gate_dst (N := 2) rfl ?_); refine box_event ?hg (N := 2) ?hd (cs := #[.slice A0_0 l0_0.length c0_0, .slice A0_1 l0_1.length c0_1, .slice A0_2 l0_2.length c0_2]) (t := 48) ?hr ?_; (case hd => rfl); (case hg => rfl); (case hr => first | (go_simp; done) | (go_simp; rfl)); intro gb238 hg w5 hbox hb; have n0_ := Aside0.mk (below_step (by repeat (first | (with_reducible first | exact HB.out | apply below_alloc | apply pw_below_drewN | apply below_drew1) | exact HB.out)) hb); have n1_ := Aside0.mk (hbox); have n2_ := Aside0.mk ((by rw [hg]; exact (below_size (by repeat (first | (with_reducible first | exact HB.out | apply below_alloc | apply pw_below_drewN | apply below_drew1) | exact HB.out))) : w.heap.size ≤ gb238)); have n3_ := Aside0.mk ((by rw [hg]; exact (below_size (by repeat (first | (with_reducible first | exact HB.out | apply below_alloc | apply pw_below_drewN | apply below_drew1) | exact HB.out))) : w.heap.size ≤ gb238)); clear HB; have HB := n0_; have BK238 := n1_; have GW238 := n2_; have GE238 := n3_; clear n0_ n1_ n2_ n3_; clear hb hbox hg; have hcz6_0 : w5.cell? ⟨gb238, 0, none⟩ = some (.slice A0_0 l0_0.length c0_0) := (blk_cell BK238.out 0).trans rfl; have hcz6_1 : w5.cell? ⟨gb238, 1, none⟩ = some (.slice A0_1 l0_1.length c0_1) := (blk_cell BK238.out 1).trans rfl; have hcz6_2 : w5.cell? ⟨gb238, 2, none⟩ = some (.slice A0_2 l0_2.length c0_2) := (blk_cell BK238.out 2).trans rfl; have hfz6_0 := blk_frozen BK238.out 0; have hfz6_1 := blk_frozen BK238.out 1; have hfz6_2 := blk_frozen BK238.out 2) | ((with_reducible refine gate_callee (f := 32) rfl ?_); refine goesL_ (some 7) rfl rfl Try.func32 (by kernel_rfl) rfl #[.agg #[.slice A0_0 l0_0.length c0_0, .slice A0_1 l0_1.length c0_1, .slice A0_2 l0_2.length c0_2], .int .i64 a1] rfl (by (try simp only [List.map_toArray, List.map_cons, List.map_nil]); first | done | rfl | (simp only [List.length_drop, List.length_take]; rfl)) ?_; (with_reducible refine (scc_Comes.calls _ _ l0_0 _ _ l0_1 _ _ l0_2 a1 t239 _ ?side1 ?side2 ?side3 ?side4 ?side5 ?side6 A3.out).mono ?_); (case side1 => repeat (first | exact (Kd.C_below HR0_0.out HB.out) | (with_reducible refine Kd.C_alloc ?_ _) | (with_reducible refine Kd.C_drewN ?_ _) | (with_reducible refine Kd.C_drew ?_))); (case side2 => exact HC0_0.out); (case side3 => repeat (first | exact (Kd.C_below HR0_1.out HB.out) | (with_reducible refine Kd.C_alloc ?_ _) | (with_reducible refine Kd.C_drewN ?_ _) | (with_reducible refine Kd.C_drew ?_))); (case side4 => exact HC0_1.out); (case side5 => repeat (first | exact (Kd.C_below HR0_2.out HB.out) | (with_reducible refine Kd.C_alloc ?_ _) | (with_reducible refine Kd.C_drewN ?_ _) | (with_reducible refine Kd.C_drew ?_))); (case side6 => exact HC0_2.out); rintro e w7 ⟨v240, rfl, ho0, hb⟩; refine ⟨_, rfl, ?_⟩; have n0_ := Aside0.mk (Kd.R_lower ho0 (below_size (by repeat (first | (with_reducible first | exact HB.out | apply below_alloc | apply pw_below_drewN | apply below_drew1 | refine below_set ?_ GE238.out) | exact HB.out)))); have n1_ := Aside0.mk (blk_below (g := gb238) (o := .cells #[.slice A0_0 l0_0.length c0_0, .slice A0_1 l0_1.length c0_1, .slice A0_2 l0_2.length c0_2] 48 (0, 0)) (by (with_reducible repeat (first | refine blk_drewN ?_ _ | refine blk_drew ?_ | refine blk_alloc ?_ _)); exact BK238.out) hb); have n2_ := Aside0.mk (below_step (by repeat (first | (with_reducible first | exact HB.out | apply below_alloc | apply pw_below_drewN | apply below_drew1 | refine below_set ?_ GE238.out) | exact HB.out)) hb); clear BK238; clear HB; have HO241 := n0_; have BK238 := n1_; have HB := n2_; clear n0_ n1_ n2_; (try clear hb); (try clear hb2); (try clear hk); (try clear hi); (try clear ho0); obtain ⟨Ao8, co8, eo8⟩ := Kd.R_slice HO241.out; subst eo8) | ((with_reducible refine gate_callee (f := 59) rfl ?_); refine goesL_ (some 9) rfl rfl Try.func59 (by kernel_rfl) rfl #[.slice Ao8 t239.length co8, .int .i64 a1] rfl (by (try simp only [List.map_toArray, List.map_cons, List.map_nil]); first | done | rfl | (simp only [List.length_drop, List.length_take]; rfl)) ?_; (with_reducible refine (slices_Contains_int_int.calls k _ _ t239 a1 t242 _ ?side1 ?side2 A4.out).mono ?_); (case side1 => repeat (first | exact (Kd.R_reads' HO241.out).2.2 | (with_reducible refine Kd.C_alloc ?_ _) | (with_reducible refine Kd.C_drewN ?_ _) | (with_reducible refine Kd.C_drew ?_))); (case side2 => exact (Kd.R_reads' HO241.out).2.1); rintro e w' ⟨rfl, ⟨nd, rfl⟩⟩; refine ⟨_, rfl, ?_⟩))
 go_ret
 exact ⟨by first | rfl | (simp [errW_none, errW_some] <;> rfl) | (simp [*, errW_none, errW_some] <;> rfl), by repeat (first | (with_reducible first | exact HB.out | apply below_alloc | apply pw_below_drewN | apply below_drew1 | refine below_set ?_ GE238.out) | exact HB.out)⟩
theorem eqA38 (d : Nat) (w : World) (x0 y0 : Int) (x1 y1 : Int) :
  (Op.equalIn (d + 2) 38 (.agg #[.int .i64 x0, .int .i64 x1]) (.agg #[.int .i64 y0, .int .i64 y1])).run Try.prog w = .ok (x0 == y0 && (x1 == y1)) w := by
 have hs : (Try.prog.info? 3).isSome = true := by kernel_rfl
 obtain ⟨i, hi⟩ := Option.isSome_iff_exists.mp hs
 have hc : Try.prog.cellsOf 3 = 1 := by kernel_rfl
 have h1 : ∀ a b : Int, (Op.equalIn (d + 1) 3 (.int .i64 a) (.int .i64 b)).run Try.prog w = .ok (a == b) w := fun a b => by go_simp
 have p0 : ∀ a b : Int, (part 3 #[.int .i64 a, .int .i64 b] 0).run Try.prog w = .ok (.int .i64 a) w := fun a b => by go_simp
 have p1 : ∀ a b : Int, (part 3 #[.int .i64 a, .int .i64 b] 1).run Try.prog w = .ok (.int .i64 b) w := fun a b => by go_simp
 rw [Go.run_equalIn_array w (d + 1) _ _ Try.underlying38 hi, hc]
 show (Op.eqItems (d + 1) 3 1 _ _ [0, 1]).run Try.prog w = _
 simp only [Op.eqItems, Sem.run_bind, Nat.zero_mul, Nat.one_mul, p0, h1, Result.andThen_ok]
 cases (x0 == y0)
 ·simp
 ·simp only [Bool.not_true, Bool.false_eq_true, if_false, Sem.run_bind, p1, h1, Result.andThen_ok]
  cases (x1 == y1) <;> simp
end Go.Proofs.Ytclhjalgflebfaa.Q
/- Which knots each waits for, in memory: a map of sets. -/
namespace Go.Proofs.Ytclhjalgflebfaa.Q
open Go.RowKit Go.Proofs.YtclhjalgflebfaaW.PrintWords Go.Proofs.YtclhjalgflebfaaW.PrintLast Go.Proofs.YtclhjalgflebfaaW.PrintMore
set_option linter.unusedVariables false
set_option linter.unusedSimpArgs false
theorem zeroM (w : World) : (zeroValue 77).run Try.prog w = .ok (.map none) w := by kernel_rfl
theorem mE : ElemK Try.prog 77 mapElem Value.map mapDat (fun _ => True) none := map_elemK zeroM
/-- Block bl is a map from the keys ks to sets. -/
structure WSt (W : World) (w0 bl : Nat) (ks : List Int) (m : Int → Option Nat) (L : Int → List Int) : Prop where
 map : MapG iK mE W bl ks m
 low : w0 ≤ bl
 inner : ∀ k ∈ ks, ∃ b, m k = some b ∧ SI W b (L k) ∧ w0 ≤ b ∧ b ≠ bl
 inj : ∀ k ∈ ks, ∀ k' ∈ ks, m k = m k' → k = k'
section
variable {W W1 : World} {w0 bl : Nat} {ks : List Int} {m : Int → Option Nat} {L : Int → List Int}
theorem WSt.move (h : WSt W w0 bl ks m L) (hk : ∀ k : Nat, (∃ es c, W.heap[k]? = some (Obj.map es c)) → W1.heap[k]? = W.heap[k]?) : WSt W1 w0 bl ks m L := by
 refine ⟨h.map.move (hk bl h.map.is_map), h.low, fun k hk2 => ?_, h.inj⟩
 obtain ⟨b, h1, h2, h3⟩ := h.inner k hk2
 exact ⟨b, h1, SI.move h2 (hk b (MapG.is_map h2)), h3⟩
theorem WSt.below (h : WSt W w0 bl ks m L) (hb : Below W.heap.size W W1) : WSt W1 w0 bl ks m L := h.move (fun k ⟨es, c, he⟩ => hb.block k (by have := (Array.getElem?_eq_some_iff.1 he).1; exact this))
theorem WSt.alloc (h : WSt W w0 bl ks m L) (o : Obj) : WSt (W.alloc o) w0 bl ks m L := h.below (below_alloc (Below.refl _ _) o)
theorem WSt.kept {T : Nat → Prop} (h : WSt W w0 bl ks m L) (hk : Kept W W1 T) (hT : ∀ (k : Nat) es c, W.heap[k]? = some (Obj.map es c) → ¬ T k) : WSt W1 w0 bl ks m L := h.move (fun k ⟨es, c, he⟩ => hk.2 k (by have := (Array.getElem?_eq_some_iff.1 he).1; exact this) (hT k es c he))
theorem WSt.setCell (h : WSt W w0 bl ks m L) {g j : Nat} {cs : Array Value} {t : TypeId} (hg : W.heap[g]? = some (.cells cs t (0, 0))) (u : Value) : WSt (W.setCell ⟨g, j, none⟩ u) w0 bl ks m L := h.move (fun k ⟨es, c, he⟩ => Below.heap_setCell W ⟨g, j, none⟩ u k (by rintro rfl; rw [hg] at he; cases he))
theorem WSt.added {b : Nat} {k : Int} (h : WSt W w0 bl ks m L) (hb : SI W b []) (hnew : ∀ k ∈ ks, m k ≠ some b) (hbl : b ≠ bl) (hlow : w0 ≤ b) (hk : k ∉ ks) (hM : MapG iK mE W1 bl (addK ks k) (setF m k (some b))) (hg : W.grownBy W1 (some bl)) :
  WSt W1 w0 bl (ks ++ [k]) (setF m k (some b)) (setF L k []) := by
 rw [addK_new hk] at hM
 refine ⟨hM, h.low, fun x hx => ?_, fun x hx y hy e => ?_⟩
 ·unfold setF
  by_cases e : x = k
  ·rw [if_pos e, if_pos e]
   exact ⟨b, rfl, hb.kept hg (fun e2 => hbl (by injection e2)), hlow, hbl⟩
  ·rw [if_neg e, if_neg e]
   obtain ⟨b', h1, h2, h3, h4⟩ := h.inner x ((List.mem_append.mp hx).resolve_right (by simpa using e))
   exact ⟨b', h1, h2.kept hg (fun e2 => h4 (by injection e2)), h3, h4⟩
 ·unfold setF at e
  by_cases e1 : x = k
  ·by_cases e2 : y = k
   ·rw [e1, e2]
   ·rw [if_pos e1, if_neg e2] at e
    exact absurd e.symm (hnew y ((List.mem_append.mp hy).resolve_right (by simpa using e2)))
  ·by_cases e2 : y = k
   ·rw [if_neg e1, if_pos e2] at e
    exact absurd e (hnew x ((List.mem_append.mp hx).resolve_right (by simpa using e1)))
   ·rw [if_neg e1, if_neg e2] at e
    exact h.inj x ((List.mem_append.mp hx).resolve_right (by simpa using e1)) y ((List.mem_append.mp hy).resolve_right (by simpa using e2)) e
theorem WSt.turn {b : Nat} {k : Int} {l : List Int} (h : WSt W w0 bl ks m L) (hk : k ∈ ks) (hm : m k = some b) (hS : SI W1 b l) (hg : W.grownBy W1 (some b)) : WSt W1 w0 bl ks m (setF L k l) := by
 obtain ⟨b0, q1, q2, q3, q4⟩ := h.inner k hk
 rw [hm] at q1
 injection q1 with q1
 subst q1
 refine ⟨h.map.kept hg (fun e => q4 (by injection e with e; exact e.symm)), h.low, fun x hx => ?_, h.inj⟩
 unfold setF
 by_cases e : x = k
 ·rw [if_pos e, e]; exact ⟨b, hm, hS, q3, q4⟩
 ·rw [if_neg e]
  obtain ⟨b', h1, h2, h3⟩ := h.inner x hx
  exact ⟨b', h1, h2.kept hg (fun e2 => e (h.inj x hx k hk (by rw [h1, hm]; exact e2))), h3⟩
end
theorem load_slice (w : World) (g : Nat) (A : Option Addr) (n c : Nat) (hc : w.cell? ⟨g, 0, none⟩ = some (.slice A n c)) : (loadVar 84 ⟨g, 0, none⟩).run Try.prog w = .ok (.slice A n c) w := by
 have h84 := Try.underlying84
 simp [loadVar, go_sem, run_underlying h84, hc]
section
variable {w : World} {g : Nat} {A : Option Addr} {n c : Nat}
theorem meth_of (name : String) (f : Nat) (hc : w.cell? ⟨g, 0, none⟩ = some (.slice A n c)) (e : Sem.run Try.prog (Go.method 254 83 (.pointer (some ⟨g, 0, none⟩)) name) w = Sem.run Try.prog (do let r ← loadVar 84 ⟨g, 0, none⟩; pure (f, r)) w) :
  Sem.run Try.prog (Go.method 254 83 (.pointer (some ⟨g, 0, none⟩)) name) w = .ok (f, .slice A n c) w := by
 rw [e]
 have := load_slice w g A n c hc
 simp [this, Result.andThen]
theorem meth_len (hc : w.cell? ⟨g, 0, none⟩ = some (.slice A n c)) : Sem.run Try.prog (Go.method 254 83 (.pointer (some ⟨g, 0, none⟩)) "Len") w = .ok (63, .slice A n c) w := meth_of _ 63 hc (by kernel_rfl)
theorem meth_less (hc : w.cell? ⟨g, 0, none⟩ = some (.slice A n c)) : Sem.run Try.prog (Go.method 254 83 (.pointer (some ⟨g, 0, none⟩)) "Less") w = .ok (116, .slice A n c) w := meth_of _ 116 hc (by kernel_rfl)
theorem meth_swap (hc : w.cell? ⟨g, 0, none⟩ = some (.slice A n c)) : Sem.run Try.prog (Go.method 254 83 (.pointer (some ⟨g, 0, none⟩)) "Swap") w = .ok (120, .slice A n c) w := meth_of _ 120 hc (by kernel_rfl)
end
theorem en63 : ∀ args w, (callFunc 63 args).run Try.prog w = .ok (.enter 63 args) w := enters_of Try.func63 (by kernel_rfl) rfl
theorem en116 : ∀ args w, (callFunc 116 args).run Try.prog w = .ok (.enter 116 args) w := enters_of Try.func116 (by kernel_rfl) rfl
theorem en117 : ∀ args w, (callFunc 117 args).run Try.prog w = .ok (.enter 117 args) w := enters_of Try.func117 (by kernel_rfl) rfl
theorem en118 : ∀ args w, (callFunc 118 args).run Try.prog w = .ok (.enter 118 args) w := enters_of Try.func118 (by kernel_rfl) rfl
theorem en120 : ∀ args w, (callFunc 120 args).run Try.prog w = .ok (.enter 120 args) w := enters_of Try.func120 (by kernel_rfl) rfl
def swp (l : List Int) (i j : Nat) : List Int := (l.set i (l.getD j 0)).set j (l.getD i 0)
theorem swp_len (l : List Int) (i j : Nat) : (swp l i j).length = l.length := by simp [swp]
theorem getD_set (l : List Int) {i : Nat} (hi : i < l.length) (x : Int) (k : Nat) : (l.set i x).getD k 0 = if k = i then x else l.getD k 0 := by
 simp only [List.getD_eq_getElem?_getD, List.getElem?_set]
 by_cases e : i = k
 ·subst e; simp [hi]
 ·rw [if_neg e, if_neg (fun q => e q.symm)]
theorem swp_at (l : List Int) {i j : Nat} (hi : i < l.length) (hj : j < l.length) (k : Nat) : (swp l i j).getD k 0 = if k = j then l.getD i 0 else if k = i then l.getD j 0 else l.getD k 0 := by
 unfold swp
 rw [getD_set _ (by rw [List.length_set]; exact hj), getD_set _ hi]
theorem swp_perm (l : List Int) {i j : Nat} (hi : i < l.length) (hj : j < l.length) : (swp l i j).Perm l := by
 unfold swp
 rw [getD_at _ _ hi, getD_at _ _ hj]
 exact List.set_set_perm hi hj
/-- A row of ints behind a pointer. -/
structure HpA (w : World) (base g : Nat) (v : Value) (l : List Int) : Prop where
 blk : w.heap[g]? = some (.cells #[v] 86 (0, 0))
 row : (Kd.int .i64).R 3 w base (fun _ => True) v l
 low : base ≤ g
theorem HpA.below {w w1 : World} {base g : Nat} {v : Value} {l : List Int} (h : HpA w base g v l) (hb : Below w.heap.size w w1) : HpA w1 base g v l := ⟨blk_below h.blk hb, Kd.R_below h.row hb, h.low⟩
set_option maxRecDepth 100000 in
set_option maxHeartbeats 4000000 in
theorem less_at {w : World} {base : Nat} {gr c : Nat} {l : List Int} (i j : Nat) (h : (Kd.int .i64).R 3 w base (fun _ => True) (.slice (some ⟨gr, 0, none⟩) l.length c) l) (hi : i < l.length) (hj : j < l.length) {r : Bool} (hr : decide (l.getD i 0 < l.getD j 0) = r) :
  Calls Try.prog 116 #[.slice (some ⟨gr, 0, none⟩) l.length c, .int .i64 i, .int .i64 j] w fun e w' => e = .returned (.bool r) ∧ Below w.heap.size w w' := by
 obtain ⟨x0, _⟩ := Kd.R_cell 0 h (i : Int) (by omega) (by omega)
 obtain ⟨x1, _⟩ := Kd.R_cell 0 h (j : Int) (by omega) (by omega)
 have hm := Kd.C_max (Kd.R_reads' h).2.2
 rw [Int.toNat_natCast] at x0 x1
 have e0 : rdOf 0 l (i : Int) = l.getD i 0 := rfl
 have e1 : rdOf 0 l (j : Int) = l.getD j 0 := rfl
 rw [e0] at x0
 rw [e1] at x1
 generalize l.getD i 0 = a at x0 hr
 generalize l.getD j 0 = b at x1 hr
 clear e0 e1 h
 go_enter Try.func116, Try.ntmps116
 go_wp2_with fail
 go_region
 go_wp2
 go_ret
 exact ⟨by rw [← hr]; rfl, below_drew (Below.refl _ _)⟩
set_option maxRecDepth 100000 in
set_option maxHeartbeats 4000000 in
theorem swap_at {w : World} {base : Nat} {gr c : Nat} {l : List Int} (i j : Nat) (h : (Kd.int .i64).R 3 w base (fun _ => True) (.slice (some ⟨gr, 0, none⟩) l.length c) l) (hi : i < l.length) (hj : j < l.length) :
  Calls Try.prog 120 #[.slice (some ⟨gr, 0, none⟩) l.length c, .int .i64 i, .int .i64 j] w fun e w' => e = .returned (.tuple #[]) ∧ (Kd.int .i64).R 3 w' base (fun _ => True) (.slice (some ⟨gr, 0, none⟩) l.length c) (swp l i j) ∧ w.grownBy w' (some gr) := by
 obtain ⟨x0, z0⟩ := Kd.R_cell 0 h (i : Int) (by omega) (by omega)
 obtain ⟨x1, z1⟩ := Kd.R_cell 0 h (j : Int) (by omega) (by omega)
 have hm := Kd.C_max (Kd.R_reads' h).2.2
 obtain ⟨a, ha⟩ : ∃ a, a = l.getD i 0 := ⟨_, rfl⟩
 obtain ⟨b, hb⟩ : ∃ b, b = l.getD j 0 := ⟨_, rfl⟩
 obtain ⟨h1, g1⟩ := Kd.R_putg h (i : Int) b
 obtain ⟨y1, u1⟩ := Kd.R_cell 0 (xs := l.set (i : Int).toNat b) (cap := c) (by rw [List.length_set]; exact h1) (j : Int) (by omega) (by rw [List.length_set]; omega)
 obtain ⟨h2, g2⟩ := Kd.R_putg h1 (j : Int) a
 rw [Int.toNat_natCast] at x0 x1 z0 z1 y1 u1 h2
 simp only [Int.toNat_natCast] at g1 g2 h2 y1 u1
 have e0 : rdOf 0 l (i : Int) = a := ha.symm
 have e1 : rdOf 0 l (j : Int) = b := hb.symm
 rw [e0] at x0
 rw [e1] at x1
 generalize rdOf 0 (l.set i b) (j : Int) = q at y1
 have H2 := Aside0.mk h2; have G1 := Aside0.mk g1; have G2 := Aside0.mk g2; have HA := Aside0.mk ha; have HBB := Aside0.mk hb
 clear h h1 h2 g1 g2 ha hb e0 e1
 go_enter Try.func120, Try.ntmps120
 go_wp2_with fail
 go_region
 go_wp2
 go_end0
 refine ⟨rfl, ?_, ?_⟩
 ·unfold swp
  rw [← HBB.out, ← HA.out]
  exact Kd.R_below H2.out (below_drew (Below.refl _ _))
 ·have q := G1.out.trans G2.out
  exact ⟨q.os, q.tape, q.output, q.size, q.block⟩
/-! heaps, told by a function of the place -/
def IsHeap (n : Nat) (f : Nat → Int) : Prop := ∀ k, 0 < k → k < n → f ((k - 1) / 2) ≤ f k
def ButF (n : Nat) (f : Nat → Int) (j : Nat) : Prop := ∀ k, 0 < k → k < n → (k ≠ j → f ((k - 1) / 2) ≤ f k) ∧ ((k - 1) / 2 = j → 0 < j → f ((j - 1) / 2) ≤ f k)
def ButD (n : Nat) (f : Nat → Int) (i : Nat) : Prop := ∀ k, 0 < k → k < n → ((k - 1) / 2 ≠ i → f ((k - 1) / 2) ≤ f k) ∧ ((k - 1) / 2 = i → 0 < i → f ((i - 1) / 2) ≤ f k)
def swF (f : Nat → Int) (i j : Nat) : Nat → Int := fun k => if k = j then f i else if k = i then f j else f k
theorem butF_end {n : Nat} {f : Nat → Int} {j : Nat} (h : ButF n f j) (hj : 0 < j → j < n → f ((j - 1) / 2) ≤ f j) : IsHeap n f := fun k h0 hk => by
 by_cases e : k = j
 ·subst e; exact hj h0 hk
 ·exact (h k h0 hk).1 e
theorem up_step {n : Nat} {f : Nat → Int} {j : Nat} (h0 : 0 < j) (hj : j < n) (H : ButF n f j) (hlt : f j < f ((j - 1) / 2)) : ButF n (swF f ((j - 1) / 2) j) ((j - 1) / 2) := by
 have hi : (j - 1) / 2 < j := by omega
 intro k hk hkn
 unfold swF
 refine ⟨fun hne => ?_, fun hp hi0 => ?_⟩
 ·by_cases e : k = j
  ·subst e; rw [if_neg (by omega), if_pos rfl, if_pos rfl]; omega
  ·rw [if_neg e, if_neg hne]
   by_cases e2 : (k - 1) / 2 = j
   ·rw [if_pos e2]; exact (H k hk hkn).2 e2 h0
   ·rw [if_neg e2]
    have := (H k hk hkn).1 e
    by_cases e3 : (k - 1) / 2 = (j - 1) / 2
    ·rw [if_pos e3]; rw [e3] at this; omega
    ·rw [if_neg e3]; exact this
 ·rw [if_neg (by omega), if_neg (by omega)]
  have h1 := (H ((j - 1) / 2) hi0 (by omega)).1 (by omega)
  by_cases e : k = j
  ·rw [if_pos e]; exact h1
  ·rw [if_neg e, if_neg (by omega)]
   have := (H k hk hkn).1 e
   rw [hp] at this; omega
theorem butD_end {n : Nat} {f : Nat → Int} {i : Nat} (h : ButD n f i) (hi : ∀ k, 0 < k → k < n → (k - 1) / 2 = i → f i ≤ f k) : IsHeap n f := fun k h0 hk => by
 by_cases e : (k - 1) / 2 = i
 ·rw [e]; exact hi k h0 hk e
 ·exact (h k h0 hk).1 e
theorem down_step {n : Nat} {f : Nat → Int} {i j : Nat} (hij : (j - 1) / 2 = i) (h0 : 0 < j) (hj : j < n) (H : ButD n f i) (hlt : f j < f i) (hmin : ∀ k, 0 < k → k < n → (k - 1) / 2 = i → f j ≤ f k) : ButD n (swF f i j) j := by
 have hlti : i < j := by omega
 intro k hk hkn
 unfold swF
 refine ⟨fun hne => ?_, fun hp _ => ?_⟩
 ·rw [if_neg hne]
  by_cases e : (k - 1) / 2 = i
  ·rw [if_pos e]
   by_cases e2 : k = j
   ·rw [if_pos e2]; omega
   ·rw [if_neg e2, if_neg (by omega)]; exact hmin k hk hkn e
  ·rw [if_neg e]
   by_cases e2 : k = j
   ·omega
   ·rw [if_neg e2]
    by_cases e3 : k = i
    ·rw [if_pos e3]
     have := (H j h0 hj).2 hij (by omega)
     rw [e3]; exact this
    ·rw [if_neg e3]; exact (H k hk hkn).1 e
 ·rw [if_neg (by omega), if_pos hij, if_neg (by omega), if_neg (by omega)]
  have := (H k hk hkn).1 (by omega)
  rw [hp] at this; exact this
theorem heap_min {n : Nat} {f : Nat → Int} (h : IsHeap n f) : ∀ k, k < n → f 0 ≤ f k := by
 intro k
 induction k using Nat.strongRecOn with
 | _ k ih =>
  intro hk
  by_cases e : k = 0
  ·subst e; exact Int.le_refl _
  ·have := ih ((k - 1) / 2) (by omega) (by omega)
   have := h k (by omega) hk
   omega
theorem swp_fun {l : List Int} {i j : Nat} (hi : i < l.length) (hj : j < l.length) : (fun k => (swp l i j).getD k 0) = swF (fun k => l.getD k 0) i j := by
 funext k; rw [swp_at l hi hj]; rfl
abbrev fnL (l : List Int) : Nat → Int := fun k => l.getD k 0
abbrev rowAt (gr n c : Nat) : Value := .slice (some ⟨gr, 0, none⟩) n c
theorem HpA.swapped {w w1 : World} {base g gr c : Nat} {l : List Int} {i j : Nat} (h : HpA w base g (rowAt gr l.length c) l) (hr : (Kd.int .i64).R 3 w1 base (fun _ => True) (.slice (some ⟨gr, 0, none⟩) l.length c) (swp l i j)) (hg : w.grownBy w1 (some gr)) : HpA w1 base g (rowAt gr (swp l i j).length c) (swp l i j) := by
 rw [swp_len]
 exact ⟨blk_grown h.blk hg (Kd.R_ne h.row h.blk (by decide)), hr, h.low⟩
set_option maxRecDepth 100000 in
set_option maxHeartbeats 4000000 in
theorem up_at {w W : World} {g gr c : Nat} {l : List Int} (j : Nat) (hj : j < l.length) (HB : Below w.heap.size w W) (H : HpA W w.heap.size g (rowAt gr l.length c) l) (hb : ButF l.length (fnL l) j) :
  Calls Try.prog 76 #[.iface 83 (.pointer (some ⟨g, 0, none⟩)), .int .i64 j] W fun e W' => e = .returned (.tuple #[]) ∧ ∃ l', l'.Perm l ∧ IsHeap l'.length (fnL l') ∧ HpA W' w.heap.size g (rowAt gr l'.length c) l' ∧ Below w.heap.size w W' ∧ Kept W W' (fun k => k = gr) := by
 have HH := Aside0.mk H; have HBB := Aside0.mk HB; have HBF := Aside0.mk hb
 clear H HB hb
 go_enter Try.func76, Try.ntmps76
 go_wp2_with fail
 go_loopg [1, 4] j (fun kq v1 _ wr => ∃ lc : List Int, v1 = .int .i64 kq ∧ kq < lc.length ∧ Aside0 (lc.Perm l) ∧ Aside0 (ButF lc.length (fnL lc) kq) ∧ Aside0 (HpA wr w.heap.size g (rowAt gr lc.length c) lc) ∧ Aside0 (Below w.heap.size w wr) ∧ Aside0 (Kept W wr (fun k => k = gr)))
 case atStart => exact ⟨l, rfl, hj, ⟨List.Perm.refl _⟩, HBF, HH, HBB, ⟨Kept.refl _ _⟩⟩
 case round =>
  clear HBF HH HBB
  obtain ⟨lc, rfl, hlt, HPM, HBF, HH, HB, HK⟩ := hrel
  have hm := Kd.C_max (Kd.R_reads' HH.out.row).2.2
  have c0 := blk_cell HH.out.blk 0
  have mL := meth_less (g := g) (A := some ⟨gr, 0, none⟩) (n := lc.length) (c := c) c0
  by_cases hz : gk = 0
  ·go_wp2
   go_end0
   exact ⟨rfl, lc, HPM.out, butF_end HBF.out (fun h0 => absurd h0 (by omega)), HH.out, HB.out, HK.out⟩
  ·obtain ⟨p, rfl⟩ : ∃ p, gk = p + 1 := ⟨gk - 1, by omega⟩
   have hne : (((p : Int) / 2) == ((p : Int) + 1)) = false := by simp; omega
   have eL := en116; have eS := en120
   have mS := meth_swap (g := g) (A := some ⟨gr, 0, none⟩) (n := lc.length) (c := c) c0
   have hR := HH.out.row
   cases hr : decide (lc.getD (p + 1) 0 < lc.getD (p / 2) 0) with
   | false =>
    have hls : Calls Try.prog 116 #[.slice (some ⟨gr, 0, none⟩) lc.length c, .int .i64 ((p : Int) + 1), .int .i64 ((p : Int) / 2)] wr fun e w' => e = .returned (.bool false) ∧ Below wr.heap.size wr w' := less_at (p + 1) (p / 2) hR hlt (by omega) hr
    clear hR
    go_wp2_with (go_at_fn 116; refine hls.mono ?_; rintro e w4 ⟨rfl, hd4⟩; have HH4 := Aside0.mk (HH.out.below hd4); have HB4 := Aside0.mk (below_step HB.out hd4); have HK4 := Aside0.mk (HK.out.below hd4); clear hd4)
    go_end0
    exact ⟨rfl, lc, HPM.out, butF_end HBF.out (fun h0 _ => by
     have := of_decide_eq_false hr
     show lc.getD ((p + 1 - 1) / 2) 0 ≤ lc.getD (p + 1) 0
     rw [Nat.add_sub_cancel]; omega), HH4.out, HB4.out, HK4.out⟩
   | true =>
    have hls : Calls Try.prog 116 #[.slice (some ⟨gr, 0, none⟩) lc.length c, .int .i64 ((p : Int) + 1), .int .i64 ((p : Int) / 2)] wr fun e w' => e = .returned (.bool true) ∧ Below wr.heap.size wr w' := less_at (p + 1) (p / 2) hR hlt (by omega) hr
    clear hR
    go_upto_region 2 with (go_at_fn 116; refine hls.mono ?_; rintro e w4 ⟨rfl, hd4⟩; have HH4 := Aside0.mk (HH.out.below hd4); have HB4 := Aside0.mk (below_step HB.out hd4); have HK4 := Aside0.mk (HK.out.below hd4); clear hd4)
    have mS4 := meth_swap (g := g) (A := some ⟨gr, 0, none⟩) (n := lc.length) (c := c) (blk_cell HH4.out.blk 0)
    have hsw : Calls Try.prog 120 #[.slice (some ⟨gr, 0, none⟩) lc.length c, .int .i64 ((p : Int) / 2), .int .i64 ((p : Int) + 1)] w4 fun e w' => e = .returned (.tuple #[]) ∧ (Kd.int .i64).R 3 w' w.heap.size (fun _ => True) (.slice (some ⟨gr, 0, none⟩) lc.length c) (swp lc (p / 2) (p + 1)) ∧ w4.grownBy w' (some gr) := swap_at (p / 2) (p + 1) HH4.out.row (by omega) hlt
    clear mL mS hls c0 HH HB HK
    go_wp2_with (go_at_fn 120; refine hsw.mono ?_; rintro e w5 ⟨rfl, hr5, hg5⟩; have HH5 := Aside0.mk (HpA.swapped HH4.out hr5 hg5); have HB5 := Aside0.mk (HB4.out.grown hg5 HB4.out.size (fun k hk => Kd.R_base HH4.out.row k hk)); have HK5 := Aside0.mk (Kept.of_grown hg5 HK4.out (fun k hk => .inl (by injection hk with hk; exact hk.symm))); clear hr5 hg5)
    go_roundg (p / 2)
    case measure => omega
    case rel => exact ⟨swp lc (p / 2) (p + 1), rfl, by rw [swp_len]; omega, ⟨(swp_perm lc (by omega) hlt).trans HPM.out⟩, ⟨by
     rw [swp_len]
     show ButF _ (fun k => (swp lc (p / 2) (p + 1)).getD k 0) _
     rw [swp_fun (by omega) hlt]
     have := up_step (n := lc.length) (f := fun k => lc.getD k 0) (j := p + 1) (by omega) hlt HBF.out (by
      rw [Nat.add_sub_cancel]; exact of_decide_eq_true hr)
     rwa [Nat.add_sub_cancel] at this⟩, HH5, HB5, HK5⟩
set_option maxRecDepth 100000 in
set_option maxHeartbeats 4000000 in
theorem down_at {w W : World} {g gr c : Nat} {l : List Int} (n : Nat) (hn : n + 1 = l.length) (hl : l.length ≤ 1000000) (HB : Below w.heap.size w W) (H : HpA W w.heap.size g (rowAt gr l.length c) l) (hb : ButD n (fnL l) 0) :
  Calls Try.prog 77 #[.iface 83 (.pointer (some ⟨g, 0, none⟩)), .int .i64 0, .int .i64 n] W fun e W' => (∃ r, e = .returned (.bool r)) ∧ ∃ l', l'.Perm l ∧ IsHeap n (fnL l') ∧ (∀ k, n ≤ k → fnL l' k = fnL l k) ∧ HpA W' w.heap.size g (rowAt gr l'.length c) l' ∧ Below w.heap.size w W' ∧ Kept W W' (fun k => k = gr) := by
 have HH := Aside0.mk H; have HBB := Aside0.mk HB; have HBF := Aside0.mk hb
 have HLL := Aside0.mk hl; have HN := Aside0.mk hn
 clear H HB hb hl hn
 go_enter Try.func77, Try.ntmps77
 go_wp2_with fail
 go_loopg [7, 8, 9, 10] n (fun kq v7 _ _ _ wr => ∃ (i : Nat) (lc : List Int), v7 = .int .i64 i ∧ i + kq = n ∧ Aside0 (lc.length = n + 1) ∧ Aside0 (lc.Perm l) ∧ Aside0 (ButD n (fnL lc) i) ∧ Aside0 (∀ k, n ≤ k → fnL lc k = fnL l k) ∧ Aside0 (HpA wr w.heap.size g (rowAt gr lc.length c) lc) ∧ Aside0 (Below w.heap.size w wr) ∧ Aside0 (Kept W wr (fun k => k = gr)))
 case atStart => exact ⟨0, l, rfl, Nat.zero_add _, ⟨HN.out.symm⟩, ⟨List.Perm.refl _⟩, HBF, ⟨fun _ _ => rfl⟩, HH, HBB, ⟨Kept.refl _ _⟩⟩
 case round =>
  clear HBF HH HBB
  obtain ⟨i, lc, rfl, hik, HLC, HPM, HBF, HLST, HH, HB, HK⟩ := hrel
  have hnl : n ≤ 1000000 := by have := HLL.out; have := HN.out; omega
  have hm := Kd.C_max (Kd.R_reads' HH.out.row).2.2
  have c0 := blk_cell HH.out.blk 0
  have mL := meth_less (g := g) (A := some ⟨gr, 0, none⟩) (n := lc.length) (c := c) c0
  have eL := en116; have eS := en120
  by_cases hA : 2 * i + 1 < n
  ·have a1 : decide ((n : Int) ≤ 2 * (i : Int) + 1) = false := decide_eq_false (by omega)
   have a2 : decide (2 * (i : Int) + 1 < 0) = false := decide_eq_false (by omega)
   by_cases hB : 2 * i + 2 < n
   ·have a3 : decide (2 * (i : Int) + 1 + 1 < (n : Int)) = true := decide_eq_true (by omega)
    cases hr : decide (lc.getD (2 * i + 2) 0 < lc.getD (2 * i + 1) 0) with
    | true =>
     have hmin : ∀ k, 0 < k → k < n → (k - 1) / 2 = i → lc.getD (2 * i + 2) 0 ≤ lc.getD k 0 := fun k h0 hk hp => by
      have h1 := of_decide_eq_true hr
      rcases (show k = 2 * i + 1 ∨ k = 2 * i + 2 by omega) with e | e <;> subst e <;> omega
     have hl1 : Calls Try.prog 116 #[.slice (some ⟨gr, 0, none⟩) lc.length c, .int .i64 (2 * (i : Int) + 1 + 1), .int .i64 (2 * (i : Int) + 1)] wr fun e w' => e = .returned (.bool true) ∧ Below wr.heap.size wr w' := less_at (2 * i + 2) (2 * i + 1) HH.out.row (by have := HLC.out; omega) (by have := HLC.out; omega) hr
     go_wp2_with fail
     refine hl1.mono ?_
     rintro e w4 ⟨rfl, hd4⟩
     have HH4 := Aside0.mk (HH.out.below hd4); have HB4 := Aside0.mk (below_step HB.out hd4); have HK4 := Aside0.mk (HK.out.below hd4)
     clear hd4 hl1 mL c0 HH HB HK
     cases hq : decide (lc.getD (2 * i + 2) 0 < lc.getD i 0) with
     | false =>
      have mL5 := meth_less (g := g) (A := some ⟨gr, 0, none⟩) (n := lc.length) (c := c) (blk_cell HH4.out.blk 0)
      have hls : Calls Try.prog 116 #[.slice (some ⟨gr, 0, none⟩) lc.length c, .int .i64 (2 * (i : Int) + 1 + 1), .int .i64 (i : Int)] w4 fun e w' => e = .returned (.bool false) ∧ Below w4.heap.size w4 w' := less_at (2 * i + 2) i HH4.out.row (by have := HLC.out; omega) (by have := HLC.out; omega) hq
      go_wp2_with fail
      refine hls.mono ?_
      rintro e w5 ⟨rfl, hd5⟩
      have HH5 := Aside0.mk (HH4.out.below hd5); have HB5 := Aside0.mk (below_step HB4.out hd5); have HK5 := Aside0.mk (HK4.out.below hd5)
      clear hd5 hls mL5
      go_wp2
      go_ret
      exact ⟨⟨_, rfl⟩, lc, HPM.out, butD_end HBF.out (fun k h0 hk hp => by
       have h1 := hmin k h0 hk hp
       have h2 := of_decide_eq_false hq
       show lc.getD i 0 ≤ lc.getD k 0
       omega), HLST.out, HH5.out, HB5.out, HK5.out⟩
     | true =>
      have mL5 := meth_less (g := g) (A := some ⟨gr, 0, none⟩) (n := lc.length) (c := c) (blk_cell HH4.out.blk 0)
      have hls : Calls Try.prog 116 #[.slice (some ⟨gr, 0, none⟩) lc.length c, .int .i64 (2 * (i : Int) + 1 + 1), .int .i64 (i : Int)] w4 fun e w' => e = .returned (.bool true) ∧ Below w4.heap.size w4 w' := less_at (2 * i + 2) i HH4.out.row (by have := HLC.out; omega) (by have := HLC.out; omega) hq
      go_wp2_with fail
      refine hls.mono ?_
      rintro e w5 ⟨rfl, hd5⟩
      have HH5 := Aside0.mk (HH4.out.below hd5); have HB5 := Aside0.mk (below_step HB4.out hd5); have HK5 := Aside0.mk (HK4.out.below hd5)
      clear hd5 hls mL5
      have mS5 := meth_swap (g := g) (A := some ⟨gr, 0, none⟩) (n := lc.length) (c := c) (blk_cell HH5.out.blk 0)
      have hsw : Calls Try.prog 120 #[.slice (some ⟨gr, 0, none⟩) lc.length c, .int .i64 (i : Int), .int .i64 (2 * (i : Int) + 1 + 1)] w5 fun e w' => e = .returned (.tuple #[]) ∧ (Kd.int .i64).R 3 w' w.heap.size (fun _ => True) (.slice (some ⟨gr, 0, none⟩) lc.length c) (swp lc i (2 * i + 2)) ∧ w5.grownBy w' (some gr) := swap_at i (2 * i + 2) HH5.out.row (by have := HLC.out; omega) (by have := HLC.out; omega)
      go_wp2_with fail
      refine hsw.mono ?_
      rintro e w6 ⟨rfl, hr6, hg6⟩
      have HH6 := Aside0.mk (HpA.swapped HH5.out hr6 hg6); have HB6 := Aside0.mk (HB5.out.grown hg6 HB5.out.size (fun k hk => Kd.R_base HH5.out.row k hk)); have HK6 := Aside0.mk (Kept.of_grown hg6 HK5.out (fun k hk => .inl (by injection hk with hk; exact hk.symm)))
      clear hr6 hg6 hsw mS5
      go_wp2
      go_roundg (n - (2 * i + 2))
      case measure => omega
      case rel => exact ⟨2 * i + 2, swp lc i (2 * i + 2), by go_num, by omega, ⟨by rw [swp_len]; exact HLC.out⟩, ⟨(swp_perm lc (by have := HLC.out; omega) (by have := HLC.out; omega)).trans HPM.out⟩, ⟨by
       show ButD _ (fun k => (swp lc i (2 * i + 2)).getD k 0) _
       rw [swp_fun (by have := HLC.out; omega) (by have := HLC.out; omega)]
       exact down_step (n := n) (f := fun k => lc.getD k 0) (by omega) (by omega) (by omega) HBF.out (of_decide_eq_true hq) hmin⟩, ⟨fun k hk => by
       rw [← HLST.out k hk]
       show (swp lc i (2 * i + 2)).getD k 0 = lc.getD k 0
       rw [swp_at lc (by have := HLC.out; omega) (by have := HLC.out; omega), if_neg (by omega), if_neg (by omega)]⟩, HH6, HB6, HK6⟩
    | false =>
     have hmin : ∀ k, 0 < k → k < n → (k - 1) / 2 = i → lc.getD (2 * i + 1) 0 ≤ lc.getD k 0 := fun k h0 hk hp => by
      have h1 := of_decide_eq_false hr
      rcases (show k = 2 * i + 1 ∨ k = 2 * i + 2 by omega) with e | e <;> subst e <;> omega
     have hl1 : Calls Try.prog 116 #[.slice (some ⟨gr, 0, none⟩) lc.length c, .int .i64 (2 * (i : Int) + 1 + 1), .int .i64 (2 * (i : Int) + 1)] wr fun e w' => e = .returned (.bool false) ∧ Below wr.heap.size wr w' := less_at (2 * i + 2) (2 * i + 1) HH.out.row (by have := HLC.out; omega) (by have := HLC.out; omega) hr
     go_wp2_with fail
     refine hl1.mono ?_
     rintro e w4 ⟨rfl, hd4⟩
     have HH4 := Aside0.mk (HH.out.below hd4); have HB4 := Aside0.mk (below_step HB.out hd4); have HK4 := Aside0.mk (HK.out.below hd4)
     clear hd4 hl1 mL c0 HH HB HK
     cases hq : decide (lc.getD (2 * i + 1) 0 < lc.getD i 0) with
     | false =>
      have mL5 := meth_less (g := g) (A := some ⟨gr, 0, none⟩) (n := lc.length) (c := c) (blk_cell HH4.out.blk 0)
      have hls : Calls Try.prog 116 #[.slice (some ⟨gr, 0, none⟩) lc.length c, .int .i64 (2 * (i : Int) + 1), .int .i64 (i : Int)] w4 fun e w' => e = .returned (.bool false) ∧ Below w4.heap.size w4 w' := less_at (2 * i + 1) i HH4.out.row (by have := HLC.out; omega) (by have := HLC.out; omega) hq
      go_wp2_with fail
      refine hls.mono ?_
      rintro e w5 ⟨rfl, hd5⟩
      have HH5 := Aside0.mk (HH4.out.below hd5); have HB5 := Aside0.mk (below_step HB4.out hd5); have HK5 := Aside0.mk (HK4.out.below hd5)
      clear hd5 hls mL5
      go_wp2
      go_ret
      exact ⟨⟨_, rfl⟩, lc, HPM.out, butD_end HBF.out (fun k h0 hk hp => by
       have h1 := hmin k h0 hk hp
       have h2 := of_decide_eq_false hq
       show lc.getD i 0 ≤ lc.getD k 0
       omega), HLST.out, HH5.out, HB5.out, HK5.out⟩
     | true =>
      have mL5 := meth_less (g := g) (A := some ⟨gr, 0, none⟩) (n := lc.length) (c := c) (blk_cell HH4.out.blk 0)
      have hls : Calls Try.prog 116 #[.slice (some ⟨gr, 0, none⟩) lc.length c, .int .i64 (2 * (i : Int) + 1), .int .i64 (i : Int)] w4 fun e w' => e = .returned (.bool true) ∧ Below w4.heap.size w4 w' := less_at (2 * i + 1) i HH4.out.row (by have := HLC.out; omega) (by have := HLC.out; omega) hq
      go_wp2_with fail
      refine hls.mono ?_
      rintro e w5 ⟨rfl, hd5⟩
      have HH5 := Aside0.mk (HH4.out.below hd5); have HB5 := Aside0.mk (below_step HB4.out hd5); have HK5 := Aside0.mk (HK4.out.below hd5)
      clear hd5 hls mL5
      have mS5 := meth_swap (g := g) (A := some ⟨gr, 0, none⟩) (n := lc.length) (c := c) (blk_cell HH5.out.blk 0)
      have hsw : Calls Try.prog 120 #[.slice (some ⟨gr, 0, none⟩) lc.length c, .int .i64 (i : Int), .int .i64 (2 * (i : Int) + 1)] w5 fun e w' => e = .returned (.tuple #[]) ∧ (Kd.int .i64).R 3 w' w.heap.size (fun _ => True) (.slice (some ⟨gr, 0, none⟩) lc.length c) (swp lc i (2 * i + 1)) ∧ w5.grownBy w' (some gr) := swap_at i (2 * i + 1) HH5.out.row (by have := HLC.out; omega) (by have := HLC.out; omega)
      go_wp2_with fail
      refine hsw.mono ?_
      rintro e w6 ⟨rfl, hr6, hg6⟩
      have HH6 := Aside0.mk (HpA.swapped HH5.out hr6 hg6); have HB6 := Aside0.mk (HB5.out.grown hg6 HB5.out.size (fun k hk => Kd.R_base HH5.out.row k hk)); have HK6 := Aside0.mk (Kept.of_grown hg6 HK5.out (fun k hk => .inl (by injection hk with hk; exact hk.symm)))
      clear hr6 hg6 hsw mS5
      go_wp2
      go_roundg (n - (2 * i + 1))
      case measure => omega
      case rel => exact ⟨2 * i + 1, swp lc i (2 * i + 1), by go_num, by omega, ⟨by rw [swp_len]; exact HLC.out⟩, ⟨(swp_perm lc (by have := HLC.out; omega) (by have := HLC.out; omega)).trans HPM.out⟩, ⟨by
       show ButD _ (fun k => (swp lc i (2 * i + 1)).getD k 0) _
       rw [swp_fun (by have := HLC.out; omega) (by have := HLC.out; omega)]
       exact down_step (n := n) (f := fun k => lc.getD k 0) (by omega) (by omega) (by omega) HBF.out (of_decide_eq_true hq) hmin⟩, ⟨fun k hk => by
       rw [← HLST.out k hk]
       show (swp lc i (2 * i + 1)).getD k 0 = lc.getD k 0
       rw [swp_at lc (by have := HLC.out; omega) (by have := HLC.out; omega), if_neg (by omega), if_neg (by omega)]⟩, HH6, HB6, HK6⟩
   ·have a3 : decide (2 * (i : Int) + 1 + 1 < (n : Int)) = false := decide_eq_false (by omega)
    have hmin : ∀ k, 0 < k → k < n → (k - 1) / 2 = i → lc.getD (2 * i + 1) 0 ≤ lc.getD k 0 := fun k h0 hk hp => by
     have e : k = 2 * i + 1 := by omega
     subst e; exact Int.le_refl _
    clear mL
    cases hq : decide (lc.getD (2 * i + 1) 0 < lc.getD i 0) with
    | false =>
     have mL5 := meth_less (g := g) (A := some ⟨gr, 0, none⟩) (n := lc.length) (c := c) (blk_cell HH.out.blk 0)
     have hls : Calls Try.prog 116 #[.slice (some ⟨gr, 0, none⟩) lc.length c, .int .i64 (2 * (i : Int) + 1), .int .i64 (i : Int)] wr fun e w' => e = .returned (.bool false) ∧ Below wr.heap.size wr w' := less_at (2 * i + 1) i HH.out.row (by have := HLC.out; omega) (by have := HLC.out; omega) hq
     go_wp2_with fail
     refine hls.mono ?_
     rintro e w5 ⟨rfl, hd5⟩
     have HH5 := Aside0.mk (HH.out.below hd5); have HB5 := Aside0.mk (below_step HB.out hd5); have HK5 := Aside0.mk (HK.out.below hd5)
     clear hd5 hls mL5
     go_wp2
     go_ret
     exact ⟨⟨_, rfl⟩, lc, HPM.out, butD_end HBF.out (fun k h0 hk hp => by
      have h1 := hmin k h0 hk hp
      have h2 := of_decide_eq_false hq
      show lc.getD i 0 ≤ lc.getD k 0
      omega), HLST.out, HH5.out, HB5.out, HK5.out⟩
    | true =>
     have mL5 := meth_less (g := g) (A := some ⟨gr, 0, none⟩) (n := lc.length) (c := c) (blk_cell HH.out.blk 0)
     have hls : Calls Try.prog 116 #[.slice (some ⟨gr, 0, none⟩) lc.length c, .int .i64 (2 * (i : Int) + 1), .int .i64 (i : Int)] wr fun e w' => e = .returned (.bool true) ∧ Below wr.heap.size wr w' := less_at (2 * i + 1) i HH.out.row (by have := HLC.out; omega) (by have := HLC.out; omega) hq
     go_wp2_with fail
     refine hls.mono ?_
     rintro e w5 ⟨rfl, hd5⟩
     have HH5 := Aside0.mk (HH.out.below hd5); have HB5 := Aside0.mk (below_step HB.out hd5); have HK5 := Aside0.mk (HK.out.below hd5)
     clear hd5 hls mL5
     have mS5 := meth_swap (g := g) (A := some ⟨gr, 0, none⟩) (n := lc.length) (c := c) (blk_cell HH5.out.blk 0)
     have hsw : Calls Try.prog 120 #[.slice (some ⟨gr, 0, none⟩) lc.length c, .int .i64 (i : Int), .int .i64 (2 * (i : Int) + 1)] w5 fun e w' => e = .returned (.tuple #[]) ∧ (Kd.int .i64).R 3 w' w.heap.size (fun _ => True) (.slice (some ⟨gr, 0, none⟩) lc.length c) (swp lc i (2 * i + 1)) ∧ w5.grownBy w' (some gr) := swap_at i (2 * i + 1) HH5.out.row (by have := HLC.out; omega) (by have := HLC.out; omega)
     go_wp2_with fail
     refine hsw.mono ?_
     rintro e w6 ⟨rfl, hr6, hg6⟩
     have HH6 := Aside0.mk (HpA.swapped HH5.out hr6 hg6); have HB6 := Aside0.mk (HB5.out.grown hg6 HB5.out.size (fun k hk => Kd.R_base HH5.out.row k hk)); have HK6 := Aside0.mk (Kept.of_grown hg6 HK5.out (fun k hk => .inl (by injection hk with hk; exact hk.symm)))
     clear hr6 hg6 hsw mS5
     go_wp2
     go_roundg (n - (2 * i + 1))
     case measure => omega
     case rel => exact ⟨2 * i + 1, swp lc i (2 * i + 1), by go_num, by omega, ⟨by rw [swp_len]; exact HLC.out⟩, ⟨(swp_perm lc (by have := HLC.out; omega) (by have := HLC.out; omega)).trans HPM.out⟩, ⟨by
      show ButD _ (fun k => (swp lc i (2 * i + 1)).getD k 0) _
      rw [swp_fun (by have := HLC.out; omega) (by have := HLC.out; omega)]
      exact down_step (n := n) (f := fun k => lc.getD k 0) (by omega) (by omega) (by omega) HBF.out (of_decide_eq_true hq) hmin⟩, ⟨fun k hk => by
      rw [← HLST.out k hk]
      show (swp lc i (2 * i + 1)).getD k 0 = lc.getD k 0
      rw [swp_at lc (by have := HLC.out; omega) (by have := HLC.out; omega), if_neg (by omega), if_neg (by omega)]⟩, HH6, HB6, HK6⟩
  ·have a1 : decide ((n : Int) ≤ 2 * (i : Int) + 1) = true := decide_eq_true (by omega)
   go_wp2
   go_ret
   exact ⟨⟨_, rfl⟩, lc, HPM.out, butD_end HBF.out (fun k h0 hk hp => by omega), HLST.out, HH.out, HB.out, HK.out⟩
def TurnH (g : Nat) (v : Value) : Nat → Prop := fun k => k = g ∨ some k = v.ownBlock
def OwnLater (W : World) (v v' : Value) : Prop := v'.ownBlock = v.ownBlock ∨ ∀ k, v'.ownBlock = some k → W.heap.size ≤ k
theorem OwnLater.then_ {W w2 : World} {v v2 v3 : Value} (h : OwnLater w2 v v2) (hle : w2.heap.size ≤ W.heap.size) (k : OwnLater W v2 v3) : OwnLater w2 v v3 := by
 rcases k with k | k
 ·rcases h with h | h
  ·exact .inl (k.trans h)
  ·exact .inr (fun j hj => h j (k ▸ hj))
 ·exact .inr (fun j hj => Nat.le_trans hle (k j hj))
theorem meth_push (g : Nat) (w : World) : Sem.run Try.prog (Go.method 254 83 (.pointer (some ⟨g, 0, none⟩)) "Push") w = .ok (118, .pointer (some ⟨g, 0, none⟩)) w := by kernel_rfl
theorem meth_pop (g : Nat) (w : World) : Sem.run Try.prog (Go.method 254 83 (.pointer (some ⟨g, 0, none⟩)) "Pop") w = .ok (117, .pointer (some ⟨g, 0, none⟩)) w := by kernel_rfl
theorem len_at (A : Option Addr) (n c : Nat) (w : World) : Calls Try.prog 63 #[.slice A n c] w fun e w' => e = .returned (.int .i64 n) ∧ Below w.heap.size w w' := by
 go_enter Try.func63, Try.ntmps63
 go_wp2
 go_ret
 exact ⟨rfl, Below.refl _ _⟩
/-- A row that is not empty begins at its block's first cell. -/
theorem row_some {e base : Nat} {ok : Nat → Prop} {w : World} {v : Value} {xs : List Int} (h : (Kd.int .i64).R e w base ok v xs) (hn : 0 < xs.length) : ∃ gr c, v = .slice (some ⟨gr, 0, none⟩) xs.length c := by
 rcases int_row h with ⟨_, rfl⟩ | ⟨g, c, rfl, _⟩
 ·exact absurd hn (by simp)
 ·exact ⟨g, c, rfl⟩
theorem assert_int (x : Int) (w : World) : (Instr.typeAssert (.iface 3 (.int .i64 x)) 20 3 false).run Try.prog w = .ok (.int .i64 x) w := by kernel_rfl
theorem turn_own {W : World} {g gr n c : Nat} {v : Value} (h : OwnLater W v (rowAt gr n c)) {k : Nat} (hk : k = gr) : TurnH g v k ∨ W.heap.size ≤ k := by
 subst hk
 rcases h with h | h
 ·exact .inl (.inr (by rw [← h]; rfl))
 ·exact .inr (h k rfl)
def rpush_at.T0 : Bool × List (List Nat × List Nat) := (true, [([], []), ([], []), ([1], [1]), ([2], [2]), ([3], [3]), ([], []), ([5], [5]), ([6], [6]), ([4, 7], [4, 7]), ([0, 0, 1, 2, 3, 4, 5, 6, 7, 8], [0]), ([9, 0, 1, 2, 3, 4, 5, 6, 7, 8], [9]), ([10, 8, 8, 0, 1, 2, 3, 4, 5, 6, 7, 8], [8, 10])])
def rpush_at.B0 : List Nat := [0, 0, 2, 6, 14, 0, 32, 96, 254, 511, 1023, 2047]
theorem rpush_at.tab0 : rtab .any (opsOf Try.f118 0) = rpush_at.T0 := by kernel_rfl
theorem rpush_at.bits0 : waitsOk rpush_at.T0.2 rpush_at.B0 = true := by kernel_rfl
set_option maxRecDepth 100000 in
set_option maxHeartbeats 4000000 in
theorem rpush_at {w W : World} {g : Nat} {v : Value} {l : List Int} (x : Int) (HB : Below w.heap.size w W) (H : HpA W w.heap.size g v l) (hl : l.length ≤ LIMS) :
  Calls Try.prog 118 #[.pointer (some ⟨g, 0, none⟩), .iface 3 (.int .i64 x)] W fun e W' => e = .returned (.tuple #[]) ∧ ∃ v', HpA W' w.heap.size g v' (l ++ [x]) ∧ Below w.heap.size w W' ∧ Kept W W' (TurnH g v) ∧ OwnLater W v v' := by
 obtain ⟨A, c, rfl⟩ := Kd.R_slice H.row
 have HH := Aside0.mk H; have HBB := Aside0.mk HB; have HLL := Aside0.mk hl
 clear H HB hl
 have hta := assert_int x
 go_enter Try.func118, Try.ntmps118
 go_upto_region 0 with fail
 refine start_ (n := 12) (S := fun w' => w'.heap[g]? = some (.cells #[.slice A l.length c] 86 (0, 0))) (ds := [11]) (tf 0 12) (by kernel_rfl) rfl rfl ((blk_drew HH.out.blk)) (fun hHeld => ?_)
 refine with_tabW rpush_at.tab0 rpush_at.bits0 (fun HT_ HW_ => ?_)
 refine pure_ (i := 0) (N := some 4) (v := ?_) (a' := ?_) (tf 1 11) rfl rfl (any_of HT_.out (by kernel_rfl)) (fun _ _ _ h => h) (Or.inl ⟨by rfl, ?_⟩) ?_ ?_
 rotate_left
 ·intro w'
  go_simp
  with_reducible rfl
 rotate_left
 ·simp only [Act.put, List.setIfInBounds_toArray, List.set_cons_zero, List.set_cons_succ, i64_w, i32_w]
  rfl
 refine pure_ (i := 1) (N := some 5) (v := ?_) (a' := ?_) (tf 2 10) rfl rfl (any_of HT_.out (by kernel_rfl)) (fun _ _ _ h => h) (Or.inl ⟨by rfl, ?_⟩) ?_ ?_
 rotate_left
 ·intro w'
  go_simp
  with_reducible rfl
 rotate_left
 ·simp only [Act.put, List.setIfInBounds_toArray, List.set_cons_zero, List.set_cons_succ, i64_w, i32_w]
  rfl
 refine pure_ (i := 2) (N := some 6) (v := ?_) (a' := ?_) (tf 3 9) rfl rfl (any_of HT_.out (by kernel_rfl)) (fun _ _ _ h => h) (Or.inl ⟨by rfl, ?_⟩) ?_ ?_
 rotate_left
 ·intro w'
  go_simp
  with_reducible rfl
 rotate_left
 ·simp only [Act.put, List.setIfInBounds_toArray, List.set_cons_zero, List.set_cons_succ, i64_w, i32_w]
  rfl
 refine pure_ (i := 3) (N := some 7) (v := ?_) (a' := ?_) (tf 4 8) rfl rfl (any_of HT_.out (by kernel_rfl)) (fun _ _ _ h => h) (Or.inl ⟨by rfl, ?_⟩) ?_ ?_
 rotate_left
 ·intro w'
  go_simp
  with_reducible rfl
 rotate_left
 ·simp only [Act.put, List.setIfInBounds_toArray, List.set_cons_zero, List.set_cons_succ, i64_w, i32_w]
  rfl
 refine pure_ (i := 5) (N := some 9) (v := ?_) (a' := ?_) #[true, true, true, true, false, true, false, false, false, false, false, false] rfl rfl (any_of HT_.out (by kernel_rfl)) (fun _ _ _ h => h) (Or.inl ⟨by rfl, ?_⟩) ?_ ?_
 rotate_left
 ·intro w'
  go_simp
  with_reducible rfl
 rotate_left
 ·simp only [Act.put, List.setIfInBounds_toArray, List.set_cons_zero, List.set_cons_succ, i64_w, i32_w]
  rfl
 refine pure_ (i := 6) (N := some 10) (v := ?_) (a' := ?_) #[true, true, true, true, false, true, true, false, false, false, false, false] rfl rfl (any_of HT_.out (by kernel_rfl)) (fun _ _ _ h => h) (Or.inl ⟨by rfl, ?_⟩) ?_ ?_
 rotate_left
 ·intro w'
  go_simp
  with_reducible rfl
 rotate_left
 ·simp only [Act.put, List.setIfInBounds_toArray, List.set_cons_zero, List.set_cons_succ, i64_w, i32_w]
  rfl
 refine take_ (i := 4) (N := some 8) (v := ?_) (a' := ?_) (tf 7 5) rfl rfl (take_ofW HT_.out HW_.out (by kernel_rfl)) (fun _ _ _ h => h) (Or.inl ⟨by rfl, ?_⟩) hHeld ?_ ?_
 rotate_left
 ·intro w' s0
  obtain ⟨x0, _⟩ := bk1 s0
  go_simp
  with_reducible rfl
 rotate_left
 ·simp only [Act.put, List.setIfInBounds_toArray, List.set_cons_zero, List.set_cons_succ, i64_w, i32_w]
  rfl
 refine one_ (i := 7) (N := some 11) (tf 8 4) rfl rfl (one_of HT_.out (by kernel_rfl)) (by decide) (fun K hK => ?_)
 refine value_ (w1 := ?_) (v := ?_) (by rfl) rfl ?_ ?_
 rotate_left 2
 ·go_simp
  constructor
  ·rfl
  ·rfl
 refine hK.out _ _ ((blk_alloc hHeld _)) (fun hHeld => ?_)
 clear hK K
 refine norm_ (a' := ?_) ?_ ?_
 rotate_left
 ·show Act.put _ (some 11) _ = _
  simp only [Act.put, List.setIfInBounds_toArray, List.set_cons_zero, List.set_cons_succ, i64_w, i32_w]
  rfl
 refine one_ (i := 8) (N := some 12) (tf 9 3) rfl rfl (one_of HT_.out (by kernel_rfl)) (by decide) (fun K hK => ?_)
 refine Kd.R_append_step (Kd.int .i64) (w0 := w) (W := W.drew) w.heap.size (by rfl) (.tmp 8) (.tmp 11) 84 3 (.int .i64 0) 8 rfl Try.underlying84 info3 rfl (by decide) (by decide) _ l x [.int .i64 x] (fun _ => True) (fun _ => False) rfl rfl rfl (fun _ hk => hk.elim) (fun _ _ => trivial) (Kd.R_below HH.out.row (below_drew (Below.refl _ _))) (below_drew HBB.out) HBB.out.size (by have := HLL.out; unfold LIMS at this; omega) ?_
 intro v5 w5 hq5 hb5 hg5 hat5
 obtain ⟨A5, c5, rfl⟩ := Kd.R_slice hq5
 have HB5 := Aside0.mk hb5
 have HO5 := Aside0.mk hq5
 have HG5 := Aside0.mk (blk_grown (blk_drew HH.out.blk) hg5 (Kd.R_ne HH.out.row HH.out.blk (by decide)))
 have HK5 : Aside0 (Kept W w5 (TurnH g (.slice A l.length c))) := ⟨Kept.of_grown hg5 (Kept.drew (Kept.refl W _)) (fun k hk => .inl (.inr hk.symm))⟩
 have HOL : Aside0 (OwnLater W (.slice A l.length c) (.slice A5 (l ++ [x]).length c5)) := ⟨hat5.imp id (fun ⟨b_, hb1, hb2⟩ k hk => by rw [hb1] at hk; injection hk with hk; rw [← hk]; exact hb2)⟩
 clear hq5 hb5 hg5 hat5
 refine hK.out _ _ (HG5.out) (fun hHeld => ?_)
 clear hK K
 refine norm_ (a' := ?_) ?_ ?_
 rotate_left
 ·show Act.put _ (some 12) _ = _
  simp only [Act.put, List.setIfInBounds_toArray, List.set_cons_zero, List.set_cons_succ, i64_w, i32_w]
  rfl
 refine pure_ (i := 9) (N := some 13) (v := ?_) (a' := ?_) (tf 10 2) rfl rfl (any_of HT_.out (by kernel_rfl)) (fun _ _ _ h => h) (Or.inl ⟨by rfl, ?_⟩) ?_ ?_
 rotate_left
 ·intro w'
  go_simp
  with_reducible rfl
 rotate_left
 ·simp only [Act.put, List.setIfInBounds_toArray, List.set_cons_zero, List.set_cons_succ, i64_w, i32_w]
  rfl
 refine pure_ (i := 10) (N := some 14) (v := ?_) (a' := ?_) (tf 11 1) rfl rfl (any_of HT_.out (by kernel_rfl)) (fun _ _ _ h => h) (Or.inl ⟨by rfl, ?_⟩) ?_ ?_
 rotate_left
 ·intro w'
  go_simp
  with_reducible rfl
 rotate_left
 ·simp only [Act.put, List.setIfInBounds_toArray, List.set_cons_zero, List.set_cons_succ, i64_w, i32_w]
  rfl
 refine last_ (i := 11) (N := none) (tf 12 0) rfl rfl (one_of HT_.out (by kernel_rfl)) (by decide) (fun K hK => ?_)
 obtain ⟨y0, z0⟩ := bk1 hHeld
 refine skip_ (w1 := ?_) (by rfl) rfl ?_ ?_
 rotate_left
 ·go_simp
  rfl
 refine hK.out _ _ ?_
 clear hK K
 refine done_ (done_of HT_.out (by kernel_rfl)) ?_
 have HPM := Aside0.mk (show HpA (w5.setCell ⟨g, 0, none⟩ (.slice A5 (l ++ [x]).length c5)) w.heap.size g (.slice A5 (l ++ [x]).length c5) (l ++ [x]) from ⟨blk_put HG5.out 0 _ rfl, Kd.R_set HO5.out HG5.out (by decide) 0 _, HH.out.low⟩)
 have HB9 := Aside0.mk (below_set (j := 0) (v := .slice A5 (l ++ [x]).length c5) HB5.out HH.out.low)
 have HK9 := Aside0.mk (HK5.out.setCell (p := ⟨g, 0, none⟩) (.inl (.inl rfl)) (.slice A5 (l ++ [x]).length c5))
 have e5 : Value.slice A5 (l ++ [x]).length c5 = .slice A5 (l.length + 1) c5 := by rw [List.length_append, List.length_singleton]
 rw [e5] at HPM HB9 HK9 HOL
 go_wp2
 go_end0
 exact ⟨rfl, _, HPM.out, HB9.out, HK9.out, HOL.out⟩
/-- heap.Push. -/
theorem butF_snoc {l : List Int} (x : Int) (h : IsHeap l.length (fnL l)) : ButF (l ++ [x]).length (fnL (l ++ [x])) l.length := by
 rw [List.length_append, List.length_singleton]
 intro k hk hkn
 have hat : ∀ m, m < l.length → (l ++ [x]).getD m 0 = l.getD m 0 := fun m hm => by
  rw [getD_at _ _ (by rw [List.length_append]; omega), getD_at _ _ hm, List.getElem_append_left hm]
 refine ⟨fun hne => ?_, fun hp => by omega⟩
 show (l ++ [x]).getD _ 0 ≤ (l ++ [x]).getD k 0
 rw [hat _ (by omega), hat k (by omega)]
 exact h k hk (by omega)
set_option maxRecDepth 100000 in
set_option maxHeartbeats 4000000 in
theorem push_at {w W : World} {g : Nat} {v : Value} {l : List Int} (x : Int) (HB : Below w.heap.size w W) (H : HpA W w.heap.size g v l) (hl : l.length ≤ 100000) (hh : IsHeap l.length (fnL l)) :
  Calls Try.prog 62 #[.iface 83 (.pointer (some ⟨g, 0, none⟩)), .iface 3 (.int .i64 x)] W fun e W' => e = .returned (.tuple #[]) ∧ ∃ v' l', l'.Perm (x :: l) ∧ IsHeap l'.length (fnL l') ∧ HpA W' w.heap.size g v' l' ∧ Below w.heap.size w W' ∧ Kept W W' (TurnH g v) ∧ OwnLater W v v' := by
 have HH := Aside0.mk H; have HBB := Aside0.mk HB; have HLL := Aside0.mk hl; have HHP := Aside0.mk hh
 clear H HB hl hh
 have eP := en118; have eN := en63; have mP := meth_push g
 go_enter Try.func62, Try.ntmps62
 go_wp2_with fail
 refine (rpush_at x HBB.out HH.out (by have := HLL.out; unfold LIMS; omega)).mono ?_
 rintro e w1 ⟨rfl, v1, hh1, hb1, hk1, ho1⟩
 obtain ⟨gr, c1, rfl⟩ := row_some hh1.row (by simp)
 have HH1 := Aside0.mk hh1; have HB1 := Aside0.mk hb1; have HK1 := Aside0.mk hk1; have HO1 := Aside0.mk ho1
 have hbf := butF_snoc x HHP.out
 obtain ⟨l1, hl1⟩ : ∃ l1, l1 = l ++ [x] := ⟨_, rfl⟩
 have hll1 : l1.length = l.length + 1 := by rw [hl1]; simp
 rw [← hl1] at HH1 hbf hh1 HO1
 have hm := Kd.C_max (Kd.R_reads' hh1.row).2.2
 have mL := meth_len (g := g) (A := some ⟨gr, 0, none⟩) (n := l1.length) (c := c1) (blk_cell hh1.blk 0)
 have HBF := Aside0.mk hbf; have HL1 := Aside0.mk hl1; have HLN := Aside0.mk hll1
 have hpos : 0 < l1.length := by omega
 have hlt : l.length < l1.length := by omega
 have HLT := Aside0.mk hlt
 clear hh1 hb1 hk1 ho1 hbf hl1 hll1 hlt
 go_wp2_with fail
 refine (len_at _ _ _ w1).mono ?_
 rintro e w2 ⟨rfl, hd2⟩
 have HH2 := Aside0.mk (HH1.out.below hd2); have HB2 := Aside0.mk (below_step HB1.out hd2); have HK2 := Aside0.mk (HK1.out.below hd2)
 clear hd2 mL
 have hup := up_at (w := w) (W := w2) l.length HLT.out HB2.out HH2.out HBF.out
 have he : ((l1.length : Int) - 1) = (l.length : Int) := by have := HLN.out; omega
 go_wp2_with fail
 refine hup.mono ?_
 rintro e w3 ⟨rfl, l', hp3, hh3, hr3, hb3, hk3⟩
 have HFIN := Aside0.mk (And.intro hp3 (And.intro hh3 (And.intro hr3 hb3)))
 have HK3 : Aside0 (Kept W w3 (TurnH g v)) := ⟨HK2.out.then_ hk3 (fun k hk => turn_own HO1.out hk)⟩
 clear hp3 hh3 hr3 hb3 hk3 hup
 go_wp2
 go_end0
 obtain ⟨q1, q2, q3, q4⟩ := HFIN.out
 refine ⟨rfl, _, l', q1.trans ?_, q2, q3, q4, HK3.out, ?_⟩
 ·rw [HL1.out]; exact List.perm_append_comm
 ·exact HO1.out
theorem grown_set (w : World) (g j : Nat) (u : Value) : w.grownBy (w.setCell ⟨g, j, none⟩ u) (some g) := ⟨rfl, rfl, rfl, by simp, fun i _ hi => Below.heap_setCell w ⟨g, j, none⟩ u i (fun e => hi (by rw [e]))⟩
set_option maxRecDepth 100000 in
set_option maxHeartbeats 4000000 in
theorem rpop_at {w W : World} {g gr c m : Nat} {l : List Int} (hm : m + 1 = l.length) (HB : Below w.heap.size w W) (H : HpA W w.heap.size g (rowAt gr l.length c) l) :
  Calls Try.prog 117 #[.pointer (some ⟨g, 0, none⟩)] W fun e W' => e = .returned (.iface 3 (.int .i64 (l.getD m 0))) ∧ HpA W' w.heap.size g (rowAt gr m c) (l.take m) ∧ Below w.heap.size w W' ∧ W.grownBy W' (some g) := by
 have hc := (Kd.R_own H.row).choose_spec.1
 obtain ⟨A, c9, e9, hc9, hC⟩ := Kd.R_reads H.row
 have hmx := Kd.C_max hC
 obtain ⟨x0, _⟩ := Kd.R_cell 0 H.row (m : Int) (by omega) (by omega)
 rw [Int.toNat_natCast, show rdOf 0 l (m : Int) = l.getD m 0 from rfl] at x0
 obtain ⟨y, hy⟩ : ∃ y, y = l.getD m 0 := ⟨_, rfl⟩
 rw [← hy] at x0 ⊢
 obtain ⟨hcut, hR⟩ := cut_stack (P := Try.prog) (t := 84) (e := 3) Try.underlying84 (by kernel_rfl) H.row rfl (by injection e9 with _ _ e9; rw [e9]; exact hc9) (by omega)
 have em : l.length - 1 = m := by omega
 rw [em] at hcut hR
 have hwr : IntKind.i64.wrap ((l.length : Int) - 1) = (m : Int) := by rw [IntKind.wrap_i64]; omega
 have hcut2 : ∀ W : World, (Instr.slice 84 (.slice (some ⟨gr, 0, none⟩) l.length c) none (some (.int .i64 (m : Int))) none).run Try.prog W = .ok (.slice (some ⟨gr, 0, none⟩) m c) W := fun W => by
  have := hcut W
  rwa [show ((l.length : Int) - 1) = (m : Int) by omega] at this
 have hml : (m : Int) < (l.length : Int) := by omega
 obtain ⟨b0, z0⟩ := bk1 H.blk
 have HR2 : Aside0 (HpA (W.setCell ⟨g, 0, none⟩ (.slice (some ⟨gr, 0, none⟩) m c)) w.heap.size g (rowAt gr m c) (l.take m)) := ⟨⟨blk_put H.blk 0 _ rfl, Kd.R_set hR H.blk (by decide) 0 _, H.low⟩⟩
 have HB2 := Aside0.mk (below_set (j := 0) (v := .slice (some ⟨gr, 0, none⟩) m c) HB H.low)
 have HM := Aside0.mk hm
 clear H hc e9 hc9 hC hcut hR em HB hy hm
 go_enter Try.func117, Try.ntmps117
 go_wp2
 go_ret
 exact ⟨rfl, HR2.out, HB2.out, grown_set W g 0 _⟩
theorem take_fn {l : List Int} {n k : Nat} (hk : k < n) (hn : n ≤ l.length) : fnL (l.take n) k = fnL l k := by
 show (l.take n).getD k 0 = l.getD k 0
 rw [getD_at _ _ (by rw [List.length_take]; omega), getD_at _ _ (by omega), List.getElem_take]
set_option maxRecDepth 100000 in
set_option maxHeartbeats 4000000 in
theorem pop_at {w W : World} {g : Nat} {v : Value} {l : List Int} (HB : Below w.heap.size w W) (H : HpA W w.heap.size g v l) (hl : l.length ≤ 100000) (hh : IsHeap l.length (fnL l)) (hp : 0 < l.length) :
  Calls Try.prog 64 #[.iface 83 (.pointer (some ⟨g, 0, none⟩))] W fun e W' => ∃ x v' l', e = .returned (.iface 3 (.int .i64 x)) ∧ l.Perm (x :: l') ∧ (∀ y ∈ l, x ≤ y) ∧ IsHeap l'.length (fnL l') ∧ HpA W' w.heap.size g v' l' ∧ Below w.heap.size w W' ∧ Kept W W' (TurnH g v) ∧ OwnLater W v v' := by
 obtain ⟨gr, c, rfl⟩ := row_some H.row hp
 obtain ⟨n, hn⟩ : ∃ n, n + 1 = l.length := ⟨l.length - 1, by omega⟩
 have HH := Aside0.mk H; have HBB := Aside0.mk HB; have HLL := Aside0.mk hl; have HHP := Aside0.mk hh; have HN := Aside0.mk hn
 have hm := Kd.C_max (Kd.R_reads' H.row).2.2
 have he : ((l.length : Int) - 1) = (n : Int) := by omega
 have mL := meth_len (g := g) (A := some ⟨gr, 0, none⟩) (n := l.length) (c := c) (blk_cell H.blk 0)
 have eN := en63; have eS := en120; have eP := en117; have mP := meth_pop g
 clear H HB hl hh hn
 go_enter Try.func64, Try.ntmps64
 go_wp2_with fail
 refine (len_at _ _ _ W).mono ?_
 rintro e w2 ⟨rfl, hd2⟩
 have HH2 := Aside0.mk (HH.out.below hd2); have HB2 := Aside0.mk (below_step HBB.out hd2); have HK2 : Aside0 (Kept W w2 (TurnH g (rowAt gr l.length c))) := ⟨Kept.of_below hd2 _⟩
 clear hd2 mL
 have mS := meth_swap (g := g) (A := some ⟨gr, 0, none⟩) (n := l.length) (c := c) (blk_cell HH2.out.blk 0)
 have hsw := swap_at 0 n HH2.out.row (by have := HN.out; omega) (by have := HN.out; omega)
 go_wp2_with fail
 refine hsw.mono ?_
 rintro e w3 ⟨rfl, hr3, hg3⟩
 have HH3 := Aside0.mk (HpA.swapped HH2.out hr3 hg3)
 have HB3 := Aside0.mk (HB2.out.grown hg3 HB2.out.size (fun k hk => Kd.R_base HH2.out.row k hk))
 have HK3 := Aside0.mk (Kept.of_grown hg3 HK2.out (fun k hk => .inl (.inr hk.symm)))
 clear hr3 hg3 hsw mS
 obtain ⟨l1, hl1⟩ : ∃ l1, l1 = swp l 0 n := ⟨_, rfl⟩
 have hln1 : n + 1 = l1.length := by rw [hl1, swp_len]; exact HN.out
 have hat : ∀ k, fnL l1 k = if k = n then fnL l 0 else if k = 0 then fnL l n else fnL l k := fun k => by
  rw [hl1]; exact swp_at l (by have := HN.out; omega) (by have := HN.out; omega) k
 have hbd : ButD n (fnL l1) 0 := fun k h0 hk => ⟨fun hne => by
  rw [hat, hat, if_neg (by omega), if_neg hne, if_neg (by omega), if_neg (by omega)]
  exact HHP.out k h0 (by have := HN.out; omega), fun _ h => absurd h (by omega)⟩
 have HP1 : Aside0 (l1.Perm l) := ⟨by rw [hl1]; exact swp_perm l (by have := HN.out; omega) (by have := HN.out; omega)⟩
 rw [← hl1] at HH3
 have hdn := down_at (w := w) (W := w3) n hln1 (by have := HLL.out; have := HN.out; omega) HB3.out HH3.out hbd
 have HAT := Aside0.mk (hat n); have HL1 := Aside0.mk hln1
 clear hl1 hln1 hat hbd
 go_wp2_with fail
 refine hdn.mono ?_
 rintro e w4 ⟨⟨r4, rfl⟩, l2, hp4, hh4, hk4, hr4, hb4, hK4⟩
 have hl2 : n + 1 = l2.length := by rw [hp4.length_eq]; exact HL1.out
 have hpop := rpop_at (w := w) (W := w4) (m := n) hl2 hb4 hr4
 have HK4 := Aside0.mk (HK3.out.then_ hK4 (fun k hk => .inl (.inr (by rw [hk]; rfl))))
 have HX : Aside0 (l2.getD n 0 = l.getD 0 0) := ⟨by
  have h1 := hk4 n (Nat.le_refl _)
  have h2 := HAT.out
  rw [if_pos trivial] at h2
  exact h1.trans h2⟩
 have HP4 := Aside0.mk hp4; have HH4 := Aside0.mk hh4; have HL2 := Aside0.mk hl2
 clear hdn hp4 hh4 hk4 hr4 hb4 hK4 hl2
 go_wp2_with fail
 refine hpop.mono ?_
 rintro e w5 ⟨rfl, hr5, hb5, hg5⟩
 have HR5 := Aside0.mk hr5; have HB5 := Aside0.mk hb5
 have HK5 := Aside0.mk (Kept.of_grown hg5 HK4.out (fun k hk => .inl (.inl (by injection hk with hk; exact hk.symm))))
 clear hr5 hb5 hg5 hpop
 go_wp2
 go_ret
 have hl2 := HL2.out
 have hsplit : l2 = l2.take n ++ [l2.getD n 0] := by
  rw [getD_at _ _ (by omega), ← List.take_succ_eq_append_getElem (by omega), List.take_of_length_le (by omega)]
 refine ⟨l2.getD n 0, _, l2.take n, rfl, ?_, ?_, ?_, HR5.out, HB5.out, HK5.out, .inl rfl⟩
 ·refine (HP1.out.symm.trans HP4.out.symm).trans ?_
  conv => lhs; rw [hsplit]
  exact List.perm_append_comm
 ·intro y hy
  rw [HX.out]
  obtain ⟨k, hk, rfl⟩ := List.mem_iff_getElem.mp hy
  have := heap_min HHP.out k hk
  rw [← getD_at l 0 hk]
  exact this
 ·intro k h0 hk
  rw [List.length_take] at hk
  rw [take_fn (by omega) (by omega), take_fn (by omega) (by omega)]
  exact HH4.out k h0 (by omega)
/-- All functions of a knot. -/
def ofL (kn : List Int) (k : Int) : List Int := ascTo (fun i => decide (kn.getD i 0 = k)) kn.length
set_option maxRecDepth 100000 in
set_option maxHeartbeats 4000000 in
theorem of_at {w : World} {gt : Nat} {v0 v2 : Value} {A1 : Option Addr} {c1 : Nat} {kn : List Int} (k : Int) (hb : w.heap[gt]? = some (.cells #[v0, .slice A1 kn.length c1, v2] 81 (0, 0))) (hC : (Kd.int .i64).C w A1 kn.length kn) (hl : kn.length ≤ LIMS) :
  Calls Try.prog 65 #[.pointer (some ⟨gt, 0, none⟩), .int .i64 k] w fun e w' => ∃ v, e = .returned v ∧ (Kd.int .i64).R 3 w' w.heap.size (fun _ => True) v (ofL kn k) ∧ Below w.heap.size w w' := by
 have HC := Aside0.mk hC; have HL := Aside0.mk hl
 have hm := Kd.C_max hC
 obtain ⟨b0, b1, b2, _⟩ := bk3 hb
 obtain ⟨p, hp⟩ : ∃ p : Nat → Bool, p = fun i => decide (kn.getD i 0 = k) := ⟨_, rfl⟩
 have HP := Aside0.mk hp
 clear hC hl hb hp
 go_enter Try.func65, Try.ntmps65
 go_wp2_with fail
 go_loopg [5, 6, 7, 13] kn.length (fun kq v5 _ _ v13 wr => ∃ (i : Nat), v13 = .int .i64 i ∧ i + kq = kn.length ∧ Aside0 (Below w.heap.size w wr) ∧ Aside0 ((Kd.int .i64).R 3 wr w.heap.size (fun _ => True) v5 (ascTo p i)))
 case atStart => exact ⟨0, rfl, Nat.zero_add _, ⟨Below.refl _ _⟩, ⟨Kd.R_nil _ _ _ _ _⟩⟩
 case round =>
  clear b0 b1 b2
  obtain ⟨i, rfl, hik, HB, HO⟩ := hrel
  by_cases hlt : i < kn.length
  ·obtain ⟨k1, rfl⟩ : ∃ k1, gk = k1 + 1 := ⟨gk - 1, by omega⟩
   obtain ⟨ad, ea, hx0⟩ := at_int (Kd.C_below HC.out HB.out) i hlt
   subst ea
   obtain ⟨x, hx⟩ : ∃ x, x = kn.getD i 0 := ⟨_, rfl⟩
   rw [← hx] at hx0
   have hll : (ascTo p i).length ≤ LIMS := by have := asc_len p i; have := HL.out; omega
   by_cases hxk : x = k
   ·have hpi : ascTo p (i + 1) = ascTo p i ++ [(i : Int)] := if_pos (by rw [HP.out]; show decide (kn.getD i 0 = k) = true; rw [← hx]; exact decide_eq_true hxk)
    have HPI := Aside0.mk hpi; have HLL := Aside0.mk hll
    have hbq : (x == k) = true := by simp [hxk]
    obtain ⟨M, hM⟩ : ∃ M, M = ascTo p i := ⟨_, rfl⟩
    rw [← hM] at HO HPI HLL
    clear hpi hll hx hM hxk
    go_wp2_with (at_builtin; refine Kd.R_append (Kd.int .i64) (w0 := w) w.heap.size rfl (.tmp 21) (.tmp 23) 34 3 (.int .i64 0) 8 rfl Try.underlying34 info3 rfl (by decide) (by decide) _ M (i : Int) [.int .i64 (i : Int)] (fun _ => True) (fun _ => False) rfl rfl ?aP (fun _ hk => hk.elim) ?aF HO.out HB.out HB.out.size ?aL ?_)
    case aP => exact rfl
    case aF => exact fun _ _ => trivial
    case aL => have := HLL.out; unfold LIMS at this; omega
    intro v1 w8 hq8 hb8 hg8 hat8
    have HO8 := Aside0.mk hq8; have HB8 := Aside0.mk hb8
    clear hq8 hb8 hg8 hat8 HO HB hx0
    go_wp2
    go_roundg k1
    case measure => omega
    case rel => exact ⟨i + 1, by go_num, by omega, HB8, ⟨by rw [HPI.out]; exact HO8.out⟩⟩
   ·have hpi : ascTo p (i + 1) = ascTo p i := if_neg (by rw [HP.out]; show ¬ decide (kn.getD i 0 = k) = true; rw [← hx]; simpa using hxk)
    have HPI := Aside0.mk hpi
    have hbq : (x == k) = false := by simp [hxk]
    clear hpi hll hx hxk
    go_wp2
    go_roundg k1
    case measure => omega
    case rel => exact ⟨i + 1, by go_num, by omega, HB, ⟨by rw [HPI.out]; exact HO.out⟩⟩
  ·have hi : i = kn.length := by omega
   have hO := HO.out
   rw [hi, HP.out] at hO
   have HO1 := Aside0.mk hO
   clear hO hi HO
   go_wp2
   go_ret
   exact ⟨_, rfl, HO1.out, HB.out⟩
end Go.Proofs.Ytclhjalgflebfaa.Q
