/- What the row of KindMore rests on, part 0: contracts of the functions that it reaches, and the plain law. -/
import Derived.Test.YthpglaekdadehaaProg
import Derived.Below
import Derived.Deep.Draws
import Derived.Deep.AppendLies
import Derived.Maps.AppendAt
import Derived.OwnWalk
import Derived.Laws.BytesArg
import Derived.Laws.MakeOwn
import Derived.Laws.OwnMore
import Derived.Deep.OwnRows
import Derived.Tactics
import Derived.Lib.ConvBytes
import Derived.Laws.Slices
import Derived.WalkKit
import Derived.KernelRfl
import Derived.RowKit3
import Derived.Deep.LoopGhost
import Derived.Deep.QuietTactic
import Derived.BigQuiet
import Derived.WideLaws
import Derived.Deep.DeepCutAuto
import Derived.Deep.CutBlock
import Derived.Deep.RegionHeld3
import Derived.Laws.Rows
import Derived.Lib.AppendStr
import Derived.ArgAppend
import Derived.Laws.IdiomCopy
import Derived.OrdersHeld
import Derived.Laws.BitsLemmas
import Derived.RowKit
import Derived.Test.YthpglaekdadehaaWWords
import Derived.Test.YthpglaekdadehaaWLast
import Derived.Test.YthpglaekdadehaaWTab
import Derived.Test.YthpglaekdadehaaWQPut
import Derived.Test.YthpglaekdadehaaWApart
import Derived.Test.YthpglaekdadehaaWArr
import Derived.Test.YthpglaekdadehaaWZeros
import Derived.Test.YthpglaekdadehaaWFoot
import Derived.Test.YthpglaekdadehaaWKept
import Derived.Test.YthpglaekdadehaaWShare
import Derived.Test.YthpglaekdadehaaWN
import Derived.Test.YthpglaekdadehaaWEqStruct
import Derived.Test.YthpglaekdadehaaWRepsOne
import Derived.Test.YthpglaekdadehaaWInv
import Derived.Test.YthpglaekdadehaaWGuard
import Derived.Test.YthpglaekdadehaaWNEv
import Derived.Test.YthpglaekdadehaaWMore
import Derived.Maps.OwnOps
import Derived.Maps.Views
import Derived.Maps.Keyed
import Derived.Deep.Slices
import Derived.SizedLaws
import Derived.ProofKit
import Derived.Lib.Strings
import Derived.OpenShut
import Derived.ShutString
import Derived.ChangeOld
namespace Go.Proofs.Ythpglaekdadehaa.Q
open Go.RowKit Go.Proofs.YthpglaekdadehaaW.PrintWords Go.Proofs.YthpglaekdadehaaW.PrintLast Go.Proofs.YthpglaekdadehaaW.PrintMore
attribute [local go_sem] max2_int min2_int max_two min_two max_three min_three max_four min_four   -- for this text's walks alone
set_option linter.unusedVariables false
set_option linter.unusedSimpArgs false



def errW : Option Int → Value
 | none => .nilIface
 | some c => .iface 0 (.int .i64 c)
theorem errW_none : errW none = .nilIface := rfl
theorem errW_some (c : Int) : errW (some c) = .iface 0 (.int .i64 c) := rfl

theorem info3 : (Try.prog.info? 3).map (fun i => (i.zero, i.size, i.bytes)) = some (some (.int .i64 0), 1, 8) := by kernel_rfl
theorem info4 : (Try.prog.info? 4).map (fun i => (i.zero, i.size, i.bytes)) = some (some (.bool false), 1, 1) := by kernel_rfl
theorem info9 : (Try.prog.info? 9).map (fun i => (i.zero, i.size, i.bytes)) = some (some (.string ⟨#[]⟩), 1, 16) := by kernel_rfl
theorem info43 : (Try.prog.info? 43).map (fun i => (i.zero, i.size, i.bytes)) = some (some (.agg #[(.string ⟨#[]⟩), (.slice none 0 0)]), 2, 40) := by kernel_rfl
theorem info48 : (Try.prog.info? 48).map (fun i => (i.zero, i.size, i.bytes)) = some (some (.agg #[(.string ⟨#[]⟩), (.string ⟨#[]⟩)]), 2, 32) := by kernel_rfl
-- the values' own types
/-! #### struct type 48 -/
structure S48 where
 f0 : ByteArray
 f1 : ByteArray
def z48 : S48 := ⟨(⟨#[]⟩ : ByteArray), (⟨#[]⟩ : ByteArray)⟩
def k48 : Kd S48 := Kd.iso (Kd.pair Kd.string Kd.string) (fun x : S48 => (x.f0, x.f1))
theorem k48_open {w : World} {x : S48} {cs : List Value} (h : k48.K w x cs) : cs = [.string x.f0, .string x.f1] := by
 obtain ⟨_, _, rfl, rfl, rfl⟩ := h
 exact rfl
theorem k48_openM {w : World} {base : Nat} {ok : Nat → Prop} {x : S48} {cs : List Value} (h : k48.M w base ok x cs) : cs = [.string x.f0, .string x.f1] := by
 obtain ⟨_, _, rfl, rfl, rfl⟩ := h
 exact rfl
theorem k48_mk (w : World) (x : S48)  : k48.K w x [.string x.f0, .string x.f1] := ⟨[.string x.f0], [.string x.f1], rfl, rfl, rfl⟩
theorem k48_mkM (w : World) (base : Nat) (ok : Nat → Prop) (x : S48)  : k48.M w base ok x [.string x.f0, .string x.f1] := ⟨[.string x.f0], [.string x.f1], rfl, rfl, rfl⟩
theorem k48_mkF (W : World) (ok : Nat → Prop) (x : S48) : Kd.FK k48 W ok x [.string x.f0, .string x.f1] := fun W2 _ => k48_mk W2 x
def rd_T48 (xs : List S48) (i : Int) : S48 := xs.getD i.toNat z48
theorem at_T48 {w : World} {A : Option Addr} {n : Nat} {xs : List S48} (h : Kd.C k48 w A n xs) (i : Int) (h0 : 0 ≤ i) (h1 : i < n) : ∃ ad , A = some ad ∧ w.cell? (ad.add (i.toNat * 2)) = some (.string (rd_T48 xs i).f0) ∧ w.cell? ⟨(ad.add (i.toNat * 2)).block, (ad.add (i.toNat * 2)).off + 1, none⟩ = some (.string (rd_T48 xs i).f1) := by
 obtain ⟨ad, c, e, _, hK, hc0⟩ := Kd.C_get h z48 i h0 h1
 have hc : ∀ j u, c[j]? = some u → w.cell? (ad.add (i.toNat * 2 + j)) = some u := hc0
 obtain rfl := k48_open hK
 exact ⟨ad, e, hc 0 _ rfl, by rw [← add_field _ _ 1 (by omega)]; exact hc 1 _ rfl⟩

def rd_L2 (xs : List (List S48)) (i : Int) : (List S48) := xs.getD i.toNat ([] : List S48)
theorem at_L2 {w : World} {A : Option Addr} {n : Nat} {xs : List (List S48)} (h : Kd.C (Kd.slice 48 k48) w A n xs) (i : Int) (h0 : 0 ≤ i) (h1 : i < n) : ∃ ad A0 c0, A = some ad ∧ w.cell? (ad.add i.toNat) = some (.slice A0 (rd_L2 xs i).length c0) ∧ (rd_L2 xs i).length ≤ c0 ∧ k48.C w A0 (rd_L2 xs i).length (rd_L2 xs i) := by
 obtain ⟨ad, c, e, _, hK, hc0⟩ := Kd.C_get h ([] : List S48) i h0 h1
 have hc : ∀ j u, c[j]? = some u → w.cell? (ad.add (i.toNat * 1 + j)) = some u := hc0
 obtain ⟨A0, c0, rfl, l0, g0⟩ := hK
 exact ⟨ad, A0, c0, e, by have hq := hc 0 _ rfl; rwa [Nat.mul_one, Nat.add_zero] at hq, l0, g0⟩

/-! #### struct type 43 -/
structure S43 where
 f0 : ByteArray
 f1 : (List S48)
def z43 : S43 := ⟨(⟨#[]⟩ : ByteArray), ([] : List S48)⟩
def k43 : Kd S43 := Kd.iso (Kd.pair Kd.string (Kd.slice 48 k48)) (fun x : S43 => (x.f0, x.f1))
theorem k43_open {w : World} {x : S43} {cs : List Value} (h : k43.K w x cs) : ∃ A1 c1, cs = [.string x.f0, .slice A1 x.f1.length c1] ∧ x.f1.length ≤ c1 ∧ k48.C w A1 x.f1.length x.f1 := by
 obtain ⟨_, _, rfl, rfl, ⟨A1, c1, rfl, l1, g1⟩⟩ := h
 exact ⟨A1, c1, rfl, l1, g1⟩
theorem k43_openM {w : World} {base : Nat} {ok : Nat → Prop} {x : S43} {cs : List Value} (h : k43.M w base ok x cs) : ∃ v1, cs = [.string x.f0, v1] ∧ k48.R 48 w base ok v1 x.f1 := by
 obtain ⟨_, _, rfl, rfl, ⟨v1, rfl, g1⟩⟩ := h
 exact ⟨v1, rfl, g1⟩
theorem k43_mk (w : World) (x : S43) {A1 : Option Addr} {c1 : Nat} (l1 : x.f1.length ≤ c1) (g1 : k48.C w A1 x.f1.length x.f1) : k43.K w x [.string x.f0, .slice A1 x.f1.length c1] := ⟨[.string x.f0], [.slice A1 x.f1.length c1], rfl, rfl, ⟨A1, c1, rfl, l1, g1⟩⟩
theorem k43_mkM (w : World) (base : Nat) (ok : Nat → Prop) (x : S43) {v1 : Value} (g1 : k48.R 48 w base ok v1 x.f1) : k43.M w base ok x [.string x.f0, v1] := ⟨[.string x.f0], [v1], rfl, rfl, ⟨v1, rfl, g1⟩⟩
theorem k43_openF {W : World} {ok : Nat → Prop} {x : S43} {cs : List Value} (h : Kd.FK k43 W ok x cs) : ∃ A1 c1, cs = [.string x.f0, .slice A1 x.f1.length c1] ∧ x.f1.length ≤ c1 ∧ Kd.F k48 W ok A1 x.f1.length x.f1 := by
 obtain ⟨A1, c1, rfl, l1, _⟩ := k43_open (Kd.FK_now h)
 exact ⟨A1, c1, rfl, l1, (fun W' hW => by obtain ⟨A1_, c1_, he, l1_, g1_⟩ := k43_open (h W' hW); injection (Option.some.inj (show some (Value.slice A1 x.f1.length c1) = some (Value.slice A1_ x.f1.length c1_) from congrArg (fun l => l[1]?) he)) with ha_ _ _; rw [ha_]; exact g1_)⟩
theorem k43_mkF (W : World) (ok : Nat → Prop) (x : S43) {A1 : Option Addr} {c1 : Nat} (l1 : x.f1.length ≤ c1) (g1 : Kd.F k48 W ok A1 x.f1.length x.f1) : Kd.FK k43 W ok x [.string x.f0, .slice A1 x.f1.length c1] := fun W2 hW => k43_mk W2 x l1 (g1 W2 hW)
def rd_T43 (xs : List S43) (i : Int) : S43 := xs.getD i.toNat z43
theorem at_T43 {w : World} {A : Option Addr} {n : Nat} {xs : List S43} (h : Kd.C k43 w A n xs) (i : Int) (h0 : 0 ≤ i) (h1 : i < n) : ∃ ad A1 c1, A = some ad ∧ w.cell? (ad.add (i.toNat * 2)) = some (.string (rd_T43 xs i).f0) ∧ w.cell? ⟨(ad.add (i.toNat * 2)).block, (ad.add (i.toNat * 2)).off + 1, none⟩ = some (.slice A1 (rd_T43 xs i).f1.length c1) ∧ (rd_T43 xs i).f1.length ≤ c1 ∧ k48.C w A1 (rd_T43 xs i).f1.length (rd_T43 xs i).f1 := by
 obtain ⟨ad, c, e, _, hK, hc0⟩ := Kd.C_get h z43 i h0 h1
 have hc : ∀ j u, c[j]? = some u → w.cell? (ad.add (i.toNat * 2 + j)) = some u := hc0
 obtain ⟨A1, c1, rfl, l1, g1⟩ := k43_open hK
 exact ⟨ad, A1, c1, e, hc 0 _ rfl, by rw [← add_field _ _ 1 (by omega)]; exact hc 1 _ rfl, l1, g1⟩

end Go.Proofs.Ythpglaekdadehaa.Q

namespace Go.Proofs.Ythpglaekdadehaa.Q
open Go.RowKit Go.Proofs.YthpglaekdadehaaW.PrintWords Go.Proofs.YthpglaekdadehaaW.PrintLast Go.Proofs.YthpglaekdadehaaW.PrintMore
attribute [local go_sem] max2_int min2_int max_two min_two max_three min_three max_four min_four   -- for this text's walks alone
set_option linter.unusedVariables false
set_option linter.unusedSimpArgs false

/-! ### stringslite_HasPrefix: function 46 -/
def stringslite_HasPrefix.f (a0 : ByteArray) (a1 : ByteArray) : Option (Bool) := if (a0.size : Int) ≥ (a1.size : Int) then (if 0 ≤ (a1.size : Int) then (if (a1.size : Int) ≤ (a0.size : Int) then (some ((a0.extract 0 ((a1.size : Int) : Int).toNat).toList == a1.toList)) else (none)) else (none)) else (some false)
set_option maxHeartbeats 8000000 in
set_option maxRecDepth 100000 in
theorem stringslite_HasPrefix.calls (a0 : ByteArray) (a1 : ByteArray) (r : Bool) (w : World) (h : stringslite_HasPrefix.f a0 a1 = some r) :
  Calls Try.prog 46 #[.string a0, .string a1] w fun e w' => e = .returned (.bool r) ∧ Drawn0 w w' := by
 have H : (if (a0.size : Int) ≥ (a1.size : Int) then (if 0 ≤ (a1.size : Int) then (if (a1.size : Int) ≤ (a0.size : Int) then (some ((a0.extract 0 ((a1.size : Int) : Int).toNat).toList == a1.toList)) else (none)) else (none)) else (some false)) = some r := h
 clear h
 by_cases c3 : (a0.size : Int) ≥ (a1.size : Int)
 ·rw [if_pos c3] at H
  have c3b0 : decide ((a1.size : Int) ≤ (a0.size : Int)) = true := decide_eq_true c3
  have c3b1 : decide (a1.size ≤ a0.size) = true := decide_eq_true (Int.ofNat_le.mp c3)
  clear c3
  by_cases c4 : 0 ≤ (a1.size : Int)
  ·rw [if_pos c4] at H
   have c4b0 := eq_true c4
   have c4b1 : decide (0 ≤ (a1.size : Int)) = true := decide_eq_true c4
   clear c4
   by_cases c5 : (a1.size : Int) ≤ (a0.size : Int)
   ·rw [if_pos c5] at H
    have c5b0 := eq_true c5
    have c5b1 : decide ((a1.size : Int) ≤ (a0.size : Int)) = true := decide_eq_true c5
    clear c5
    obtain rfl := Option.some.inj H
    go_enter Try.func46, Try.ntmps46
    go_wp2
    go_ret
    exact ⟨by first | rfl | (simp; done) | (simp [*]; done), by repeat (first | exact Drawn0.refl _ | apply Drawn0.step)⟩
   ·rw [if_neg c5] at H
    exact absurd H (by simp)
  ·rw [if_neg c4] at H
   exact absurd H (by simp)
 ·rw [if_neg c3] at H
  have c3b0 : decide ((a1.size : Int) ≤ (a0.size : Int)) = false := decide_eq_false c3
  have c3b1 : decide (a1.size ≤ a0.size) = false := decide_eq_false (fun h => c3 (Int.ofNat_le.mpr h))
  clear c3
  obtain rfl := Option.some.inj H
  go_enter Try.func46, Try.ntmps46
  go_wp2
  go_ret
  exact ⟨by first | rfl | (simp; done) | (simp [*]; done), by repeat (first | exact Drawn0.refl _ | apply Drawn0.step)⟩

end Go.Proofs.Ythpglaekdadehaa.Q

namespace Go.Proofs.Ythpglaekdadehaa.Q
open Go.RowKit Go.Proofs.YthpglaekdadehaaW.PrintWords Go.Proofs.YthpglaekdadehaaW.PrintLast Go.Proofs.YthpglaekdadehaaW.PrintMore
attribute [local go_sem] max2_int min2_int max_two min_two max_three min_three max_four min_four   -- for this text's walks alone
set_option linter.unusedVariables false
set_option linter.unusedSimpArgs false

/-! ### stringslite_CutPrefix: function 41 -/
def stringslite_CutPrefix.f (a0 : ByteArray) (a1 : ByteArray) : Option (ByteArray × Bool) := (stringslite_HasPrefix.f a0 a1).bind fun t115 => (if t115 = true then (if 0 ≤ (a1.size : Int) then (if (a1.size : Int) ≤ (a0.size : Int) then (some (a0.extract ((a1.size : Int) : Int).toNat a0.size, true)) else (none)) else (none)) else (some (a0, false)))
set_option maxHeartbeats 8000000 in
set_option maxRecDepth 100000 in
theorem stringslite_CutPrefix.calls (a0 : ByteArray) (a1 : ByteArray) (r1 : ByteArray) (r2 : Bool) (w : World) (h : stringslite_CutPrefix.f a0 a1 = some (r1, r2)) :
  Calls Try.prog 41 #[.string a0, .string a1] w fun e w' => e = .returned (.tuple #[.string r1, .bool r2]) ∧ Drawn0 w w' := by
 have H : ((stringslite_HasPrefix.f a0 a1).bind fun t115 => (if t115 = true then (if 0 ≤ (a1.size : Int) then (if (a1.size : Int) ≤ (a0.size : Int) then (some (a0.extract ((a1.size : Int) : Int).toNat a0.size, true)) else (none)) else (none)) else (some (a0, false)))) = some (r1, r2) := h
 clear h
 replace H := Option.bind_eq_some_iff.mp H
 obtain ⟨t115, A30, H⟩ := H
 replace H : (if t115 = true then (if 0 ≤ (a1.size : Int) then (if (a1.size : Int) ≤ (a0.size : Int) then (some (a0.extract ((a1.size : Int) : Int).toNat a0.size, true)) else (none)) else (none)) else (some (a0, false))) = some (r1, r2) := H
 have A3 := Aside0.mk A30
 clear A30
 by_cases c4 : t115 = true
 ·subst c4
  have H1 : (if 0 ≤ (a1.size : Int) then (if (a1.size : Int) ≤ (a0.size : Int) then (some (a0.extract ((a1.size : Int) : Int).toNat a0.size, true)) else (none)) else (none)) = some (r1, r2) := by rw [if_pos rfl] at H; exact H
  clear H
  have H := H1
  clear H1
  by_cases c5 : 0 ≤ (a1.size : Int)
  ·rw [if_pos c5] at H
   have c5b0 := eq_true c5
   have c5b1 : decide (0 ≤ (a1.size : Int)) = true := decide_eq_true c5
   clear c5
   by_cases c6 : (a1.size : Int) ≤ (a0.size : Int)
   ·rw [if_pos c6] at H
    have c6b0 := eq_true c6
    have c6b1 : decide ((a1.size : Int) ≤ (a0.size : Int)) = true := decide_eq_true c6
    clear c6
    simp only [Option.some.injEq, Prod.mk.injEq] at H
    obtain ⟨rfl, rfl⟩ := H
    go_enter Try.func41, Try.ntmps41
    go_wp2_with (first | ((with_reducible refine gate_callee (f := 46) rfl ?_); refine goesL_ (some 8) rfl rfl Try.func46 (by kernel_rfl) rfl #[.string a0, .string a1] rfl (by (try simp only [List.map_toArray, List.map_cons, List.map_nil]); first | done | rfl | (simp only [List.length_drop, List.length_take]; rfl)) ?_; (with_reducible refine (stringslite_HasPrefix.calls a0 a1 true _ A3.out).mono ?_); rintro e w' ⟨rfl, ⟨nd, rfl⟩⟩; refine ⟨_, rfl, ?_⟩))
    go_ret2
    exact ⟨by first | rfl | (simp; done) | (simp [*]; done), by repeat (first | exact Drawn0.refl _ | apply Drawn0.step)⟩
   ·rw [if_neg c6] at H
    exact absurd H (by simp)
  ·rw [if_neg c5] at H
   exact absurd H (by simp)
 ·replace c4 := Bool.eq_false_iff.mpr c4
  subst c4
  have H1 : (some (a0, false)) = some (r1, r2) := by rw [if_neg (show ¬ (false = true) by decide)] at H; exact H
  clear H
  have H := H1
  clear H1
  simp only [Option.some.injEq, Prod.mk.injEq] at H
  obtain ⟨rfl, rfl⟩ := H
  go_enter Try.func41, Try.ntmps41
  go_wp2_with (first | ((with_reducible refine gate_callee (f := 46) rfl ?_); refine goesL_ (some 8) rfl rfl Try.func46 (by kernel_rfl) rfl #[.string a0, .string a1] rfl (by (try simp only [List.map_toArray, List.map_cons, List.map_nil]); first | done | rfl | (simp only [List.length_drop, List.length_take]; rfl)) ?_; (with_reducible refine (stringslite_HasPrefix.calls a0 a1 false _ A3.out).mono ?_); rintro e w' ⟨rfl, ⟨nd, rfl⟩⟩; refine ⟨_, rfl, ?_⟩))
  go_ret2
  exact ⟨by first | rfl | (simp; done) | (simp [*]; done), by repeat (first | exact Drawn0.refl _ | apply Drawn0.step)⟩

end Go.Proofs.Ythpglaekdadehaa.Q

namespace Go.Proofs.Ythpglaekdadehaa.Q
open Go.RowKit Go.Proofs.YthpglaekdadehaaW.PrintWords Go.Proofs.YthpglaekdadehaaW.PrintLast Go.Proofs.YthpglaekdadehaaW.PrintMore
attribute [local go_sem] max2_int min2_int max_two min_two max_three min_three max_four min_four   -- for this text's walks alone
set_option linter.unusedVariables false
set_option linter.unusedSimpArgs false

/-! ### strings_CutPrefix: function 28 -/
def strings_CutPrefix.f (a0 : ByteArray) (a1 : ByteArray) : Option (ByteArray × Bool) := (stringslite_CutPrefix.f a0 a1).bind fun bt116 => (some (bt116.1, bt116.2))
set_option maxHeartbeats 8000000 in
set_option maxRecDepth 100000 in
theorem strings_CutPrefix.calls (a0 : ByteArray) (a1 : ByteArray) (r1 : ByteArray) (r2 : Bool) (w : World) (h : strings_CutPrefix.f a0 a1 = some (r1, r2)) :
  Calls Try.prog 28 #[.string a0, .string a1] w fun e w' => e = .returned (.tuple #[.string r1, .bool r2]) ∧ Drawn0 w w' := by
 have H : ((stringslite_CutPrefix.f a0 a1).bind fun bt116 => (some (bt116.1, bt116.2))) = some (r1, r2) := h
 clear h
 replace H := Option.bind_eq_some_iff.mp H
 obtain ⟨⟨t116, t117⟩, A30, H⟩ := H
 replace H : (some (t116, t117)) = some (r1, r2) := H
 have A3 := Aside0.mk A30
 clear A30
 simp only [Option.some.injEq, Prod.mk.injEq] at H
 obtain ⟨rfl, rfl⟩ := H
 go_enter Try.func28, Try.ntmps28
 go_wp2_with (first | ((with_reducible refine gate_callee (f := 41) rfl ?_); refine goesL_ (some 8) rfl rfl Try.func41 (by kernel_rfl) rfl #[.string a0, .string a1] rfl (by (try simp only [List.map_toArray, List.map_cons, List.map_nil]); first | done | rfl | (simp only [List.length_drop, List.length_take]; rfl)) ?_; (with_reducible refine (stringslite_CutPrefix.calls a0 a1 t116 t117 _ A3.out).mono ?_); rintro e w' ⟨rfl, ⟨nd, rfl⟩⟩; refine ⟨_, rfl, ?_⟩))
 go_ret2
 exact ⟨by first | rfl | (simp; done) | (simp [*]; done), by repeat (first | exact Drawn0.refl _ | apply Drawn0.step)⟩

end Go.Proofs.Ythpglaekdadehaa.Q

/- Small lemmas that the hand-proved contracts of this seat use. -/

namespace Go.Proofs.Ythpglaekdadehaa.Q
open Go.RowKit Go.Proofs.YthpglaekdadehaaW.PrintWords Go.Proofs.YthpglaekdadehaaW.PrintLast Go.Proofs.YthpglaekdadehaaW.PrintMore
set_option linter.unusedVariables false
set_option linter.unusedSimpArgs false
theorem Drawn0.trans {w w1 w2 : World} (h : Drawn0 w w1) (k : Drawn0 w1 w2) : Drawn0 w w2 := by
 obtain ⟨n, rfl⟩ := k
 exact h.step n
theorem tl_len (s : ByteArray) : s.toList.length = s.size := by rw [ByteArray.toList_eq, Array.length_toList]; rfl
theorem all_succ {P : Nat → Prop} {k : Nat} (h : ∀ i, i < k → P i) (hk : P k) : ∀ i, i < k + 1 → P i := fun i hi => by
 by_cases e : i = k
 ·subst e; exact hk
 ·exact h i (by omega)
theorem getD_at {α : Type} (l : List α) (z : α) {k : Nat} (hk : k < l.length) : l.getD k z = l[k] := by simp [List.getD, List.getElem?_eq_getElem hk]
/-- Where the first stands of which p holds; -1: there is none. -/
def findR {α : Type} (p : α → Bool) (l : List α) : Int := if l.findIdx p < l.length then (l.findIdx p : Int) else -1
theorem find_lt {α : Type} {p : α → Bool} {l : List α} {m : Nat} (h : findR p l = (m : Int)) : m < l.length := by
 unfold findR at h
 split at h <;> omega
theorem find_last {α : Type} {p : α → Bool} {l : List α} {z : α} {k : Nat} (hk : k < l.length) (h : ∀ i : Nat, i < k → p (l.getD i z) = false) (h2 : p (l.getD k z) = true) : findR p l = k := by
 have e : l.findIdx p = k := by
  rw [List.findIdx_eq hk]
  refine ⟨by rw [← getD_at l z hk]; exact h2, fun j hj => by rw [← getD_at l z (by omega)]; exact h j hj⟩
 unfold findR; rw [e, if_pos hk]
theorem find_none {α : Type} {p : α → Bool} {l : List α} {z : α} (h : ∀ i : Nat, i < l.length → p (l.getD i z) = false) : findR p l = -1 := by
 unfold findR
 rw [if_neg]
 intro hlt
 have := List.findIdx_getElem (w := hlt)
 rw [← getD_at l z hlt, h _ hlt] at this
 cases this
def placeOf (m : Int) : Int × Bool := if m < 0 then (0, false) else (m, true)
noncomputable def decB (p : Prop) : Bool := @decide p (Classical.propDecidable p)
theorem decB_true {p : Prop} (h : p) : decB p = true := by unfold decB; exact @decide_eq_true p (Classical.propDecidable p) h
theorem decB_false {p : Prop} (h : ¬ p) : decB p = false := by unfold decB; exact @decide_eq_false p (Classical.propDecidable p) h
theorem bytes_eq {a b : ByteArray} (h : a.toList = b.toList) : a = b := by
 rw [ByteArray.toList_eq, ByteArray.toList_eq] at h
 cases a; cases b; simp only [Array.toList_inj] at h; rw [h]
theorem lists_eq {α : Type} {l l' : List α} (z : α) (hn : l.length = l'.length) (h : ∀ j : Nat, j < l.length → l.getD j z = l'.getD j z) : l = l' := by
 apply List.ext_getElem hn
 intro i h1 h2
 have := h i h1
 rwa [getD_at l z h1, getD_at l' z h2] at this
theorem wrap_succ {i : Int} (h0 : 0 ≤ i) (h : i < 9223372036854775807) : wrap64 (i + 1) = i + 1 := by unfold wrap64; omega
end Go.Proofs.Ythpglaekdadehaa.Q

/- 'kind.Find': by hand. -/

namespace Go.Proofs.Ythpglaekdadehaa.Q
open Go.RowKit Go.Proofs.YthpglaekdadehaaW.PrintWords Go.Proofs.YthpglaekdadehaaW.PrintLast Go.Proofs.YthpglaekdadehaaW.PrintMore
set_option linter.unusedVariables false
set_option linter.unusedSimpArgs false
def nameIs (n : ByteArray) (x : S43) : Bool := x.f0.toList == n.toList
theorem atN_T43 {w : World} {A : Option Addr} {n : Nat} {xs : List S43} (h : Kd.C k43 w A n xs) (k : Nat) (h1 : k < n) : ∃ ad A1 c1, A = some ad ∧ w.cell? (ad.add (k * 2)) = some (.string (xs.getD k z43).f0) ∧ w.cell? ⟨(ad.add (k * 2)).block, (ad.add (k * 2)).off + 1, none⟩ = some (.slice A1 (xs.getD k z43).f1.length c1) ∧ (xs.getD k z43).f1.length ≤ c1 ∧ k48.C w A1 (xs.getD k z43).f1.length (xs.getD k z43).f1 := at_T43 h (k : Int) (by omega) (by omega)
theorem find_clo (f0 : ByteArray) (A1 : Option Addr) (n1 c1 : Nat) (a1 : ByteArray) (b : Nat) (w : World) (hc : w.cell? ⟨b, 0, none⟩ = some (.string a1)) :
  Calls Try.prog 31 #[.agg #[.string f0, .slice A1 n1 c1], .pointer (some ⟨b, 0, none⟩)] w fun e w' => e = .returned (.bool (f0.toList == a1.toList)) ∧ Below w.heap.size w w' := by
 have hu := Try.underlying43
 have hc1 : (w.alloc (.cells #[.string f0, .slice A1 n1 c1] 43)).cell? ⟨b, 0, none⟩ = some (.string a1) := pw_cell_below (below_alloc (Below.refl _ _) _) hc
 go_enter Try.func31, Try.ntmps31
 go_wp2
 go_ret
 exact ⟨rfl, below_alloc (Below.refl _ _) _⟩
set_option maxHeartbeats 800000 in
theorem find_idx (A : Option Addr) (c : Nat) (l : List S43) (a1 : ByteArray) (b : Nat) (w : World) (hr : Kd.C k43 w A l.length l) (hc : w.cell? ⟨b, 0, none⟩ = some (.string a1)) :
  Calls Try.prog 30 #[.slice A l.length c, .func (.func 31) #[] #[.pointer (some ⟨b, 0, none⟩)]] w fun e w' => e = .returned (.int .i64 (findR (nameIs a1) l)) ∧ Below w.heap.size w w' := by
 have hu := Try.underlying43
 have HR := Aside0.mk hr; clear hr
 have HM := Aside0.mk (Kd.C_max HR.out)
 have hm := HM.out
 go_enter Try.func30, Try.ntmps30
 go_wp2
 go_loopw [5, 8] (fun _ v wr => ∃ k : Nat, v = .int .i64 k ∧ k ≤ l.length ∧ Aside0 (∀ i : Nat, i < k → nameIs a1 (l.getD i z43) = false) ∧ Below w.heap.size w wr) (fun _ v _ => l.length - (intOf v).toNat)
 case atStart => exact ⟨0, rfl, Nat.zero_le _, ⟨fun i h => absurd h (Nat.not_lt_zero _)⟩, Below.refl _ _⟩
 case round =>
  obtain ⟨k, rfl, hk, HA, hB⟩ := hrel
  by_cases hlt : k < l.length
  ·have HRr := Kd.C_below HR.out hB
   obtain ⟨ad, A1, c1, e1, hx0, hx1, hl1, hi1⟩ := atN_T43 HRr k hlt
   cases e1
   have hcr := pw_cell_below hB hc
   clear hl1 hi1 HRr
   obtain ⟨x, ex⟩ : ∃ x, x = l.getD k z43 := ⟨_, rfl⟩
   rw [← ex] at hx0 hx1
   have EX := Aside0.mk ex; clear ex
   go_wp2_with fail
   refine (find_clo _ _ _ _ a1 b wr hcr).mono ?_
   rintro e w1 ⟨rfl, hb1⟩
   have hB1 := below_step hB hb1
   clear hcr hx0 hx1
   rcases he : (x.f0.toList == a1.toList) with _ | _
   ·have HE := Aside0.mk he; clear he
    go_wp2
    go_roundw
    case rel => exact ⟨k + 1, by go_num, by omega, ⟨all_succ (P := fun i => nameIs a1 (l.getD i z43) = false) HA.out (by unfold nameIs; rw [← EX.out]; exact HE.out)⟩, hB1⟩
    case measure => simp [intOf]; omega
   ·have HF : Aside0 (findR (nameIs a1) l = k) := ⟨find_last hlt HA.out (by unfold nameIs; rw [← EX.out]; exact he)⟩
    clear he
    go_wp2
    go_ret
    exact ⟨by rw [HF.out]; rfl, hB1⟩
  ·have HF : Aside0 (findR (nameIs a1) l = -1) := ⟨find_none (fun i hi => HA.out i (by omega))⟩
   go_wp2
   go_ret
   exact ⟨by rw [HF.out]; rfl, hB⟩

def kind_Find.f (l0 : List (S43)) (a1 : ByteArray) : Option (Int × Bool) := some (placeOf (findR (nameIs a1) l0))
attribute [local go_sem] max2_int min2_int max_two min_two in
set_option maxHeartbeats 800000 in
theorem kind_Find.calls (A0 : Option Addr) (c0 : Nat) (l0 : List (S43)) (a1 : ByteArray) (r1 : Int) (r2 : Bool) (w : World) (hr0 : Kd.C k43 w A0 l0.length l0) (hc0 : l0.length ≤ c0) (h : kind_Find.f l0 a1 = some (r1, r2)) :
  Calls Try.prog 12 #[.slice A0 l0.length c0, .string a1] w fun e w' => e = .returned (.tuple #[.int .i64 r1, .bool r2]) ∧ Below w.heap.size w w' := by
 unfold kind_Find.f at h
 have HP := Aside0.mk (Option.some.inj h)
 clear h
 have HR := Aside0.mk (Kd.C_alloc hr0 (.cells #[.string a1] 9))
 have HC := Aside0.mk hc0
 clear hr0 hc0
 have hmf : ∀ (fn : Fn) (first cap : Array Value) (w : World), (Instr.makeFunc fn first cap).run Try.prog w = .ok (.func fn first cap) w := fun _ _ _ _ => rfl
 have hcell : (w.alloc (.cells #[.string a1] 9)).cell? ⟨w.heap.size, 0, none⟩ = some (.string a1) := by
  rw [World.cell?_alloc_at _ _ _ _ rfl]; rfl
 go_enter Try.func12, Try.ntmps12
 go_wp2_with fail
 refine (find_idx A0 c0 l0 a1 w.heap.size _ HR.out hcell).mono ?_
 rintro e w1 ⟨rfl, hb⟩
 obtain ⟨m, hm⟩ : ∃ m, m = findR (nameIs a1) l0 := ⟨_, rfl⟩
 rw [← hm] at HP ⊢
 clear hm
 have HB := Aside0.mk hb; clear hb
 by_cases hneg : m < 0
 ·have hd : decide (0 ≤ m) = false := decide_eq_false (by omega)
  have h := HP.out; unfold placeOf at h; rw [if_pos hneg] at h
  obtain ⟨rfl, rfl⟩ := Prod.mk.inj h; clear h HP
  go_wp2
  go_ret2
  exact ⟨rfl, below_then (below_alloc (Below.refl _ _) _) (by simp) HB.out⟩
 ·have hd : decide (0 ≤ m) = true := decide_eq_true (by omega)
  have h := HP.out; unfold placeOf at h; rw [if_neg hneg] at h
  obtain ⟨rfl, rfl⟩ := Prod.mk.inj h; clear h HP
  go_wp2
  go_ret2
  exact ⟨rfl, below_then (below_alloc (Below.refl _ _) _) (by simp) HB.out⟩
end Go.Proofs.Ythpglaekdadehaa.Q

namespace Go.Proofs.Ythpglaekdadehaa.Q
open Go.RowKit Go.Proofs.YthpglaekdadehaaW.PrintWords Go.Proofs.YthpglaekdadehaaW.PrintLast Go.Proofs.YthpglaekdadehaaW.PrintMore
attribute [local go_sem] max2_int min2_int max_two min_two max_three min_three max_four min_four   -- for this text's walks alone
set_option linter.unusedVariables false
set_option linter.unusedSimpArgs false

/-! ### kind_Is: function 15 -/
def kind_Is.j0 : Nat → List (S43) → ByteArray → Bool → Option (Bool)
 | 0, _, _, _ => none
 | k + 1, x0, x1, x12 => if x12 = true then (some true) else ((strings_CutPrefix.f x1 (⟨#[42]⟩ : ByteArray)).bind fun bt118 => (if bt118.2 = true then ((kind_Find.f x0 bt118.1).bind fun bt120 => (some bt120.2)) else (some false)))
def kind_Is.f (k : Nat) (l0 : List (S43)) (a1 : ByteArray) : Option (Bool) := if a1.toList = ([105, 110, 116] : List UInt8) then (kind_Is.j0 k l0 a1 true) else (kind_Is.j0 k l0 a1 (a1.toList == ([98, 111, 111, 108] : List UInt8)))
theorem kind_Is.mono_l : ∀ k, (∀ y0 y1 y2, LeO (kind_Is.j0 k y0 y1 y2) (kind_Is.j0 (k + 1) y0 y1 y2))
 | 0 => fun _ _ _ r h => by simp [kind_Is.j0] at h
 | k + 1 => by
  have ih0 := kind_Is.mono_l k
  ·intro y0 y1 y2
   unfold kind_Is.j0
   repeat' first
   | (with_reducible exact ih0 _ _ _)
   | (with_reducible exact LeO.refl _)
   | (with_reducible exact LeO.none _)
   | (with_reducible refine LeO.ite ?_ ?_)
   | (with_reducible refine LeO.bind ?_ (fun _ => ?_))
   | exact ih0 _ _ _
   | exact LeO.none _
   | refine LeO.ite ?_ ?_
   | refine LeO.bind ?_ (fun _ => ?_)
theorem kind_Is.mono : ∀ a0 a1 k, LeO (kind_Is.f k a0 a1) (kind_Is.f (k + 1) a0 a1) := by
 intro a0 a1 k
 have ih0 := kind_Is.mono_l k
 unfold kind_Is.f
 repeat' first
   | (with_reducible exact ih0 _ _ _)
   | (with_reducible exact LeO.refl _)
   | (with_reducible exact LeO.none _)
   | (with_reducible refine LeO.ite ?_ ?_)
   | (with_reducible refine LeO.bind ?_ (fun _ => ?_))
   | exact ih0 _ _ _
   | exact LeO.none _
   | refine LeO.ite ?_ ?_
   | refine LeO.bind ?_ (fun _ => ?_)
set_option maxHeartbeats 8000000 in
set_option maxRecDepth 100000 in
theorem kind_Is.calls (k : Nat) (A0 : Option Addr) (c0 : Nat) (l0 : List (S43)) (a1 : ByteArray) (r : Bool) (w : World) (hr0 : Kd.C k43 w A0 l0.length l0) (hc0 : l0.length ≤ c0) (h : kind_Is.f k l0 a1 = some r) :
  Calls Try.prog 15 #[.slice A0 l0.length c0, .string a1] w fun e w' => e = .returned (.bool r) ∧ Below w.heap.size w w' := by
 have HR0 := Aside0.mk hr0
 have HC0 := Aside0.mk hc0
 clear hr0 hc0
 have HB := Aside0.mk (Below.refl w.heap.size w)
 have H : (if a1.toList = ([105, 110, 116] : List UInt8) then (kind_Is.j0 k l0 a1 true) else (kind_Is.j0 k l0 a1 (a1.toList == ([98, 111, 111, 108] : List UInt8)))) = some r := h
 clear h
 have HC3 := Aside0.mk H
 clear H
 go_enter Try.func15, Try.ntmps15
 go_upto_region 1 with (fail)
 go_cut [12] (fun v12 wc => ∃ (kq : Nat) (x12_2 : Bool), v12 = .bool x12_2 ∧ Aside0 (kind_Is.j0 kq l0 a1 x12_2 = some r) ∧ Aside0 (kq ≤ k) ∧ Aside0 (Below w.heap.size w wc))
 case first =>
  have H := HC3.out
  clear HC3
  by_cases c4 : a1.toList = ([105, 110, 116] : List UInt8)
  ·rw [if_pos c4] at H
   have c4b0 : (a1.toList == ([105, 110, 116] : List UInt8)) = true := beq_iff_eq.mpr c4
   have c4b1 : (a1.toList != ([105, 110, 116] : List UInt8)) = false := bne_eq_false_iff_eq.mpr c4
   clear c4
   (first | rw [c4b0] | (simp only [i64_w, i32_w]; rw [c4b0]) | skip)
   have H' := Aside0.mk H
   clear H
   go_wp2
   go_meet
   case rel => exact ⟨_, (true), (by first | rfl | (simp; done) | (simp [*]; done)), H', ⟨by first | omega | exact Nat.le_refl _⟩, ⟨by repeat (first | (with_reducible first | exact HB.out | apply below_alloc | apply pw_below_drewN | apply below_drew1) | exact HB.out)⟩⟩
  ·rw [if_neg c4] at H
   have c4b0 : (a1.toList == ([105, 110, 116] : List UInt8)) = false := beq_eq_false_iff_ne.mpr c4
   have c4b1 : (a1.toList != ([105, 110, 116] : List UInt8)) = true := bne_iff_ne.mpr c4
   (first | rw [c4b0] | (simp only [i64_w, i32_w]; rw [c4b0]) | skip)
   have H' := Aside0.mk H
   clear H
   go_wp2
   go_meet
   case rel => exact ⟨_, ((a1.toList == ([98, 111, 111, 108] : List UInt8))), (by first | rfl | (simp; done) | (simp [*]; done)), H', ⟨by first | omega | exact Nat.le_refl _⟩, ⟨by repeat (first | (with_reducible first | exact HB.out | apply below_alloc | apply pw_below_drewN | apply below_drew1) | exact HB.out)⟩⟩
 case rest =>
  clear HC3
  try clear c1
  try clear p2
  try clear c4
  try clear c4b0
  try clear c4b1
  obtain ⟨kq, x12_2, rfl, HA, HJ2, HB⟩ := hcut
  cases kq with
  | zero => exact absurd HA.out (by simp [kind_Is.j0])
  | succ kj2 =>
   have H := HA.out
   clear HA
   simp only [kind_Is.j0] at H
   by_cases c5 : x12_2 = true
   ·subst c5
    have H1 : (some true) = some r := by rw [if_pos rfl] at H; exact H
    clear H
    have H := H1
    clear H1
    obtain rfl := Option.some.inj H
    go_wp2
    go_ret
    exact ⟨by first | rfl | (simp [errW_none, errW_some] <;> rfl) | (simp [*, errW_none, errW_some] <;> rfl), by repeat (first | (with_reducible first | exact HB.out | apply below_alloc | apply pw_below_drewN | apply below_drew1) | exact HB.out)⟩
   ·replace c5 := Bool.eq_false_iff.mpr c5
    subst c5
    have H1 : ((strings_CutPrefix.f a1 (⟨#[42]⟩ : ByteArray)).bind fun bt118 => (if bt118.2 = true then ((kind_Find.f l0 bt118.1).bind fun bt120 => (some bt120.2)) else (some false))) = some r := by rw [if_neg (show ¬ (false = true) by decide)] at H; exact H
    clear H
    have H := H1
    clear H1
    replace H := Option.bind_eq_some_iff.mp H
    obtain ⟨⟨t118, t119⟩, A60, H⟩ := H
    replace H : (if t119 = true then ((kind_Find.f l0 t118).bind fun bt120 => (some bt120.2)) else (some false)) = some r := H
    have A6 := Aside0.mk A60
    clear A60
    by_cases c7 : t119 = true
    ·subst c7
     have H1 : ((kind_Find.f l0 t118).bind fun bt120 => (some bt120.2)) = some r := by rw [if_pos rfl] at H; exact H
     clear H
     have H := H1
     clear H1
     replace H := Option.bind_eq_some_iff.mp H
     obtain ⟨⟨t120, t121⟩, A80, H⟩ := H
     replace H : (some t121) = some r := H
     have A8 := Aside0.mk A80
     clear A80
     obtain rfl := Option.some.inj H
     go_wp2_with (first | ((with_reducible refine gate_callee (f := 28) rfl ?_); refine goesL_ (some 15) rfl rfl Try.func28 (by kernel_rfl) rfl #[.string a1, .string (⟨#[42]⟩ : ByteArray)] rfl (by (try simp only [List.map_toArray, List.map_cons, List.map_nil]); first | done | rfl | (simp only [List.length_drop, List.length_take]; rfl)) ?_; (with_reducible refine (strings_CutPrefix.calls a1 (⟨#[42]⟩ : ByteArray) t118 true _ A6.out).mono ?_); rintro e w' ⟨rfl, ⟨nd, rfl⟩⟩; refine ⟨_, rfl, ?_⟩) | ((with_reducible refine gate_callee (f := 12) rfl ?_); refine goesL_ (some 23) rfl rfl Try.func12 (by kernel_rfl) rfl #[.slice A0 l0.length c0, .string t118] rfl (by (try simp only [List.map_toArray, List.map_cons, List.map_nil]); first | done | rfl | (simp only [List.length_drop, List.length_take]; rfl)) ?_; (with_reducible refine (kind_Find.calls _ _ l0 t118 t120 t121 _ ?side1 ?side2 A8.out).mono ?_); (case side1 => repeat (first | exact (Kd.C_below HR0.out (by repeat (first | (with_reducible first | exact HB.out | apply below_alloc | apply pw_below_drewN | apply below_drew1) | exact HB.out))) | (with_reducible refine Kd.C_alloc ?_ _) | (with_reducible refine Kd.C_drewN ?_ _) | (with_reducible refine Kd.C_drew ?_))); (case side2 => exact HC0.out); rintro e w9 ⟨rfl, hb⟩; refine ⟨_, rfl, ?_⟩; have n0_ := Aside0.mk (below_step (by repeat (first | (with_reducible first | exact HB.out | apply below_alloc | apply pw_below_drewN | apply below_drew1) | exact HB.out)) hb); clear HB; have HB := n0_; clear n0_; (try clear hb); (try clear hb2); (try clear hk); (try clear hi)))
     go_ret
     exact ⟨by first | rfl | (simp [errW_none, errW_some] <;> rfl) | (simp [*, errW_none, errW_some] <;> rfl), by repeat (first | (with_reducible first | exact HB.out | apply below_alloc | apply pw_below_drewN | apply below_drew1) | exact HB.out)⟩
    ·replace c7 := Bool.eq_false_iff.mpr c7
     subst c7
     have H1 : (some false) = some r := by rw [if_neg (show ¬ (false = true) by decide)] at H; exact H
     clear H
     have H := H1
     clear H1
     obtain rfl := Option.some.inj H
     go_wp2_with (first | ((with_reducible refine gate_callee (f := 28) rfl ?_); refine goesL_ (some 15) rfl rfl Try.func28 (by kernel_rfl) rfl #[.string a1, .string (⟨#[42]⟩ : ByteArray)] rfl (by (try simp only [List.map_toArray, List.map_cons, List.map_nil]); first | done | rfl | (simp only [List.length_drop, List.length_take]; rfl)) ?_; (with_reducible refine (strings_CutPrefix.calls a1 (⟨#[42]⟩ : ByteArray) t118 false _ A6.out).mono ?_); rintro e w' ⟨rfl, ⟨nd, rfl⟩⟩; refine ⟨_, rfl, ?_⟩))
     go_ret
     exact ⟨by first | rfl | (simp [errW_none, errW_some] <;> rfl) | (simp [*, errW_none, errW_some] <;> rfl), by repeat (first | (with_reducible first | exact HB.out | apply below_alloc | apply pw_below_drewN | apply below_drew1) | exact HB.out)⟩

end Go.Proofs.Ythpglaekdadehaa.Q

namespace Go.Proofs.Ythpglaekdadehaa.Q
open Go.RowKit Go.Proofs.YthpglaekdadehaaW.PrintWords Go.Proofs.YthpglaekdadehaaW.PrintLast Go.Proofs.YthpglaekdadehaaW.PrintMore
attribute [local go_sem] max2_int min2_int max_two min_two max_three min_three max_four min_four   -- for this text's walks alone
set_option linter.unusedVariables false
set_option linter.unusedSimpArgs false

/-! ### slices_Index_string_string: function 53 -/
def slices_Index_string_string.l0 : Nat → List ByteArray → ByteArray → Int → Int → Option (Int)
 | 0, _, _, _, _ => none
 | k + 1, x0, x1, x7, x8 => if x8 < x7 then (if 0 ≤ x8 then (if x8 < (x0.length : Int) then (if x1.toList = (rdOf ByteArray.empty x0 x8).toList then (some x8) else (slices_Index_string_string.l0 k x0 x1 x7 (wrap64 (x8 + 1)))) else (none)) else (none)) else (some (-1))
def slices_Index_string_string.f (k : Nat) (l0 : List ByteArray) (a1 : ByteArray) : Option (Int) := slices_Index_string_string.l0 k l0 a1 (l0.length : Int) 0
theorem slices_Index_string_string.mono_l : ∀ k, (∀ y0 y1 y2 y3, LeO (slices_Index_string_string.l0 k y0 y1 y2 y3) (slices_Index_string_string.l0 (k + 1) y0 y1 y2 y3))
 | 0 => fun _ _ _ _ r h => by simp [slices_Index_string_string.l0] at h
 | k + 1 => by
  have ih0 := slices_Index_string_string.mono_l k
  ·intro y0 y1 y2 y3
   unfold slices_Index_string_string.l0
   repeat' first
   | (with_reducible exact ih0 _ _ _ _)
   | (with_reducible exact LeO.refl _)
   | (with_reducible exact LeO.none _)
   | (with_reducible refine LeO.ite ?_ ?_)
   | (with_reducible refine LeO.bind ?_ (fun _ => ?_))
   | exact ih0 _ _ _ _
   | exact LeO.none _
   | refine LeO.ite ?_ ?_
   | refine LeO.bind ?_ (fun _ => ?_)
theorem slices_Index_string_string.mono : ∀ a0 a1 k, LeO (slices_Index_string_string.f k a0 a1) (slices_Index_string_string.f (k + 1) a0 a1) := by
 intro a0 a1 k
 have ih0 := slices_Index_string_string.mono_l k
 unfold slices_Index_string_string.f
 repeat' first
   | (with_reducible exact ih0 _ _ _ _)
   | (with_reducible exact LeO.refl _)
   | (with_reducible exact LeO.none _)
   | (with_reducible refine LeO.ite ?_ ?_)
   | (with_reducible refine LeO.bind ?_ (fun _ => ?_))
   | exact ih0 _ _ _ _
   | exact LeO.none _
   | refine LeO.ite ?_ ?_
   | refine LeO.bind ?_ (fun _ => ?_)
set_option maxHeartbeats 8000000 in
set_option maxRecDepth 100000 in
theorem slices_Index_string_string.calls (k : Nat) (A0 : Option Addr) (c0 : Nat) (l0 : List ByteArray) (a1 : ByteArray) (r : Int) (w : World) (hr0 : Kd.C Kd.string w A0 l0.length l0) (hc0 : l0.length ≤ c0) (h : slices_Index_string_string.f k l0 a1 = some r) :
  Calls Try.prog 53 #[.slice A0 l0.length c0, .string a1] w fun e w' => e = .returned (.int .i64 r) ∧ Drawn0 w w' := by
 have HR0 := Aside0.mk hr0
 have HC0 := Aside0.mk hc0
 clear hr0 hc0
 have H : (slices_Index_string_string.l0 k l0 a1 (l0.length : Int) 0) = some r := h
 clear h
 have H' := Aside0.mk H
 clear H
 go_enter Try.func53, Try.ntmps53
 go_wp2
 go_loopg [8] k (fun kq v8 w' => ∃ (x8_1 : Int), v8 = .int .i64 x8_1 ∧ Aside0 (slices_Index_string_string.l0 kq l0 a1 (l0.length : Int) x8_1 = some r) ∧ Aside0 (kq ≤ k) ∧ Drawn0 w w')
 case atStart => exact ⟨(0), (by first | rfl | (simp; done) | (simp [*]; done)), H', ⟨Nat.le_refl _⟩, by repeat (first | exact Drawn0.refl _ | apply Drawn0.step)⟩
 case round =>
  clear H'
  try clear p2
  obtain ⟨x8_1, rfl, HA, HK1, ⟨m1, rfl⟩⟩ := hrel
  cases gk with
  | zero => exact absurd HA.out (by simp [slices_Index_string_string.l0])
  | succ k1 =>
   have H := HA.out
   clear HA
   simp only [slices_Index_string_string.l0] at H
   by_cases c3 : x8_1 < (l0.length : Int)
   ·rw [if_pos c3] at H
    have c3b0 : decide (x8_1 < (l0.length : Int)) = true := decide_eq_true c3
    clear c3
    by_cases c4 : 0 ≤ x8_1
    ·rw [if_pos c4] at H
     have c4b0 : decide (0 ≤ x8_1) = true := decide_eq_true c4
     clear c4
     by_cases c5 : x8_1 < (l0.length : Int)
     ·rw [if_pos c5] at H
      have c5b0 : decide (x8_1 < (l0.length : Int)) = true := decide_eq_true c5
      clear c5
      by_cases c6 : a1.toList = (rdOf ByteArray.empty l0 x8_1).toList
      ·rw [if_pos c6] at H
       have c6b0 : (a1.toList == (rdOf ByteArray.empty l0 x8_1).toList) = true := beq_iff_eq.mpr c6
       have c6b1 : (a1.toList != (rdOf ByteArray.empty l0 x8_1).toList) = false := bne_eq_false_iff_eq.mpr c6
       clear c6
       obtain rfl := Option.some.inj H
       have p104 : 0 ≤ (x8_1 : Int) := of_decide_eq_true (by first | (with_reducible assumption) | assumption)
       have q104 : x8_1 < (l0.length : Int) := of_decide_eq_true (by first | (with_reducible assumption) | assumption)
       obtain ⟨ad104, e104, hx104_0⟩ := Kd.at_string HR0.out x8_1 p104 q104
       cases e104
       replace p104 := eq_true p104
       replace q104 := eq_true q104
       go_wp2
       go_ret
       exact ⟨by first | rfl | (simp; done) | (simp [*]; done), by repeat (first | exact Drawn0.refl _ | apply Drawn0.step)⟩
      ·rw [if_neg c6] at H
       have c6b0 : (a1.toList == (rdOf ByteArray.empty l0 x8_1).toList) = false := beq_eq_false_iff_ne.mpr c6
       have c6b1 : (a1.toList != (rdOf ByteArray.empty l0 x8_1).toList) = true := bne_iff_ne.mpr c6
       have H' := Aside0.mk H
       clear H
       have p104 : 0 ≤ (x8_1 : Int) := of_decide_eq_true (by first | (with_reducible assumption) | assumption)
       have q104 : x8_1 < (l0.length : Int) := of_decide_eq_true (by first | (with_reducible assumption) | assumption)
       obtain ⟨ad104, e104, hx104_0⟩ := Kd.at_string HR0.out x8_1 p104 q104
       cases e104
       replace p104 := eq_true p104
       replace q104 := eq_true q104
       go_wp2
       go_roundg k1
       case measure => have := HK1.out; omega
       case rel => exact ⟨(wrap64 (x8_1 + 1)), (by first | rfl | (simp; done) | (simp [*]; done)), H', ⟨by have := HK1.out; omega⟩, by repeat (first | exact Drawn0.refl _ | apply Drawn0.step)⟩
     ·rw [if_neg c5] at H
      exact absurd H (by simp)
    ·rw [if_neg c4] at H
     exact absurd H (by simp)
   ·rw [if_neg c3] at H
    have c3b0 : decide (x8_1 < (l0.length : Int)) = false := decide_eq_false c3
    clear c3
    obtain rfl := Option.some.inj H
    go_wp2
    go_ret
    exact ⟨by first | rfl | (simp; done) | (simp [*]; done), by repeat (first | exact Drawn0.refl _ | apply Drawn0.step)⟩

end Go.Proofs.Ythpglaekdadehaa.Q

namespace Go.Proofs.Ythpglaekdadehaa.Q
open Go.RowKit Go.Proofs.YthpglaekdadehaaW.PrintWords Go.Proofs.YthpglaekdadehaaW.PrintLast Go.Proofs.YthpglaekdadehaaW.PrintMore
attribute [local go_sem] max2_int min2_int max_two min_two max_three min_three max_four min_four   -- for this text's walks alone
set_option linter.unusedVariables false
set_option linter.unusedSimpArgs false

/-! ### slices_Contains_string_string: function 51 -/
def slices_Contains_string_string.f (k : Nat) (l0 : List ByteArray) (a1 : ByteArray) : Option (Bool) := (slices_Index_string_string.f k l0 a1).bind fun t105 => (some (decide (t105 ≥ 0)))
theorem slices_Contains_string_string.mono : ∀ a0 a1 k, LeO (slices_Contains_string_string.f k a0 a1) (slices_Contains_string_string.f (k + 1) a0 a1) := by
 intro a0 a1 k
 unfold slices_Contains_string_string.f
 repeat' first
   | (with_reducible exact slices_Index_string_string.mono _ _ _)
   | (with_reducible exact LeO.refl _)
   | (with_reducible exact LeO.none _)
   | (with_reducible refine LeO.ite ?_ ?_)
   | (with_reducible refine LeO.bind ?_ (fun _ => ?_))
   | exact slices_Index_string_string.mono _ _ _
   | exact LeO.none _
   | refine LeO.ite ?_ ?_
   | refine LeO.bind ?_ (fun _ => ?_)
set_option maxHeartbeats 8000000 in
set_option maxRecDepth 100000 in
theorem slices_Contains_string_string.calls (k : Nat) (A0 : Option Addr) (c0 : Nat) (l0 : List ByteArray) (a1 : ByteArray) (r : Bool) (w : World) (hr0 : Kd.C Kd.string w A0 l0.length l0) (hc0 : l0.length ≤ c0) (h : slices_Contains_string_string.f k l0 a1 = some r) :
  Calls Try.prog 51 #[.slice A0 l0.length c0, .string a1] w fun e w' => e = .returned (.bool r) ∧ Drawn0 w w' := by
 have HR0 := Aside0.mk hr0
 have HC0 := Aside0.mk hc0
 clear hr0 hc0
 have H : ((slices_Index_string_string.f k l0 a1).bind fun t105 => (some (decide (t105 ≥ 0)))) = some r := h
 clear h
 replace H := Option.bind_eq_some_iff.mp H
 obtain ⟨t105, A30, H⟩ := H
 replace H : (some (decide (t105 ≥ 0))) = some r := H
 have A3 := Aside0.mk A30
 clear A30
 obtain rfl := Option.some.inj H
 go_enter Try.func51, Try.ntmps51
 go_wp2_with (first | ((with_reducible refine gate_callee (f := 53) rfl ?_); refine goesL_ (some 7) rfl rfl Try.func53 (by kernel_rfl) rfl #[.slice A0 l0.length c0, .string a1] rfl (by (try simp only [List.map_toArray, List.map_cons, List.map_nil]); first | done | rfl | (simp only [List.length_drop, List.length_take]; rfl)) ?_; (with_reducible refine (slices_Index_string_string.calls k _ _ l0 a1 t105 _ ?side1 ?side2 A3.out).mono ?_); (case side1 => repeat (first | exact HR0.out | (with_reducible refine Kd.C_alloc ?_ _) | (with_reducible refine Kd.C_drewN ?_ _) | (with_reducible refine Kd.C_drew ?_))); (case side2 => exact HC0.out); rintro e w' ⟨rfl, ⟨nd, rfl⟩⟩; refine ⟨_, rfl, ?_⟩))
 go_ret
 exact ⟨by first | rfl | (simp; done) | (simp [*]; done), by repeat (first | exact Drawn0.refl _ | apply Drawn0.step)⟩

end Go.Proofs.Ythpglaekdadehaa.Q

namespace Go.Proofs.Ythpglaekdadehaa.Q
open Go.RowKit Go.Proofs.YthpglaekdadehaaW.PrintWords Go.Proofs.YthpglaekdadehaaW.PrintLast Go.Proofs.YthpglaekdadehaaW.PrintMore
attribute [local go_sem] max2_int min2_int max_two min_two max_three min_three max_four min_four   -- for this text's walks alone
set_option linter.unusedVariables false
set_option linter.unusedSimpArgs false

/-! ### lex_keys: function 52 -/
def lex_keys.f  : Option (List ByteArray) := some (([(⟨#[116, 121, 112, 101]⟩ : ByteArray), (⟨#[115, 116, 114, 117, 99, 116]⟩ : ByteArray), (⟨#[102, 117, 110, 99]⟩ : ByteArray), (⟨#[118, 97, 114]⟩ : ByteArray), (⟨#[105, 102]⟩ : ByteArray), (⟨#[101, 108, 115, 101]⟩ : ByteArray), (⟨#[102, 111, 114]⟩ : ByteArray), (⟨#[114, 101, 116, 117, 114, 110]⟩ : ByteArray), (⟨#[112, 114, 105, 110, 116]⟩ : ByteArray), (⟨#[110, 101, 119]⟩ : ByteArray), (⟨#[110, 105, 108]⟩ : ByteArray), (⟨#[116, 114, 117, 101]⟩ : ByteArray), (⟨#[102, 97, 108, 115, 101]⟩ : ByteArray), (⟨#[105, 110, 116]⟩ : ByteArray), (⟨#[98, 111, 111, 108]⟩ : ByteArray), (⟨#[114, 101, 97, 100]⟩ : ByteArray)] : List ByteArray))
set_option maxHeartbeats 8000000 in
set_option maxRecDepth 100000 in
theorem lex_keys.calls  (r : List ByteArray) (w : World) (h : lex_keys.f  = some r) :
  Calls Try.prog 52 #[] w fun e w' => ∃ v0_ : Value, e = .returned (v0_) ∧ Kd.R Kd.string 9 w' w.heap.size (fun _ => True) v0_ r ∧ Below w.heap.size w w' := by
 have HB := Aside0.mk (Below.refl w.heap.size w)
 have H : (some (([(⟨#[116, 121, 112, 101]⟩ : ByteArray), (⟨#[115, 116, 114, 117, 99, 116]⟩ : ByteArray), (⟨#[102, 117, 110, 99]⟩ : ByteArray), (⟨#[118, 97, 114]⟩ : ByteArray), (⟨#[105, 102]⟩ : ByteArray), (⟨#[101, 108, 115, 101]⟩ : ByteArray), (⟨#[102, 111, 114]⟩ : ByteArray), (⟨#[114, 101, 116, 117, 114, 110]⟩ : ByteArray), (⟨#[112, 114, 105, 110, 116]⟩ : ByteArray), (⟨#[110, 101, 119]⟩ : ByteArray), (⟨#[110, 105, 108]⟩ : ByteArray), (⟨#[116, 114, 117, 101]⟩ : ByteArray), (⟨#[102, 97, 108, 115, 101]⟩ : ByteArray), (⟨#[105, 110, 116]⟩ : ByteArray), (⟨#[98, 111, 111, 108]⟩ : ByteArray), (⟨#[114, 101, 97, 100]⟩ : ByteArray)] : List ByteArray))) = some r := h
 clear h
 obtain ⟨y106, hy106⟩ : ∃ y_ : List ByteArray, y_ = (([(⟨#[116, 121, 112, 101]⟩ : ByteArray), (⟨#[115, 116, 114, 117, 99, 116]⟩ : ByteArray), (⟨#[102, 117, 110, 99]⟩ : ByteArray), (⟨#[118, 97, 114]⟩ : ByteArray), (⟨#[105, 102]⟩ : ByteArray), (⟨#[101, 108, 115, 101]⟩ : ByteArray), (⟨#[102, 111, 114]⟩ : ByteArray), (⟨#[114, 101, 116, 117, 114, 110]⟩ : ByteArray), (⟨#[112, 114, 105, 110, 116]⟩ : ByteArray), (⟨#[110, 101, 119]⟩ : ByteArray), (⟨#[110, 105, 108]⟩ : ByteArray), (⟨#[116, 114, 117, 101]⟩ : ByteArray), (⟨#[102, 97, 108, 115, 101]⟩ : ByteArray), (⟨#[105, 110, 116]⟩ : ByteArray), (⟨#[98, 111, 111, 108]⟩ : ByteArray), (⟨#[114, 101, 97, 100]⟩ : ByteArray)] : List ByteArray)) := ⟨_, rfl⟩
 replace H : (some y106) = some r := by first | (rw [hy106]; with_reducible exact H) | (have H2_ := (Option.bind_some _ _).symm.trans H; rw [hy106]; with_reducible exact H2_) | (have H2_ := (Option.bind_some _ _).symm.trans H; with_reducible exact H2_) | with_reducible exact H | (rw [hy106]; exact H) | exact H
 have Ny106 := Aside0.mk hy106
 clear hy106
 obtain rfl := Option.some.inj H
 go_enter Try.func52, Try.ntmps52
 go_wp2_with (first | ((with_reducible refine gate_dst (N := 1) rfl ?_); refine Kd.R_lit Kd.string _ 9 ?hg (N := 1) ?hd (xs := ([(⟨#[116, 121, 112, 101]⟩ : ByteArray), (⟨#[115, 116, 114, 117, 99, 116]⟩ : ByteArray), (⟨#[102, 117, 110, 99]⟩ : ByteArray), (⟨#[118, 97, 114]⟩ : ByteArray), (⟨#[105, 102]⟩ : ByteArray), (⟨#[101, 108, 115, 101]⟩ : ByteArray), (⟨#[102, 111, 114]⟩ : ByteArray), (⟨#[114, 101, 116, 117, 114, 110]⟩ : ByteArray), (⟨#[112, 114, 105, 110, 116]⟩ : ByteArray), (⟨#[110, 101, 119]⟩ : ByteArray), (⟨#[110, 105, 108]⟩ : ByteArray), (⟨#[116, 114, 117, 101]⟩ : ByteArray), (⟨#[102, 97, 108, 115, 101]⟩ : ByteArray), (⟨#[105, 110, 116]⟩ : ByteArray), (⟨#[98, 111, 111, 108]⟩ : ByteArray), (⟨#[114, 101, 97, 100]⟩ : ByteArray)] : List ByteArray)) (inner := [.string (⟨#[116, 121, 112, 101]⟩ : ByteArray), .string (⟨#[115, 116, 114, 117, 99, 116]⟩ : ByteArray), .string (⟨#[102, 117, 110, 99]⟩ : ByteArray), .string (⟨#[118, 97, 114]⟩ : ByteArray), .string (⟨#[105, 102]⟩ : ByteArray), .string (⟨#[101, 108, 115, 101]⟩ : ByteArray), .string (⟨#[102, 111, 114]⟩ : ByteArray), .string (⟨#[114, 101, 116, 117, 114, 110]⟩ : ByteArray), .string (⟨#[112, 114, 105, 110, 116]⟩ : ByteArray), .string (⟨#[110, 101, 119]⟩ : ByteArray), .string (⟨#[110, 105, 108]⟩ : ByteArray), .string (⟨#[116, 114, 117, 101]⟩ : ByteArray), .string (⟨#[102, 97, 108, 115, 101]⟩ : ByteArray), .string (⟨#[105, 110, 116]⟩ : ByteArray), .string (⟨#[98, 111, 111, 108]⟩ : ByteArray), .string (⟨#[114, 101, 97, 100]⟩ : ByteArray)]) (ok := fun _ => True) (okp := fun _ => True) ?hr ?hp (fun _ hk => hk) trivial (Below.refl _ _) (Nat.le_refl _) (by simp) ?_; (case hd => rfl); (case hg => rfl); (case hr => first | (go_simp; done) | (go_simp; rfl)); (case hp => exact (Reps.one (show Kd.M Kd.string _ _ _ (⟨#[116, 121, 112, 101]⟩ : ByteArray) [.string (⟨#[116, 121, 112, 101]⟩ : ByteArray)] from rfl) (Reps.one (show Kd.M Kd.string _ _ _ (⟨#[115, 116, 114, 117, 99, 116]⟩ : ByteArray) [.string (⟨#[115, 116, 114, 117, 99, 116]⟩ : ByteArray)] from rfl) (Reps.one (show Kd.M Kd.string _ _ _ (⟨#[102, 117, 110, 99]⟩ : ByteArray) [.string (⟨#[102, 117, 110, 99]⟩ : ByteArray)] from rfl) (Reps.one (show Kd.M Kd.string _ _ _ (⟨#[118, 97, 114]⟩ : ByteArray) [.string (⟨#[118, 97, 114]⟩ : ByteArray)] from rfl) (Reps.one (show Kd.M Kd.string _ _ _ (⟨#[105, 102]⟩ : ByteArray) [.string (⟨#[105, 102]⟩ : ByteArray)] from rfl) (Reps.one (show Kd.M Kd.string _ _ _ (⟨#[101, 108, 115, 101]⟩ : ByteArray) [.string (⟨#[101, 108, 115, 101]⟩ : ByteArray)] from rfl) (Reps.one (show Kd.M Kd.string _ _ _ (⟨#[102, 111, 114]⟩ : ByteArray) [.string (⟨#[102, 111, 114]⟩ : ByteArray)] from rfl) (Reps.one (show Kd.M Kd.string _ _ _ (⟨#[114, 101, 116, 117, 114, 110]⟩ : ByteArray) [.string (⟨#[114, 101, 116, 117, 114, 110]⟩ : ByteArray)] from rfl) (Reps.one (show Kd.M Kd.string _ _ _ (⟨#[112, 114, 105, 110, 116]⟩ : ByteArray) [.string (⟨#[112, 114, 105, 110, 116]⟩ : ByteArray)] from rfl) (Reps.one (show Kd.M Kd.string _ _ _ (⟨#[110, 101, 119]⟩ : ByteArray) [.string (⟨#[110, 101, 119]⟩ : ByteArray)] from rfl) (Reps.one (show Kd.M Kd.string _ _ _ (⟨#[110, 105, 108]⟩ : ByteArray) [.string (⟨#[110, 105, 108]⟩ : ByteArray)] from rfl) (Reps.one (show Kd.M Kd.string _ _ _ (⟨#[116, 114, 117, 101]⟩ : ByteArray) [.string (⟨#[116, 114, 117, 101]⟩ : ByteArray)] from rfl) (Reps.one (show Kd.M Kd.string _ _ _ (⟨#[102, 97, 108, 115, 101]⟩ : ByteArray) [.string (⟨#[102, 97, 108, 115, 101]⟩ : ByteArray)] from rfl) (Reps.one (show Kd.M Kd.string _ _ _ (⟨#[105, 110, 116]⟩ : ByteArray) [.string (⟨#[105, 110, 116]⟩ : ByteArray)] from rfl) (Reps.one (show Kd.M Kd.string _ _ _ (⟨#[98, 111, 111, 108]⟩ : ByteArray) [.string (⟨#[98, 111, 111, 108]⟩ : ByteArray)] from rfl) (Reps.one (show Kd.M Kd.string _ _ _ (⟨#[114, 101, 97, 100]⟩ : ByteArray) [.string (⟨#[114, 101, 97, 100]⟩ : ByteArray)] from rfl) (Reps.none _ _)))))))))))))))))); intro v107 w1 ho2 hb hg_ hnew_; clear hg_ hnew_; (first | rw [← Ny106.out] at ho2 | (simp only [Int.reduceToNat] at ho2; rw [← Ny106.out] at ho2)); have n0_ := Aside0.mk (Kd.R_lower ho2 (below_size (by repeat (first | (with_reducible first | exact HB.out | apply below_alloc | apply pw_below_drewN | apply below_drew1) | exact HB.out)))); have n1_ := Aside0.mk (below_step (by repeat (first | (with_reducible first | exact HB.out | apply below_alloc | apply pw_below_drewN | apply below_drew1) | exact HB.out)) hb); clear HB; have HO108 := n0_; have HB := n1_; clear n0_ n1_; clear hb ho2))
 go_ret
 exact ⟨_, by first | rfl | (simp [errW_none, errW_some] <;> rfl) | (simp [*, errW_none, errW_some] <;> rfl), by (with_reducible repeat (first | apply Kd.R_alloc | apply Kd.R_drewN | apply Kd.R_drew)); exact HO108.out, by repeat (first | (with_reducible first | exact HB.out | apply below_alloc | apply pw_below_drewN | apply below_drew1) | exact HB.out)⟩

end Go.Proofs.Ythpglaekdadehaa.Q

namespace Go.Proofs.Ythpglaekdadehaa.Q
open Go.RowKit Go.Proofs.YthpglaekdadehaaW.PrintWords Go.Proofs.YthpglaekdadehaaW.PrintLast Go.Proofs.YthpglaekdadehaaW.PrintMore
attribute [local go_sem] max2_int min2_int max_two min_two max_three min_three max_four min_four   -- for this text's walks alone
set_option linter.unusedVariables false
set_option linter.unusedSimpArgs false

/-! ### lex_IsKey: function 43 -/
def lex_IsKey.f (k : Nat) (a0 : ByteArray) : Option (Bool) := (lex_keys.f).bind fun t109 => ((slices_Contains_string_string.f k t109 a0).bind fun t112 => (some t112))
theorem lex_IsKey.mono : ∀ a0 k, LeO (lex_IsKey.f k a0) (lex_IsKey.f (k + 1) a0) := by
 intro a0 k
 unfold lex_IsKey.f
 repeat' first
   | (with_reducible exact slices_Contains_string_string.mono _ _ _)
   | (with_reducible exact LeO.refl _)
   | (with_reducible exact LeO.none _)
   | (with_reducible refine LeO.ite ?_ ?_)
   | (with_reducible refine LeO.bind ?_ (fun _ => ?_))
   | exact slices_Contains_string_string.mono _ _ _
   | exact LeO.none _
   | refine LeO.ite ?_ ?_
   | refine LeO.bind ?_ (fun _ => ?_)
set_option maxHeartbeats 8000000 in
set_option maxRecDepth 100000 in
theorem lex_IsKey.calls (k : Nat) (a0 : ByteArray) (r : Bool) (w : World) (h : lex_IsKey.f k a0 = some r) :
  Calls Try.prog 43 #[.string a0] w fun e w' => e = .returned (.bool r) ∧ Below w.heap.size w w' := by
 have HB := Aside0.mk (Below.refl w.heap.size w)
 have H : ((lex_keys.f).bind fun t109 => ((slices_Contains_string_string.f k t109 a0).bind fun t112 => (some t112))) = some r := h
 clear h
 replace H := Option.bind_eq_some_iff.mp H
 obtain ⟨t109, A20, H⟩ := H
 replace H : ((slices_Contains_string_string.f k t109 a0).bind fun t112 => (some t112)) = some r := H
 have A2 := Aside0.mk A20
 clear A20
 replace H := Option.bind_eq_some_iff.mp H
 obtain ⟨t112, A30, H⟩ := H
 replace H : (some t112) = some r := H
 have A3 := Aside0.mk A30
 clear A30
 obtain rfl := Option.some.inj H
 go_enter Try.func43, Try.ntmps43
 go_wp2_with (first | ((with_reducible refine gate_callee (f := 52) rfl ?_); refine goesL_ (some 3) rfl rfl Try.func52 (by kernel_rfl) rfl #[] rfl (by (try simp only [List.map_toArray, List.map_cons, List.map_nil]); first | done | rfl | (simp only [List.length_drop, List.length_take]; rfl)) ?_; (with_reducible refine (lex_keys.calls  t109 _ A2.out).mono ?_); rintro e w4 ⟨v110, rfl, ho0, hb⟩; refine ⟨_, rfl, ?_⟩; have n0_ := Aside0.mk (Kd.R_lower ho0 (below_size (by repeat (first | (with_reducible first | exact HB.out | apply below_alloc | apply pw_below_drewN | apply below_drew1) | exact HB.out)))); have n1_ := Aside0.mk (below_step (by repeat (first | (with_reducible first | exact HB.out | apply below_alloc | apply pw_below_drewN | apply below_drew1) | exact HB.out)) hb); clear HB; have HO111 := n0_; have HB := n1_; clear n0_ n1_; (try clear hb); (try clear hb2); (try clear hk); (try clear hi); (try clear ho0); obtain ⟨Ao5, co5, eo5⟩ := Kd.R_slice HO111.out; subst eo5) | ((with_reducible refine gate_callee (f := 51) rfl ?_); refine goesL_ (some 5) rfl rfl Try.func51 (by kernel_rfl) rfl #[.slice Ao5 t109.length co5, .string a0] rfl (by (try simp only [List.map_toArray, List.map_cons, List.map_nil]); first | done | rfl | (simp only [List.length_drop, List.length_take]; rfl)) ?_; (with_reducible refine (slices_Contains_string_string.calls k _ _ t109 a0 t112 _ ?side1 ?side2 A3.out).mono ?_); (case side1 => repeat (first | exact (Kd.R_reads' HO111.out).2.2 | (with_reducible refine Kd.C_alloc ?_ _) | (with_reducible refine Kd.C_drewN ?_ _) | (with_reducible refine Kd.C_drew ?_))); (case side2 => exact (Kd.R_reads' HO111.out).2.1); rintro e w' ⟨rfl, ⟨nd, rfl⟩⟩; refine ⟨_, rfl, ?_⟩))
 go_ret
 exact ⟨by first | rfl | (simp [errW_none, errW_some] <;> rfl) | (simp [*, errW_none, errW_some] <;> rfl), by repeat (first | (with_reducible first | exact HB.out | apply below_alloc | apply pw_below_drewN | apply below_drew1) | exact HB.out)⟩

end Go.Proofs.Ythpglaekdadehaa.Q

namespace Go.Proofs.Ythpglaekdadehaa.Q
open Go.RowKit Go.Proofs.YthpglaekdadehaaW.PrintWords Go.Proofs.YthpglaekdadehaaW.PrintLast Go.Proofs.YthpglaekdadehaaW.PrintMore
attribute [local go_sem] max2_int min2_int max_two min_two max_three min_three max_four min_four   -- for this text's walks alone
set_option linter.unusedVariables false
set_option linter.unusedSimpArgs false

/-! ### lex_isLetter: function 47 -/
def lex_isLetter.f (a0 : Int) : Option (Bool) := if a0 ≥ 97 then (if a0 ≤ 122 then (some true) else (if a0 ≥ 65 then (if a0 ≤ 90 then (some true) else (some (a0 == 95))) else (some (a0 == 95)))) else (if a0 ≥ 65 then (if a0 ≤ 90 then (some true) else (some (a0 == 95))) else (some (a0 == 95)))
set_option maxHeartbeats 8000000 in
set_option maxRecDepth 100000 in
theorem lex_isLetter.calls (a0 : Int) (r : Bool) (w : World) (h : lex_isLetter.f a0 = some r) :
  Calls Try.prog 47 #[.int .u8 a0] w fun e w' => e = .returned (.bool r) ∧ Drawn0 w w' := by
 have H : (if a0 ≥ 97 then (if a0 ≤ 122 then (some true) else (if a0 ≥ 65 then (if a0 ≤ 90 then (some true) else (some (a0 == 95))) else (some (a0 == 95)))) else (if a0 ≥ 65 then (if a0 ≤ 90 then (some true) else (some (a0 == 95))) else (some (a0 == 95)))) = some r := h
 clear h
 by_cases c2 : a0 ≥ 97
 ·rw [if_pos c2] at H
  have c2b0 : decide (97 ≤ a0) = true := decide_eq_true c2
  clear c2
  by_cases c3 : a0 ≤ 122
  ·rw [if_pos c3] at H
   have c3b0 : decide (a0 ≤ 122) = true := decide_eq_true c3
   clear c3
   obtain rfl := Option.some.inj H
   go_enter Try.func47, Try.ntmps47
   go_wp2
   go_ret
   exact ⟨by first | rfl | (simp; done) | (simp [*]; done), by repeat (first | exact Drawn0.refl _ | apply Drawn0.step)⟩
  ·rw [if_neg c3] at H
   have c3b0 : decide (a0 ≤ 122) = false := decide_eq_false c3
   clear c3
   by_cases c4 : a0 ≥ 65
   ·rw [if_pos c4] at H
    have c4b0 : decide (65 ≤ a0) = true := decide_eq_true c4
    clear c4
    by_cases c5 : a0 ≤ 90
    ·rw [if_pos c5] at H
     have c5b0 : decide (a0 ≤ 90) = true := decide_eq_true c5
     clear c5
     obtain rfl := Option.some.inj H
     go_enter Try.func47, Try.ntmps47
     go_wp2
     go_ret
     exact ⟨by first | rfl | (simp; done) | (simp [*]; done), by repeat (first | exact Drawn0.refl _ | apply Drawn0.step)⟩
    ·rw [if_neg c5] at H
     have c5b0 : decide (a0 ≤ 90) = false := decide_eq_false c5
     clear c5
     obtain rfl := Option.some.inj H
     go_enter Try.func47, Try.ntmps47
     go_wp2
     go_ret
     exact ⟨by first | rfl | (simp; done) | (simp [*]; done), by repeat (first | exact Drawn0.refl _ | apply Drawn0.step)⟩
   ·rw [if_neg c4] at H
    have c4b0 : decide (65 ≤ a0) = false := decide_eq_false c4
    clear c4
    obtain rfl := Option.some.inj H
    go_enter Try.func47, Try.ntmps47
    go_wp2
    go_ret
    exact ⟨by first | rfl | (simp; done) | (simp [*]; done), by repeat (first | exact Drawn0.refl _ | apply Drawn0.step)⟩
 ·rw [if_neg c2] at H
  have c2b0 : decide (97 ≤ a0) = false := decide_eq_false c2
  clear c2
  by_cases c6 : a0 ≥ 65
  ·rw [if_pos c6] at H
   have c6b0 : decide (65 ≤ a0) = true := decide_eq_true c6
   clear c6
   by_cases c7 : a0 ≤ 90
   ·rw [if_pos c7] at H
    have c7b0 : decide (a0 ≤ 90) = true := decide_eq_true c7
    clear c7
    obtain rfl := Option.some.inj H
    go_enter Try.func47, Try.ntmps47
    go_wp2
    go_ret
    exact ⟨by first | rfl | (simp; done) | (simp [*]; done), by repeat (first | exact Drawn0.refl _ | apply Drawn0.step)⟩
   ·rw [if_neg c7] at H
    have c7b0 : decide (a0 ≤ 90) = false := decide_eq_false c7
    clear c7
    obtain rfl := Option.some.inj H
    go_enter Try.func47, Try.ntmps47
    go_wp2
    go_ret
    exact ⟨by first | rfl | (simp; done) | (simp [*]; done), by repeat (first | exact Drawn0.refl _ | apply Drawn0.step)⟩
  ·rw [if_neg c6] at H
   have c6b0 : decide (65 ≤ a0) = false := decide_eq_false c6
   clear c6
   obtain rfl := Option.some.inj H
   go_enter Try.func47, Try.ntmps47
   go_wp2
   go_ret
   exact ⟨by first | rfl | (simp; done) | (simp [*]; done), by repeat (first | exact Drawn0.refl _ | apply Drawn0.step)⟩

end Go.Proofs.Ythpglaekdadehaa.Q

namespace Go.Proofs.Ythpglaekdadehaa.Q
open Go.RowKit Go.Proofs.YthpglaekdadehaaW.PrintWords Go.Proofs.YthpglaekdadehaaW.PrintLast Go.Proofs.YthpglaekdadehaaW.PrintMore
attribute [local go_sem] max2_int min2_int max_two min_two max_three min_three max_four min_four   -- for this text's walks alone
set_option linter.unusedVariables false
set_option linter.unusedSimpArgs false

/-! ### lex_isDigit: function 50 -/
def lex_isDigit.f (a0 : Int) : Option (Bool) := if a0 ≥ 48 then (some (decide (a0 ≤ 57))) else (some false)
set_option maxHeartbeats 8000000 in
set_option maxRecDepth 100000 in
theorem lex_isDigit.calls (a0 : Int) (r : Bool) (w : World) (h : lex_isDigit.f a0 = some r) :
  Calls Try.prog 50 #[.int .u8 a0] w fun e w' => e = .returned (.bool r) ∧ Drawn0 w w' := by
 have H : (if a0 ≥ 48 then (some (decide (a0 ≤ 57))) else (some false)) = some r := h
 clear h
 by_cases c2 : a0 ≥ 48
 ·rw [if_pos c2] at H
  have c2b0 : decide (48 ≤ a0) = true := decide_eq_true c2
  clear c2
  obtain rfl := Option.some.inj H
  go_enter Try.func50, Try.ntmps50
  go_wp2
  go_ret
  exact ⟨by first | rfl | (simp; done) | (simp [*]; done), by repeat (first | exact Drawn0.refl _ | apply Drawn0.step)⟩
 ·rw [if_neg c2] at H
  have c2b0 : decide (48 ≤ a0) = false := decide_eq_false c2
  clear c2
  obtain rfl := Option.some.inj H
  go_enter Try.func50, Try.ntmps50
  go_wp2
  go_ret
  exact ⟨by first | rfl | (simp; done) | (simp [*]; done), by repeat (first | exact Drawn0.refl _ | apply Drawn0.step)⟩

end Go.Proofs.Ythpglaekdadehaa.Q

namespace Go.Proofs.Ythpglaekdadehaa.Q
open Go.RowKit Go.Proofs.YthpglaekdadehaaW.PrintWords Go.Proofs.YthpglaekdadehaaW.PrintLast Go.Proofs.YthpglaekdadehaaW.PrintMore
attribute [local go_sem] max2_int min2_int max_two min_two max_three min_three max_four min_four   -- for this text's walks alone
set_option linter.unusedVariables false
set_option linter.unusedSimpArgs false

/-! ### lex_isName_1: function 49 -/
def lex_isName_1.f (a0 : Int) : Option (Bool) := (lex_isLetter.f a0).bind fun t102 => (if t102 = true then (some true) else ((lex_isDigit.f a0).bind fun t103 => (some t103)))
set_option maxHeartbeats 8000000 in
set_option maxRecDepth 100000 in
theorem lex_isName_1.calls (a0 : Int) (r : Bool) (w : World) (h : lex_isName_1.f a0 = some r) :
  Calls Try.prog 49 #[.int .u8 a0] w fun e w' => e = .returned (.bool r) ∧ Drawn0 w w' := by
 have H : ((lex_isLetter.f a0).bind fun t102 => (if t102 = true then (some true) else ((lex_isDigit.f a0).bind fun t103 => (some t103)))) = some r := h
 clear h
 replace H := Option.bind_eq_some_iff.mp H
 obtain ⟨t102, A20, H⟩ := H
 replace H : (if t102 = true then (some true) else ((lex_isDigit.f a0).bind fun t103 => (some t103))) = some r := H
 have A2 := Aside0.mk A20
 clear A20
 by_cases c3 : t102 = true
 ·subst c3
  have H1 : (some true) = some r := by rw [if_pos rfl] at H; exact H
  clear H
  have H := H1
  clear H1
  obtain rfl := Option.some.inj H
  go_enter Try.func49, Try.ntmps49
  go_wp2_with (first | ((with_reducible refine gate_callee (f := 47) rfl ?_); refine goesL_ (some 4) rfl rfl Try.func47 (by kernel_rfl) rfl #[.int .u8 a0] rfl (by (try simp only [List.map_toArray, List.map_cons, List.map_nil]); first | done | rfl | (simp only [List.length_drop, List.length_take]; rfl)) ?_; (with_reducible refine (lex_isLetter.calls a0 true _ A2.out).mono ?_); rintro e w' ⟨rfl, ⟨nd, rfl⟩⟩; refine ⟨_, rfl, ?_⟩))
  go_ret
  exact ⟨by first | rfl | (simp; done) | (simp [*]; done), by repeat (first | exact Drawn0.refl _ | apply Drawn0.step)⟩
 ·replace c3 := Bool.eq_false_iff.mpr c3
  subst c3
  have H1 : ((lex_isDigit.f a0).bind fun t103 => (some t103)) = some r := by rw [if_neg (show ¬ (false = true) by decide)] at H; exact H
  clear H
  have H := H1
  clear H1
  replace H := Option.bind_eq_some_iff.mp H
  obtain ⟨t103, A40, H⟩ := H
  replace H : (some t103) = some r := H
  have A4 := Aside0.mk A40
  clear A40
  obtain rfl := Option.some.inj H
  go_enter Try.func49, Try.ntmps49
  go_wp2_with (first | ((with_reducible refine gate_callee (f := 47) rfl ?_); refine goesL_ (some 4) rfl rfl Try.func47 (by kernel_rfl) rfl #[.int .u8 a0] rfl (by (try simp only [List.map_toArray, List.map_cons, List.map_nil]); first | done | rfl | (simp only [List.length_drop, List.length_take]; rfl)) ?_; (with_reducible refine (lex_isLetter.calls a0 false _ A2.out).mono ?_); rintro e w' ⟨rfl, ⟨nd, rfl⟩⟩; refine ⟨_, rfl, ?_⟩) | (go_at_call 50; (with_reducible refine (lex_isDigit.calls a0 t103 _ A4.out).mono ?_); rintro e w' ⟨rfl, ⟨nd, rfl⟩⟩))
  go_ret
  exact ⟨by first | rfl | (simp; done) | (simp [*]; done), by repeat (first | exact Drawn0.refl _ | apply Drawn0.step)⟩

end Go.Proofs.Ythpglaekdadehaa.Q

/- 'lex.isName', and the run of a name's bytes: by hand. -/

namespace Go.Proofs.Ythpglaekdadehaa.Q
open Go.RowKit Go.Proofs.YthpglaekdadehaaW.PrintWords Go.Proofs.YthpglaekdadehaaW.PrintLast Go.Proofs.YthpglaekdadehaaW.PrintMore
set_option linter.unusedVariables false
set_option linter.unusedSimpArgs false
def letB (a : Int) : Bool := decide (97 ≤ a ∧ a ≤ 122 ∨ 65 ≤ a ∧ a ≤ 90 ∨ a = 95)
def digB (a : Int) : Bool := decide (48 ≤ a ∧ a ≤ 57)
def lodB (a : Int) : Bool := letB a || digB a
theorem letB_some (a : Int) : lex_isLetter.f a = some (letB a) := by
 unfold lex_isLetter.f letB
 by_cases h1 : a ≥ 97 <;> by_cases h2 : a ≤ 122 <;> by_cases h3 : a ≥ 65 <;> by_cases h4 : a ≤ 90 <;> by_cases h5 : a = 95 <;> simp [h1, h2, h3, h4, h5] <;> omega
theorem digB_some (a : Int) : lex_isDigit.f a = some (digB a) := by
 unfold lex_isDigit.f digB
 by_cases h1 : a ≥ 48 <;> by_cases h2 : a ≤ 57 <;> simp [h1, h2] <;> omega
theorem lodB_some (a : Int) : lex_isName_1.f a = some (lodB a) := by
 unfold lex_isName_1.f lodB
 rw [letB_some, digB_some]
 cases letB a <;> simp
theorem lod_any (a : Int) (w : World) : Calls Try.prog 49 #[.int .u8 a] w fun e w' => e = .returned (.bool (lodB a)) ∧ Drawn0 w w' :=
 lex_isName_1.calls a _ w (lodB_some a)
set_option maxHeartbeats 400000 in
theorem run_name (s : ByteArray) (w : World) (hs : s.size ≤ 9223372036854775807) :
  Calls Try.prog 48 #[.string s, .func (.func 49) #[] #[]] w fun e w' => ∃ k : Nat, e = .returned (.int .i64 k) ∧ k ≤ s.size ∧ (∀ i : Nat, i < k → lodB (bt s i) = true) ∧ (k < s.size → lodB (bt s k) = false) ∧ Drawn0 w w' := by
 go_enter Try.func48, Try.ntmps48
 go_wp2
 go_loopw [5] (fun v wr => ∃ k : Nat, v = .int .i64 k ∧ k ≤ s.size ∧ Aside0 (∀ i : Nat, i < k → lodB (bt s i) = true) ∧ Drawn0 w wr) (fun v _ => s.size - (intOf v).toNat)
 case atStart => exact ⟨0, rfl, Nat.zero_le _, ⟨fun i h => absurd h (Nat.not_lt_zero _)⟩, Drawn0.refl _⟩
 case round =>
  obtain ⟨k, rfl, hk, HA, HD⟩ := hrel
  by_cases hlt : k < s.size
  ·have hb : ((s[k].toNat : Int)) = bt s k := bt_at s k (by simpa using hlt)
   have HB := Aside0.mk hb; clear hb
   go_wp2_with fail
   rw [HB.out]
   refine (lod_any (bt s k) wr).mono ?_
   rintro e w1 ⟨rfl, hd⟩
   have HD1 : Drawn0 w w1 := by obtain ⟨m, rfl⟩ := hd; exact HD.step m
   clear hd HD
   rcases hl : lodB (bt s k) with _ | _
   ·go_wp2
    go_ret
    exact ⟨k, rfl, hk, HA.out, fun _ => hl, HD1⟩
   ·have HL := Aside0.mk hl; clear hl
    go_wp2
    go_roundw
    case rel => exact ⟨k + 1, by go_num, by omega, ⟨all_succ (P := fun i => lodB (bt s (i : Nat)) = true) HA.out HL.out⟩, HD1⟩
    case measure => simp [intOf]; omega
  ·go_wp2
   go_ret
   exact ⟨k, rfl, hk, HA.out, fun h => absurd h hlt, HD⟩

def nameB (s : ByteArray) : Bool := decide (0 < s.size) && letB (bt s 0) && (List.range s.size).all (fun i => lodB (bt s (i : Nat)))
def lex_isName.f (a0 : ByteArray) : Option (Bool) := if a0.size ≤ 9223372036854775807 then some (nameB a0) else none
theorem run_all {s : ByteArray} {k : Nat} (hk : k ≤ s.size) (h : ∀ i : Nat, i < k → lodB (bt s i) = true) (h2 : k < s.size → lodB (bt s k) = false) :
  (List.range s.size).all (fun i => lodB (bt s (i : Nat))) = ((k : Int) == (s.size : Int)) := by
 by_cases e : k = s.size
 ·subst e; simp; exact h
 ·have := h2 (by omega)
  rw [beq_eq_false_iff_ne.mpr (by omega)]
  simp only [List.all_eq_false, List.mem_range]
  exact ⟨k, by omega, by simp [this]⟩
set_option maxHeartbeats 800000 in
theorem lex_isName.calls (a0 : ByteArray) (r : Bool) (w : World) (h : lex_isName.f a0 = some r) :
  Calls Try.prog 42 #[.string a0] w fun e w' => e = .returned (.bool r) ∧ Drawn0 w w' := by
 unfold lex_isName.f at h
 by_cases hs : a0.size ≤ 9223372036854775807
 ·rw [if_pos hs] at h
  obtain rfl := Option.some.inj h
  clear h
  by_cases hz : 0 < a0.size
  ·have hne : ¬ a0.toList = [] := fun e => by have := tl_len a0; rw [e] at this; simp at this; omega
   have hne2 : (!a0.toList.isEmpty) = true := by simpa using hne
   have hb : ((a0[0].toNat : Int)) = bt a0 0 := bt_at a0 0 (by simpa using hz)
   have HB := Aside0.mk hb; clear hb
   go_enter Try.func42, Try.ntmps42
   go_wp2_with fail
   rw [HB.out]
   refine (lex_isLetter.calls (bt a0 0) _ w (letB_some _)).mono ?_
   rintro e w1 ⟨rfl, hd⟩
   rcases hl : letB (bt a0 0) with _ | _
   ·have HN : Aside0 (nameB a0 = false) := ⟨by simp [nameB, hl]⟩
    clear hl
    go_wp2
    go_ret
    exact ⟨by rw [HN.out]; rfl, hd⟩
   ·have HL := Aside0.mk hl; clear hl
    go_wp2_with fail
    refine (run_name a0 w1 hs).mono ?_
    rintro e w2 ⟨k, rfl, hk, h1, h2, hd2⟩
    have HN : Aside0 (nameB a0 = ((k : Int) == (a0.size : Int))) := ⟨by unfold nameB; rw [HL.out, run_all hk h1 h2]; simp [hz]⟩
    clear h1 h2
    go_wp2
    go_ret
    exact ⟨by rw [HN.out]; rfl, Drawn0.trans hd hd2⟩
  ·have hne : a0.toList = [] := List.eq_nil_of_length_eq_zero (by rw [tl_len]; omega)
   have hne2 : (!a0.toList.isEmpty) = false := by simpa using hne
   have HN : Aside0 (nameB a0 = false) := ⟨by simp [nameB, hz]⟩
   clear hz
   go_enter Try.func42, Try.ntmps42
   go_wp2
   go_ret
   exact ⟨by rw [HN.out]; rfl, Drawn0.refl _⟩
 ·rw [if_neg hs] at h
  cases h
end Go.Proofs.Ythpglaekdadehaa.Q

namespace Go.Proofs.Ythpglaekdadehaa.Q
open Go.RowKit Go.Proofs.YthpglaekdadehaaW.PrintWords Go.Proofs.YthpglaekdadehaaW.PrintLast Go.Proofs.YthpglaekdadehaaW.PrintMore
attribute [local go_sem] max2_int min2_int max_two min_two max_three min_three max_four min_four   -- for this text's walks alone
set_option linter.unusedVariables false
set_option linter.unusedSimpArgs false

/-! ### lex_IsWord: function 29 -/
def lex_IsWord.f (k : Nat) (a0 : ByteArray) : Option (Bool) := (lex_isName.f a0).bind fun t113 => (if t113 = true then (if (a0.size : Int) ≤ 12 then ((lex_IsKey.f k a0).bind fun t114 => (some (!t114))) else (some false)) else (some false))
theorem lex_IsWord.mono : ∀ a0 k, LeO (lex_IsWord.f k a0) (lex_IsWord.f (k + 1) a0) := by
 intro a0 k
 unfold lex_IsWord.f
 repeat' first
   | (with_reducible exact lex_IsKey.mono _ _)
   | (with_reducible exact LeO.refl _)
   | (with_reducible exact LeO.none _)
   | (with_reducible refine LeO.ite ?_ ?_)
   | (with_reducible refine LeO.bind ?_ (fun _ => ?_))
   | exact lex_IsKey.mono _ _
   | exact LeO.none _
   | refine LeO.ite ?_ ?_
   | refine LeO.bind ?_ (fun _ => ?_)
set_option maxHeartbeats 8000000 in
set_option maxRecDepth 100000 in
theorem lex_IsWord.calls (k : Nat) (a0 : ByteArray) (r : Bool) (w : World) (h : lex_IsWord.f k a0 = some r) :
  Calls Try.prog 29 #[.string a0] w fun e w' => e = .returned (.bool r) ∧ Below w.heap.size w w' := by
 have HB := Aside0.mk (Below.refl w.heap.size w)
 have H : ((lex_isName.f a0).bind fun t113 => (if t113 = true then (if (a0.size : Int) ≤ 12 then ((lex_IsKey.f k a0).bind fun t114 => (some (!t114))) else (some false)) else (some false))) = some r := h
 clear h
 replace H := Option.bind_eq_some_iff.mp H
 obtain ⟨t113, A20, H⟩ := H
 replace H : (if t113 = true then (if (a0.size : Int) ≤ 12 then ((lex_IsKey.f k a0).bind fun t114 => (some (!t114))) else (some false)) else (some false)) = some r := H
 have A2 := Aside0.mk A20
 clear A20
 by_cases c3 : t113 = true
 ·subst c3
  have H1 : (if (a0.size : Int) ≤ 12 then ((lex_IsKey.f k a0).bind fun t114 => (some (!t114))) else (some false)) = some r := by rw [if_pos rfl] at H; exact H
  clear H
  have H := H1
  clear H1
  by_cases c4 : (a0.size : Int) ≤ 12
  ·rw [if_pos c4] at H
   have c4b0 : decide ((a0.size : Int) ≤ 12) = true := decide_eq_true c4
   have c4b1 : decide (a0.size ≤ 12) = true := decide_eq_true (by omega)
   clear c4
   replace H := Option.bind_eq_some_iff.mp H
   obtain ⟨t114, A50, H⟩ := H
   replace H : (some (!t114)) = some r := H
   have A5 := Aside0.mk A50
   clear A50
   obtain rfl := Option.some.inj H
   go_enter Try.func29, Try.ntmps29
   go_wp2_with (first | ((with_reducible refine gate_callee (f := 42) rfl ?_); refine goesL_ (some 4) rfl rfl Try.func42 (by kernel_rfl) rfl #[.string a0] rfl (by (try simp only [List.map_toArray, List.map_cons, List.map_nil]); first | done | rfl | (simp only [List.length_drop, List.length_take]; rfl)) ?_; (with_reducible refine (lex_isName.calls a0 true _ A2.out).mono ?_); rintro e w' ⟨rfl, ⟨nd, rfl⟩⟩; refine ⟨_, rfl, ?_⟩) | (go_at_call 43; (with_reducible refine (lex_IsKey.calls k a0 t114 _ A5.out).mono ?_); rintro e w6 ⟨rfl, hb⟩; have n0_ := Aside0.mk (below_step (by repeat (first | (with_reducible first | exact HB.out | apply below_alloc | apply pw_below_drewN | apply below_drew1) | exact HB.out)) hb); clear HB; have HB := n0_; clear n0_; (try clear hb); (try clear hb2); (try clear hk); (try clear hi)))
   go_ret
   exact ⟨by first | rfl | (simp [errW_none, errW_some] <;> rfl) | (simp [*, errW_none, errW_some] <;> rfl), by repeat (first | (with_reducible first | exact HB.out | apply below_alloc | apply pw_below_drewN | apply below_drew1) | exact HB.out)⟩
  ·rw [if_neg c4] at H
   have c4b0 : decide ((a0.size : Int) ≤ 12) = false := decide_eq_false c4
   have c4b1 : decide (a0.size ≤ 12) = false := decide_eq_false (by omega)
   clear c4
   obtain rfl := Option.some.inj H
   go_enter Try.func29, Try.ntmps29
   go_wp2_with (first | ((with_reducible refine gate_callee (f := 42) rfl ?_); refine goesL_ (some 4) rfl rfl Try.func42 (by kernel_rfl) rfl #[.string a0] rfl (by (try simp only [List.map_toArray, List.map_cons, List.map_nil]); first | done | rfl | (simp only [List.length_drop, List.length_take]; rfl)) ?_; (with_reducible refine (lex_isName.calls a0 true _ A2.out).mono ?_); rintro e w' ⟨rfl, ⟨nd, rfl⟩⟩; refine ⟨_, rfl, ?_⟩))
   go_ret
   exact ⟨by first | rfl | (simp [errW_none, errW_some] <;> rfl) | (simp [*, errW_none, errW_some] <;> rfl), by repeat (first | (with_reducible first | exact HB.out | apply below_alloc | apply pw_below_drewN | apply below_drew1) | exact HB.out)⟩
 ·replace c3 := Bool.eq_false_iff.mpr c3
  subst c3
  have H1 : (some false) = some r := by rw [if_neg (show ¬ (false = true) by decide)] at H; exact H
  clear H
  have H := H1
  clear H1
  obtain rfl := Option.some.inj H
  go_enter Try.func29, Try.ntmps29
  go_wp2_with (first | ((with_reducible refine gate_callee (f := 42) rfl ?_); refine goesL_ (some 4) rfl rfl Try.func42 (by kernel_rfl) rfl #[.string a0] rfl (by (try simp only [List.map_toArray, List.map_cons, List.map_nil]); first | done | rfl | (simp only [List.length_drop, List.length_take]; rfl)) ?_; (with_reducible refine (lex_isName.calls a0 false _ A2.out).mono ?_); rintro e w' ⟨rfl, ⟨nd, rfl⟩⟩; refine ⟨_, rfl, ?_⟩))
  go_ret
  exact ⟨by first | rfl | (simp [errW_none, errW_some] <;> rfl) | (simp [*, errW_none, errW_some] <;> rfl), by repeat (first | (with_reducible first | exact HB.out | apply below_alloc | apply pw_below_drewN | apply below_drew1) | exact HB.out)⟩

end Go.Proofs.Ythpglaekdadehaa.Q

/- 'kind.Place', 'kind.field': by hand. -/

namespace Go.Proofs.Ythpglaekdadehaa.Q
open Go.RowKit Go.Proofs.YthpglaekdadehaaW.PrintWords Go.Proofs.YthpglaekdadehaaW.PrintLast Go.Proofs.YthpglaekdadehaaW.PrintMore
set_option linter.unusedVariables false
set_option linter.unusedSimpArgs false
def fnameIs (n : ByteArray) (x : S48) : Bool := x.f0.toList == n.toList
theorem atN_F {w : World} {A : Option Addr} {n : Nat} {xs : List S48} (h : Kd.C k48 w A n xs) (k : Nat) (h1 : k < n) : ∃ ad, A = some ad ∧ w.cell? (ad.add (k * 2)) = some (.string (xs.getD k z48).f0) ∧ w.cell? ⟨(ad.add (k * 2)).block, (ad.add (k * 2)).off + 1, none⟩ = some (.string (xs.getD k z48).f1) := at_T48 h (k : Int) (by omega) (by omega)
theorem place_clo (f0 f1 a1 : ByteArray) (b : Nat) (w : World) (hc : w.cell? ⟨b, 0, none⟩ = some (.string a1)) :
  Calls Try.prog 33 #[.agg #[.string f0, .string f1], .pointer (some ⟨b, 0, none⟩)] w fun e w' => e = .returned (.bool (f0.toList == a1.toList)) ∧ Below w.heap.size w w' := by
 have hu := Try.underlying48
 have hc1 : (w.alloc (.cells #[.string f0, .string f1] 48)).cell? ⟨b, 0, none⟩ = some (.string a1) := pw_cell_below (below_alloc (Below.refl _ _) _) hc
 go_enter Try.func33, Try.ntmps33
 go_wp2
 go_ret
 exact ⟨rfl, below_alloc (Below.refl _ _) _⟩
theorem field_clo (f0 f1 a1 : ByteArray) (b : Nat) (w : World) (hc : w.cell? ⟨b, 0, none⟩ = some (.string a1)) :
  Calls Try.prog 45 #[.agg #[.string f0, .string f1], .pointer (some ⟨b, 0, none⟩)] w fun e w' => e = .returned (.bool (f0.toList == a1.toList)) ∧ Below w.heap.size w w' := by
 have hu := Try.underlying48
 have hc1 : (w.alloc (.cells #[.string f0, .string f1] 48)).cell? ⟨b, 0, none⟩ = some (.string a1) := pw_cell_below (below_alloc (Below.refl _ _) _) hc
 go_enter Try.func45, Try.ntmps45
 go_wp2
 go_ret
 exact ⟨rfl, below_alloc (Below.refl _ _) _⟩
set_option maxHeartbeats 800000 in
theorem place_idx (A : Option Addr) (c : Nat) (l : List S48) (a1 : ByteArray) (b : Nat) (w : World) (hr : Kd.C k48 w A l.length l) (hc : w.cell? ⟨b, 0, none⟩ = some (.string a1)) :
  Calls Try.prog 32 #[.slice A l.length c, .func (.func 33) #[] #[.pointer (some ⟨b, 0, none⟩)]] w fun e w' => e = .returned (.int .i64 (findR (fnameIs a1) l)) ∧ Below w.heap.size w w' := by
 have hu := Try.underlying48
 have HR := Aside0.mk hr; clear hr
 have HM := Aside0.mk (Kd.C_max HR.out)
 have hm := HM.out
 go_enter Try.func32, Try.ntmps32
 go_wp2
 go_loopw [5, 8] (fun _ v wr => ∃ k : Nat, v = .int .i64 k ∧ k ≤ l.length ∧ Aside0 (∀ i : Nat, i < k → fnameIs a1 (l.getD i z48) = false) ∧ Below w.heap.size w wr) (fun _ v _ => l.length - (intOf v).toNat)
 case atStart => exact ⟨0, rfl, Nat.zero_le _, ⟨fun i h => absurd h (Nat.not_lt_zero _)⟩, Below.refl _ _⟩
 case round =>
  obtain ⟨k, rfl, hk, HA, hB⟩ := hrel
  by_cases hlt : k < l.length
  ·have HRr := Kd.C_below HR.out hB
   obtain ⟨ad, e1, hx0, hx1⟩ := atN_F HRr k hlt
   cases e1
   have hcr := pw_cell_below hB hc
   clear HRr
   obtain ⟨x, ex⟩ : ∃ x, x = l.getD k z48 := ⟨_, rfl⟩
   rw [← ex] at hx0 hx1
   have EX := Aside0.mk ex; clear ex
   go_wp2_with fail
   refine (place_clo _ _ a1 b wr hcr).mono ?_
   rintro e w1 ⟨rfl, hb1⟩
   have hB1 := below_step hB hb1
   clear hcr hx0 hx1
   rcases he : (x.f0.toList == a1.toList) with _ | _
   ·have HE := Aside0.mk he; clear he
    go_wp2
    go_roundw
    case rel => exact ⟨k + 1, by go_num, by omega, ⟨all_succ (P := fun i => fnameIs a1 (l.getD i z48) = false) HA.out (by unfold fnameIs; rw [← EX.out]; exact HE.out)⟩, hB1⟩
    case measure => simp [intOf]; omega
   ·have HF : Aside0 (findR (fnameIs a1) l = k) := ⟨find_last hlt HA.out (by unfold fnameIs; rw [← EX.out]; exact he)⟩
    clear he
    go_wp2
    go_ret
    exact ⟨by rw [HF.out]; rfl, hB1⟩
  ·have HF : Aside0 (findR (fnameIs a1) l = -1) := ⟨find_none (fun i hi => HA.out i (by omega))⟩
   go_wp2
   go_ret
   exact ⟨by rw [HF.out]; rfl, hB⟩
set_option maxHeartbeats 800000 in
theorem field_idx (A : Option Addr) (c : Nat) (l : List S48) (a1 : ByteArray) (b : Nat) (w : World) (hr : Kd.C k48 w A l.length l) (hc : w.cell? ⟨b, 0, none⟩ = some (.string a1)) :
  Calls Try.prog 32 #[.slice A l.length c, .func (.func 45) #[] #[.pointer (some ⟨b, 0, none⟩)]] w fun e w' => e = .returned (.int .i64 (findR (fnameIs a1) l)) ∧ Below w.heap.size w w' := by
 have hu := Try.underlying48
 have HR := Aside0.mk hr; clear hr
 have HM := Aside0.mk (Kd.C_max HR.out)
 have hm := HM.out
 go_enter Try.func32, Try.ntmps32
 go_wp2
 go_loopw [5, 8] (fun _ v wr => ∃ k : Nat, v = .int .i64 k ∧ k ≤ l.length ∧ Aside0 (∀ i : Nat, i < k → fnameIs a1 (l.getD i z48) = false) ∧ Below w.heap.size w wr) (fun _ v _ => l.length - (intOf v).toNat)
 case atStart => exact ⟨0, rfl, Nat.zero_le _, ⟨fun i h => absurd h (Nat.not_lt_zero _)⟩, Below.refl _ _⟩
 case round =>
  obtain ⟨k, rfl, hk, HA, hB⟩ := hrel
  by_cases hlt : k < l.length
  ·have HRr := Kd.C_below HR.out hB
   obtain ⟨ad, e1, hx0, hx1⟩ := atN_F HRr k hlt
   cases e1
   have hcr := pw_cell_below hB hc
   clear HRr
   obtain ⟨x, ex⟩ : ∃ x, x = l.getD k z48 := ⟨_, rfl⟩
   rw [← ex] at hx0 hx1
   have EX := Aside0.mk ex; clear ex
   go_wp2_with fail
   refine (field_clo _ _ a1 b wr hcr).mono ?_
   rintro e w1 ⟨rfl, hb1⟩
   have hB1 := below_step hB hb1
   clear hcr hx0 hx1
   rcases he : (x.f0.toList == a1.toList) with _ | _
   ·have HE := Aside0.mk he; clear he
    go_wp2
    go_roundw
    case rel => exact ⟨k + 1, by go_num, by omega, ⟨all_succ (P := fun i => fnameIs a1 (l.getD i z48) = false) HA.out (by unfold fnameIs; rw [← EX.out]; exact HE.out)⟩, hB1⟩
    case measure => simp [intOf]; omega
   ·have HF : Aside0 (findR (fnameIs a1) l = k) := ⟨find_last hlt HA.out (by unfold fnameIs; rw [← EX.out]; exact he)⟩
    clear he
    go_wp2
    go_ret
    exact ⟨by rw [HF.out]; rfl, hB1⟩
  ·have HF : Aside0 (findR (fnameIs a1) l = -1) := ⟨find_none (fun i hi => HA.out i (by omega))⟩
   go_wp2
   go_ret
   exact ⟨by rw [HF.out]; rfl, hB⟩
def kind_Place.f (a0_0 : ByteArray) (l0_1 : List (S48)) (a1 : ByteArray) : Option (Int × Bool) := some (placeOf (findR (fnameIs a1) l0_1))
attribute [local go_sem] max2_int min2_int max_two min_two in
set_option maxHeartbeats 800000 in
theorem kind_Place.calls (a0_0 : ByteArray) (A0_1 : Option Addr) (c0_1 : Nat) (l0_1 : List (S48)) (a1 : ByteArray) (r1 : Int) (r2 : Bool) (w : World) (hr0_1 : Kd.C k48 w A0_1 l0_1.length l0_1) (hc0_1 : l0_1.length ≤ c0_1) (h : kind_Place.f a0_0 l0_1 a1 = some (r1, r2)) :
  Calls Try.prog 21 #[.agg #[.string a0_0, .slice A0_1 l0_1.length c0_1], .string a1] w fun e w' => e = .returned (.tuple #[.int .i64 r1, .bool r2]) ∧ Below w.heap.size w w' := by
 unfold kind_Place.f at h
 have HP := Aside0.mk (Option.some.inj h)
 clear h
 have hu := Try.underlying43
 have HR := Aside0.mk (Kd.C_alloc (Kd.C_alloc hr0_1 (.cells #[.string a0_0, .slice A0_1 l0_1.length c0_1] 43)) (.cells #[.string a1] 9))
 clear hr0_1 hc0_1
 have hmf : ∀ (fn : Fn) (first cap : Array Value) (w : World), (Instr.makeFunc fn first cap).run Try.prog w = .ok (.func fn first cap) w := fun _ _ _ _ => rfl
 have hcell : ((w.alloc (.cells #[.string a0_0, .slice A0_1 l0_1.length c0_1] 43)).alloc (.cells #[.string a1] 9)).cell? ⟨w.heap.size + 1, 0, none⟩ = some (.string a1) := by
  rw [World.cell?_alloc_at _ _ _ _ (by simp)]; rfl
 go_enter Try.func21, Try.ntmps21
 go_wp2_with fail
 refine (place_idx A0_1 c0_1 l0_1 a1 (w.heap.size + 1) _ HR.out hcell).mono ?_
 rintro e w1 ⟨rfl, hb⟩
 obtain ⟨m, hm⟩ : ∃ m, m = findR (fnameIs a1) l0_1 := ⟨_, rfl⟩
 rw [← hm] at HP ⊢
 clear hm
 have HB : Aside0 (Below w.heap.size w w1) := ⟨below_then (below_alloc (below_alloc (Below.refl _ _) _) _) (by simp; omega) hb⟩; clear hb hcell
 by_cases hneg : m < 0
 ·have hd : decide (0 ≤ m) = false := decide_eq_false (by omega)
  have h := HP.out; unfold placeOf at h; rw [if_pos hneg] at h
  obtain ⟨rfl, rfl⟩ := Prod.mk.inj h; clear h HP
  go_wp2
  go_ret2
  exact ⟨rfl, HB.out⟩
 ·have hd : decide (0 ≤ m) = true := decide_eq_true (by omega)
  have h := HP.out; unfold placeOf at h; rw [if_neg hneg] at h
  obtain ⟨rfl, rfl⟩ := Prod.mk.inj h; clear h HP
  go_wp2
  go_ret2
  exact ⟨rfl, HB.out⟩
theorem field_has (A : Option Addr) (c : Nat) (l : List S48) (a1 : ByteArray) (b : Nat) (w : World) (hr : Kd.C k48 w A l.length l) (hc : w.cell? ⟨b, 0, none⟩ = some (.string a1)) :
  Calls Try.prog 44 #[.slice A l.length c, .func (.func 45) #[] #[.pointer (some ⟨b, 0, none⟩)]] w fun e w' => e = .returned (.bool (decide (0 ≤ findR (fnameIs a1) l))) ∧ Below w.heap.size w w' := by
 have HR := Aside0.mk hr; clear hr
 have HC := Aside0.mk hc; clear hc
 go_enter Try.func44, Try.ntmps44
 go_wp2_with fail
 refine (field_idx A c l a1 b _ HR.out HC.out).mono ?_
 rintro e w1 ⟨rfl, hb⟩
 go_wp2
 go_ret
 exact ⟨rfl, hb⟩
def kind_field.f (k : Nat) (l0 : List (S43)) (l1 : List (S48)) (a2_0 : ByteArray) (a2_1 : ByteArray) : Option (Int) :=
 (lex_IsWord.f k a2_0).bind fun t => if t = true then (if 0 ≤ findR (fnameIs a2_0) l1 then some 6 else (kind_Is.f k l0 a2_1).bind fun u => if u = true then some 0 else some 7) else some 1
theorem kind_field.mono : ∀ a0 a1 a2 a3 k, LeO (kind_field.f k a0 a1 a2 a3) (kind_field.f (k + 1) a0 a1 a2 a3) := by
 intro a0 a1 a2 a3 k
 unfold kind_field.f
 exact LeO.bind (lex_IsWord.mono _ _) (fun _ => LeO.ite (LeO.ite (LeO.refl _) (LeO.bind (kind_Is.mono _ _ _) (fun _ => LeO.refl _))) (LeO.refl _))
set_option maxHeartbeats 800000 in
theorem kind_field.calls (k : Nat) (A0 : Option Addr) (c0 : Nat) (l0 : List (S43)) (A1 : Option Addr) (c1 : Nat) (l1 : List (S48)) (a2_0 : ByteArray) (a2_1 : ByteArray) (r : Int) (w : World) (hr0 : Kd.C k43 w A0 l0.length l0) (hc0 : l0.length ≤ c0) (hr1 : Kd.C k48 w A1 l1.length l1) (hc1 : l1.length ≤ c1) (h : kind_field.f k l0 l1 a2_0 a2_1 = some r) :
  Calls Try.prog 37 #[.slice A0 l0.length c0, .slice A1 l1.length c1, .agg #[.string a2_0, .string a2_1]] w fun e w' => e = .returned (.int .i64 r) ∧ Below w.heap.size w w' := by
 unfold kind_field.f at h
 replace h := Option.bind_eq_some_iff.mp h
 obtain ⟨t, ht, h⟩ := h
 have hu := Try.underlying48
 have hmf : ∀ (fn : Fn) (first cap : Array Value) (w : World), (Instr.makeFunc fn first cap).run Try.prog w = .ok (.func fn first cap) w := fun _ _ _ _ => rfl
 have HT := Aside0.mk ht; have H := Aside0.mk h; clear ht h
 have HR0 := Aside0.mk hr0; have HC0 := Aside0.mk hc0; have HR1 := Aside0.mk hr1; clear hr0 hc0 hr1 hc1
 have HW : Aside0 (Below w.heap.size w (w.alloc (.cells #[.string a2_0, .string a2_1] 48))) := ⟨below_alloc (Below.refl _ _) _⟩
 have HX0 : Aside0 ((w.alloc (.cells #[.string a2_0, .string a2_1] 48)).cell? ⟨w.heap.size, 0, none⟩ = some (.string a2_0)) := ⟨by rw [World.cell?_alloc_at _ _ _ _ rfl]; rfl⟩
 have HX1 : Aside0 ((w.alloc (.cells #[.string a2_0, .string a2_1] 48)).cell? ⟨w.heap.size, 1, none⟩ = some (.string a2_1)) := ⟨by rw [World.cell?_alloc_at _ _ _ _ rfl]; rfl⟩
 go_enter Try.func37, Try.ntmps37
 go_wp2_with fail
 generalize hW : w.alloc (.cells #[.string a2_0, .string a2_1] 48) = W0 at HW HX0 HX1 ⊢
 clear hW
 refine (lex_IsWord.calls k a2_0 t _ HT.out).mono ?_
 rintro e w1 ⟨rfl, hb1⟩
 have HB1 : Aside0 (Below w.heap.size w w1) := ⟨below_step HW.out hb1⟩
 have HY0 := Aside0.mk (pw_cell_below hb1 HX0.out)
 have HY1 := Aside0.mk (pw_cell_below hb1 HX1.out)
 clear hb1 HX0 HX1 HT
 cases t with
 | false =>
  have hr := H.out; rw [if_neg (by decide)] at hr; obtain rfl := Option.some.inj hr; clear hr H
  go_wp2
  go_ret
  exact ⟨rfl, HB1.out⟩
 | true =>
  have hr := H.out; rw [if_pos rfl] at hr; replace H := Aside0.mk hr; clear hr
  go_wp2_with fail
  refine (field_has A1 c1 l1 a2_0 w.heap.size w1 (Kd.C_below HR1.out HB1.out) HY0.out).mono ?_
  rintro e w2 ⟨rfl, hb2⟩
  have HB2 : Aside0 (Below w.heap.size w w2) := ⟨below_step HB1.out hb2⟩
  have HZ1 := pw_cell_below hb2 HY1.out
  clear hb2 HY0 HY1
  by_cases hf : 0 ≤ findR (fnameIs a2_0) l1
  ·have hr := H.out; rw [if_pos hf] at hr; obtain rfl := Option.some.inj hr; clear hr H
   have hd : decide (0 ≤ findR (fnameIs a2_0) l1) = true := decide_eq_true hf
   clear hf
   go_wp2
   go_ret
   exact ⟨rfl, HB2.out⟩
  ·have hr := H.out; rw [if_neg hf] at hr
   replace hr := Option.bind_eq_some_iff.mp hr
   obtain ⟨u, hu1, hr⟩ := hr
   have HU := Aside0.mk hu1; have HV := Aside0.mk hr; clear hu1 hr H
   have hd : decide (0 ≤ findR (fnameIs a2_0) l1) = false := decide_eq_false hf
   clear hf
   go_wp2_with fail
   refine (kind_Is.calls k A0 c0 l0 a2_1 u w2 (Kd.C_below HR0.out HB2.out) HC0.out HU.out).mono ?_
   rintro e w3 ⟨rfl, hb3⟩
   have HB3 : Aside0 (Below w.heap.size w w3) := ⟨below_step HB2.out hb3⟩
   clear hb3 HZ1
   cases u with
   | false =>
    have hr := HV.out; rw [if_neg (by decide)] at hr; obtain rfl := Option.some.inj hr; clear hr HV
    go_wp2
    go_ret
    exact ⟨rfl, HB3.out⟩
   | true =>
    have hr := HV.out; rw [if_pos rfl] at hr; obtain rfl := Option.some.inj hr; clear hr HV
    go_wp2
    go_ret
    exact ⟨rfl, HB3.out⟩
end Go.Proofs.Ythpglaekdadehaa.Q

namespace Go.Proofs.Ythpglaekdadehaa.Q
open Go.RowKit Go.Proofs.YthpglaekdadehaaW.PrintWords Go.Proofs.YthpglaekdadehaaW.PrintLast Go.Proofs.YthpglaekdadehaaW.PrintMore
attribute [local go_sem] max2_int min2_int max_two min_two max_three min_three max_four min_four   -- for this text's walks alone
set_option linter.unusedVariables false
set_option linter.unusedSimpArgs false

/-! ### kind_one: function 26 -/
def kind_one.l0 : Nat → List (S43) → List (S48) → Int → Int → ByteArray → List (S48) → Option (Int)
 | 0, _, _, _, _, _, _ => none
 | k + 1, x0, x34, x35, x36, x125000, x125001 => if x36 < x35 then (if 0 ≤ x36 then (if x36 < (x34.length : Int) then (if x36 ≤ (x125001.length : Int) then ((kind_field.f k x0 (x125001.take (x36 : Int).toNat) ((rd_T48 x34 x36).f0) ((rd_T48 x34 x36).f1)).bind fun t134 => (if t134 = 0 then (kind_one.l0 k x0 x34 x35 (wrap64 (x36 + 1)) x125000 x125001) else (some t134))) else (none)) else (none)) else (none)) else (some 0)
def kind_one.f (k : Nat) (l0 : List (S43)) (a1 : Int) : Option (Int) := if 0 ≤ a1 then (if a1 < (l0.length : Int) then ((lex_IsWord.f k ((rd_T43 l0 a1).f0)).bind fun t125 => (if t125 = true then ((kind_Find.f l0 ((rd_T43 l0 a1).f0)).bind fun bt126 => (if bt126.1 < a1 then (some 6) else (if (((rd_T43 l0 a1).f1).length : Int) > 8 then (some 4) else (kind_one.l0 k l0 ((rd_T43 l0 a1).f1) (((rd_T43 l0 a1).f1).length : Int) 0 ((rd_T43 l0 a1).f0) ((rd_T43 l0 a1).f1))))) else (some 1))) else (none)) else (none)
theorem kind_one.mono_l : ∀ k, (∀ y0 y1 y2 y3 y4 y5, LeO (kind_one.l0 k y0 y1 y2 y3 y4 y5) (kind_one.l0 (k + 1) y0 y1 y2 y3 y4 y5))
 | 0 => fun _ _ _ _ _ _ r h => by simp [kind_one.l0] at h
 | k + 1 => by
  have ih0 := kind_one.mono_l k
  ·intro y0 y1 y2 y3 y4 y5
   unfold kind_one.l0
   repeat' first
   | (with_reducible exact ih0 _ _ _ _ _ _)
   | (with_reducible exact kind_field.mono _ _ _ _ _)
   | (with_reducible exact lex_IsWord.mono _ _)
   | (with_reducible exact LeO.refl _)
   | (with_reducible exact LeO.none _)
   | (with_reducible refine LeO.ite ?_ ?_)
   | (with_reducible refine LeO.bind ?_ (fun _ => ?_))
   | exact ih0 _ _ _ _ _ _
   | exact kind_field.mono _ _ _ _ _
   | exact lex_IsWord.mono _ _
   | exact LeO.none _
   | refine LeO.ite ?_ ?_
   | refine LeO.bind ?_ (fun _ => ?_)
theorem kind_one.mono : ∀ a0 a1 k, LeO (kind_one.f k a0 a1) (kind_one.f (k + 1) a0 a1) := by
 intro a0 a1 k
 have ih0 := kind_one.mono_l k
 unfold kind_one.f
 repeat' first
   | (with_reducible exact ih0 _ _ _ _ _ _)
   | (with_reducible exact kind_field.mono _ _ _ _ _)
   | (with_reducible exact lex_IsWord.mono _ _)
   | (with_reducible exact LeO.refl _)
   | (with_reducible exact LeO.none _)
   | (with_reducible refine LeO.ite ?_ ?_)
   | (with_reducible refine LeO.bind ?_ (fun _ => ?_))
   | exact ih0 _ _ _ _ _ _
   | exact kind_field.mono _ _ _ _ _
   | exact lex_IsWord.mono _ _
   | exact LeO.none _
   | refine LeO.ite ?_ ?_
   | refine LeO.bind ?_ (fun _ => ?_)
def kind_one.T12 : Bool × List (List Nat × List Nat) := (true, [([], []), ([], []), ([1], [1]), ([], []), ([2, 3], [2, 3]), ([], []), ([0, 4, 5], [0, 4, 5]), ([6, 6, 0, 1, 2, 3, 4, 5, 6], [6])])
def kind_one.B12 : List Nat := [0, 0, 2, 0, 14, 0, 63, 127]
theorem kind_one.tab12 : rtab .any (opsOf Try.f26 12) = kind_one.T12 := by kernel_rfl
theorem kind_one.bits12 : waitsOk kind_one.T12.2 kind_one.B12 = true := by kernel_rfl
set_option maxHeartbeats 8000000 in
set_option maxRecDepth 100000 in
theorem kind_one.calls (k : Nat) (A0 : Option Addr) (c0 : Nat) (l0 : List (S43)) (a1 : Int) (r : Int) (w : World) (hr0 : Kd.C k43 w A0 l0.length l0) (hc0 : l0.length ≤ c0) (h : kind_one.f k l0 a1 = some r) :
  Calls Try.prog 26 #[.slice A0 l0.length c0, .int .i64 a1] w fun e w' => e = .returned (.int .i64 r) ∧ Below w.heap.size w w' := by
 have hu43 := Try.underlying43
 have hu48 := Try.underlying48
 have HR0 := Aside0.mk hr0
 have HC0 := Aside0.mk hc0
 clear hr0 hc0
 have HB := Aside0.mk (Below.refl w.heap.size w)
 have H : (if 0 ≤ a1 then (if a1 < (l0.length : Int) then ((lex_IsWord.f k ((rd_T43 l0 a1).f0)).bind fun t125 => (if t125 = true then ((kind_Find.f l0 ((rd_T43 l0 a1).f0)).bind fun bt126 => (if bt126.1 < a1 then (some 6) else (if (((rd_T43 l0 a1).f1).length : Int) > 8 then (some 4) else (kind_one.l0 k l0 ((rd_T43 l0 a1).f1) (((rd_T43 l0 a1).f1).length : Int) 0 ((rd_T43 l0 a1).f0) ((rd_T43 l0 a1).f1))))) else (some 1))) else (none)) else (none)) = some r := h
 clear h
 by_cases c3 : 0 ≤ a1
 ·rw [if_pos c3] at H
  have c3b0 : decide (0 ≤ a1) = true := decide_eq_true c3
  clear c3
  by_cases c4 : a1 < (l0.length : Int)
  ·rw [if_pos c4] at H
   have c4b0 : decide (a1 < (l0.length : Int)) = true := decide_eq_true c4
   clear c4
   replace H := Option.bind_eq_some_iff.mp H
   obtain ⟨t125, A50, H⟩ := H
   replace H : (if t125 = true then ((kind_Find.f l0 ((rd_T43 l0 a1).f0)).bind fun bt126 => (if bt126.1 < a1 then (some 6) else (if (((rd_T43 l0 a1).f1).length : Int) > 8 then (some 4) else (kind_one.l0 k l0 ((rd_T43 l0 a1).f1) (((rd_T43 l0 a1).f1).length : Int) 0 ((rd_T43 l0 a1).f0) ((rd_T43 l0 a1).f1))))) else (some 1)) = some r := H
   have A5 := Aside0.mk A50
   clear A50
   by_cases c6 : t125 = true
   ·subst c6
    have H1 : ((kind_Find.f l0 ((rd_T43 l0 a1).f0)).bind fun bt126 => (if bt126.1 < a1 then (some 6) else (if (((rd_T43 l0 a1).f1).length : Int) > 8 then (some 4) else (kind_one.l0 k l0 ((rd_T43 l0 a1).f1) (((rd_T43 l0 a1).f1).length : Int) 0 ((rd_T43 l0 a1).f0) ((rd_T43 l0 a1).f1))))) = some r := by rw [if_pos rfl] at H; exact H
    clear H
    have H := H1
    clear H1
    replace H := Option.bind_eq_some_iff.mp H
    obtain ⟨⟨t126, t127⟩, A70, H⟩ := H
    replace H : (if t126 < a1 then (some 6) else (if (((rd_T43 l0 a1).f1).length : Int) > 8 then (some 4) else (kind_one.l0 k l0 ((rd_T43 l0 a1).f1) (((rd_T43 l0 a1).f1).length : Int) 0 ((rd_T43 l0 a1).f0) ((rd_T43 l0 a1).f1)))) = some r := H
    have A7 := Aside0.mk A70
    clear A70
    by_cases c8 : t126 < a1
    ·rw [if_pos c8] at H
     have c8b0 : decide (t126 < a1) = true := decide_eq_true c8
     clear c8
     obtain rfl := Option.some.inj H
     have p123 : 0 ≤ (a1 : Int) := of_decide_eq_true (by first | (with_reducible assumption) | assumption)
     have q123 : a1 < (l0.length : Int) := of_decide_eq_true (by first | (with_reducible assumption) | assumption)
     obtain ⟨ad123, A123_1, c123_1, e123, hx123_0, hx123_1, hl123_1, hi123_1⟩ := at_T43 HR0.out a1 p123 q123
     cases e123
     have HR123_1 := Aside0.mk hi123_1
     have HC123_1 := Aside0.mk hl123_1
     clear hi123_1 hl123_1
     replace p123 := eq_true p123
     replace q123 := eq_true q123
     go_enter Try.func26, Try.ntmps26
     go_wp2_with (first | ((with_reducible refine gate_dst (N := 5) rfl ?_); refine box_event ?hg (N := 5) ?hd (cs := #[.string (⟨#[]⟩ : ByteArray), .slice none 0 0]) (t := 43) ?hr ?_; (case hd => rfl); (case hg => rfl); (case hr => first | (go_simp; done) | (go_simp; rfl)); intro gb124 hg w9 hbox hb; have n0_ := Aside0.mk (below_step (by repeat (first | (with_reducible first | exact HB.out | apply below_alloc | apply pw_below_drewN | apply below_drew1) | exact HB.out)) hb); have n1_ := Aside0.mk (hbox); have n2_ := Aside0.mk ((by rw [hg]; exact (below_size (by repeat (first | (with_reducible first | exact HB.out | apply below_alloc | apply pw_below_drewN | apply below_drew1) | exact HB.out))) : w.heap.size ≤ gb124)); have n3_ := Aside0.mk ((by rw [hg]; exact (below_size (by repeat (first | (with_reducible first | exact HB.out | apply below_alloc | apply pw_below_drewN | apply below_drew1) | exact HB.out))) : w.heap.size ≤ gb124)); clear HB; have HB := n0_; have BK124 := n1_; have GW124 := n2_; have GE124 := n3_; clear n0_ n1_ n2_ n3_; clear hb hbox hg; have hcz10_0 : w9.cell? ⟨gb124, 0, none⟩ = some (.string (⟨#[]⟩ : ByteArray)) := (blk_cell BK124.out 0).trans rfl; have hcz10_1 : w9.cell? ⟨gb124, 1, none⟩ = some (.slice none 0 0) := (blk_cell BK124.out 1).trans rfl; have hfz10_0 := blk_frozen BK124.out 0; have hfz10_1 := blk_frozen BK124.out 1) | ((with_reducible refine gate_callee (f := 29) rfl ?_); refine goesL_ (some 17) rfl rfl Try.func29 (by kernel_rfl) rfl #[.string ((rd_T43 l0 a1).f0)] rfl (by (try simp only [List.map_toArray, List.map_cons, List.map_nil]); first | done | rfl | (simp only [List.length_drop, List.length_take]; rfl)) ?_; (with_reducible refine (lex_IsWord.calls k ((rd_T43 l0 a1).f0) true _ A5.out).mono ?_); rintro e w11 ⟨rfl, hb⟩; refine ⟨_, rfl, ?_⟩; have n0_ := Aside0.mk (blk_below (g := gb124) (o := .cells #[.string ((rd_T43 l0 a1).f0), .slice A123_1 ((rd_T43 l0 a1).f1).length c123_1] 43 (0, 0)) (by (with_reducible repeat (first | refine blk_drewN ?_ _ | refine blk_drew ?_ | refine blk_alloc ?_ _)); refine blk_put (cs := #[.string ((rd_T43 l0 a1).f0), .slice none 0 0]) ?_ 1 _ rfl; (with_reducible repeat (first | refine blk_drewN ?_ _ | refine blk_drew ?_ | refine blk_alloc ?_ _)); refine blk_put (cs := #[.string (⟨#[]⟩ : ByteArray), .slice none 0 0]) ?_ 0 _ rfl; (with_reducible repeat (first | refine blk_drewN ?_ _ | refine blk_drew ?_ | refine blk_alloc ?_ _)); exact BK124.out) hb); have n1_ := Aside0.mk (below_step (by repeat (first | (with_reducible first | exact HB.out | apply below_alloc | apply pw_below_drewN | apply below_drew1 | refine below_set ?_ GE124.out) | exact HB.out)) hb); clear BK124; clear HB; have BK124 := n0_; have HB := n1_; clear n0_ n1_; (try clear hb); (try clear hb2); (try clear hk); (try clear hi); have hcz12_0 : w11.cell? ⟨gb124, 0, none⟩ = some (.string ((rd_T43 l0 a1).f0)) := (blk_cell BK124.out 0).trans rfl; have hcz12_1 : w11.cell? ⟨gb124, 1, none⟩ = some (.slice A123_1 ((rd_T43 l0 a1).f1).length c123_1) := (blk_cell BK124.out 1).trans rfl; have hfz12_0 := blk_frozen BK124.out 0; have hfz12_1 := blk_frozen BK124.out 1) | ((with_reducible refine gate_callee (f := 12) rfl ?_); refine goesL_ (some 23) rfl rfl Try.func12 (by kernel_rfl) rfl #[.slice (some ad123) l0.length c0, .string ((rd_T43 l0 a1).f0)] rfl (by (try simp only [List.map_toArray, List.map_cons, List.map_nil]); first | done | rfl | (simp only [List.length_drop, List.length_take]; rfl)) ?_; (with_reducible refine (kind_Find.calls _ _ l0 ((rd_T43 l0 a1).f0) t126 t127 _ ?side1 ?side2 A7.out).mono ?_); (case side1 => repeat (first | exact (Kd.C_below HR0.out HB.out) | (with_reducible refine Kd.C_alloc ?_ _) | (with_reducible refine Kd.C_drewN ?_ _) | (with_reducible refine Kd.C_drew ?_))); (case side2 => exact HC0.out); rintro e w13 ⟨rfl, hb⟩; refine ⟨_, rfl, ?_⟩; have n0_ := Aside0.mk (blk_below (g := gb124) (o := .cells #[.string ((rd_T43 l0 a1).f0), .slice A123_1 ((rd_T43 l0 a1).f1).length c123_1] 43 (0, 0)) (by (with_reducible repeat (first | refine blk_drewN ?_ _ | refine blk_drew ?_ | refine blk_alloc ?_ _)); exact BK124.out) hb); have n1_ := Aside0.mk (below_step (by repeat (first | (with_reducible first | exact HB.out | apply below_alloc | apply pw_below_drewN | apply below_drew1 | refine below_set ?_ GE124.out) | exact HB.out)) hb); clear BK124; clear HB; have BK124 := n0_; have HB := n1_; clear n0_ n1_; (try clear hb); (try clear hb2); (try clear hk); (try clear hi)))
     go_ret
     exact ⟨by first | rfl | (simp [errW_none, errW_some] <;> rfl) | (simp [*, errW_none, errW_some] <;> rfl), by repeat (first | (with_reducible first | exact HB.out | apply below_alloc | apply pw_below_drewN | apply below_drew1 | refine below_set ?_ GE124.out) | exact HB.out)⟩
    ·rw [if_neg c8] at H
     have c8b0 : decide (t126 < a1) = false := decide_eq_false c8
     clear c8
     by_cases c14 : (((rd_T43 l0 a1).f1).length : Int) > 8
     ·rw [if_pos c14] at H
      have c14b0 : decide (8 < (((rd_T43 l0 a1).f1).length : Int)) = true := decide_eq_true c14
      have c14b1 : decide (8 < ((rd_T43 l0 a1).f1).length) = true := decide_eq_true (by omega)
      clear c14
      obtain rfl := Option.some.inj H
      have p123 : 0 ≤ (a1 : Int) := of_decide_eq_true (by first | (with_reducible assumption) | assumption)
      have q123 : a1 < (l0.length : Int) := of_decide_eq_true (by first | (with_reducible assumption) | assumption)
      obtain ⟨ad123, A123_1, c123_1, e123, hx123_0, hx123_1, hl123_1, hi123_1⟩ := at_T43 HR0.out a1 p123 q123
      cases e123
      have HR123_1 := Aside0.mk hi123_1
      have HC123_1 := Aside0.mk hl123_1
      clear hi123_1 hl123_1
      replace p123 := eq_true p123
      replace q123 := eq_true q123
      go_enter Try.func26, Try.ntmps26
      go_wp2_with (first | ((with_reducible refine gate_dst (N := 5) rfl ?_); refine box_event ?hg (N := 5) ?hd (cs := #[.string (⟨#[]⟩ : ByteArray), .slice none 0 0]) (t := 43) ?hr ?_; (case hd => rfl); (case hg => rfl); (case hr => first | (go_simp; done) | (go_simp; rfl)); intro gb124 hg w15 hbox hb; have n0_ := Aside0.mk (below_step (by repeat (first | (with_reducible first | exact HB.out | apply below_alloc | apply pw_below_drewN | apply below_drew1) | exact HB.out)) hb); have n1_ := Aside0.mk (hbox); have n2_ := Aside0.mk ((by rw [hg]; exact (below_size (by repeat (first | (with_reducible first | exact HB.out | apply below_alloc | apply pw_below_drewN | apply below_drew1) | exact HB.out))) : w.heap.size ≤ gb124)); have n3_ := Aside0.mk ((by rw [hg]; exact (below_size (by repeat (first | (with_reducible first | exact HB.out | apply below_alloc | apply pw_below_drewN | apply below_drew1) | exact HB.out))) : w.heap.size ≤ gb124)); clear HB; have HB := n0_; have BK124 := n1_; have GW124 := n2_; have GE124 := n3_; clear n0_ n1_ n2_ n3_; clear hb hbox hg; have hcz16_0 : w15.cell? ⟨gb124, 0, none⟩ = some (.string (⟨#[]⟩ : ByteArray)) := (blk_cell BK124.out 0).trans rfl; have hcz16_1 : w15.cell? ⟨gb124, 1, none⟩ = some (.slice none 0 0) := (blk_cell BK124.out 1).trans rfl; have hfz16_0 := blk_frozen BK124.out 0; have hfz16_1 := blk_frozen BK124.out 1) | ((with_reducible refine gate_callee (f := 29) rfl ?_); refine goesL_ (some 17) rfl rfl Try.func29 (by kernel_rfl) rfl #[.string ((rd_T43 l0 a1).f0)] rfl (by (try simp only [List.map_toArray, List.map_cons, List.map_nil]); first | done | rfl | (simp only [List.length_drop, List.length_take]; rfl)) ?_; (with_reducible refine (lex_IsWord.calls k ((rd_T43 l0 a1).f0) true _ A5.out).mono ?_); rintro e w17 ⟨rfl, hb⟩; refine ⟨_, rfl, ?_⟩; have n0_ := Aside0.mk (blk_below (g := gb124) (o := .cells #[.string ((rd_T43 l0 a1).f0), .slice A123_1 ((rd_T43 l0 a1).f1).length c123_1] 43 (0, 0)) (by (with_reducible repeat (first | refine blk_drewN ?_ _ | refine blk_drew ?_ | refine blk_alloc ?_ _)); refine blk_put (cs := #[.string ((rd_T43 l0 a1).f0), .slice none 0 0]) ?_ 1 _ rfl; (with_reducible repeat (first | refine blk_drewN ?_ _ | refine blk_drew ?_ | refine blk_alloc ?_ _)); refine blk_put (cs := #[.string (⟨#[]⟩ : ByteArray), .slice none 0 0]) ?_ 0 _ rfl; (with_reducible repeat (first | refine blk_drewN ?_ _ | refine blk_drew ?_ | refine blk_alloc ?_ _)); exact BK124.out) hb); have n1_ := Aside0.mk (below_step (by repeat (first | (with_reducible first | exact HB.out | apply below_alloc | apply pw_below_drewN | apply below_drew1 | refine below_set ?_ GE124.out) | exact HB.out)) hb); clear BK124; clear HB; have BK124 := n0_; have HB := n1_; clear n0_ n1_; (try clear hb); (try clear hb2); (try clear hk); (try clear hi); have hcz18_0 : w17.cell? ⟨gb124, 0, none⟩ = some (.string ((rd_T43 l0 a1).f0)) := (blk_cell BK124.out 0).trans rfl; have hcz18_1 : w17.cell? ⟨gb124, 1, none⟩ = some (.slice A123_1 ((rd_T43 l0 a1).f1).length c123_1) := (blk_cell BK124.out 1).trans rfl; have hfz18_0 := blk_frozen BK124.out 0; have hfz18_1 := blk_frozen BK124.out 1) | ((with_reducible refine gate_callee (f := 12) rfl ?_); refine goesL_ (some 23) rfl rfl Try.func12 (by kernel_rfl) rfl #[.slice (some ad123) l0.length c0, .string ((rd_T43 l0 a1).f0)] rfl (by (try simp only [List.map_toArray, List.map_cons, List.map_nil]); first | done | rfl | (simp only [List.length_drop, List.length_take]; rfl)) ?_; (with_reducible refine (kind_Find.calls _ _ l0 ((rd_T43 l0 a1).f0) t126 t127 _ ?side1 ?side2 A7.out).mono ?_); (case side1 => repeat (first | exact (Kd.C_below HR0.out HB.out) | (with_reducible refine Kd.C_alloc ?_ _) | (with_reducible refine Kd.C_drewN ?_ _) | (with_reducible refine Kd.C_drew ?_))); (case side2 => exact HC0.out); rintro e w19 ⟨rfl, hb⟩; refine ⟨_, rfl, ?_⟩; have n0_ := Aside0.mk (blk_below (g := gb124) (o := .cells #[.string ((rd_T43 l0 a1).f0), .slice A123_1 ((rd_T43 l0 a1).f1).length c123_1] 43 (0, 0)) (by (with_reducible repeat (first | refine blk_drewN ?_ _ | refine blk_drew ?_ | refine blk_alloc ?_ _)); exact BK124.out) hb); have n1_ := Aside0.mk (below_step (by repeat (first | (with_reducible first | exact HB.out | apply below_alloc | apply pw_below_drewN | apply below_drew1 | refine below_set ?_ GE124.out) | exact HB.out)) hb); clear BK124; clear HB; have BK124 := n0_; have HB := n1_; clear n0_ n1_; (try clear hb); (try clear hb2); (try clear hk); (try clear hi); have hcz20_0 : w19.cell? ⟨gb124, 0, none⟩ = some (.string ((rd_T43 l0 a1).f0)) := (blk_cell BK124.out 0).trans rfl; have hcz20_1 : w19.cell? ⟨gb124, 1, none⟩ = some (.slice A123_1 ((rd_T43 l0 a1).f1).length c123_1) := (blk_cell BK124.out 1).trans rfl; have hfz20_0 := blk_frozen BK124.out 0; have hfz20_1 := blk_frozen BK124.out 1))
      go_ret
      exact ⟨by first | rfl | (simp [errW_none, errW_some] <;> rfl) | (simp [*, errW_none, errW_some] <;> rfl), by repeat (first | (with_reducible first | exact HB.out | apply below_alloc | apply pw_below_drewN | apply below_drew1 | refine below_set ?_ GE124.out) | exact HB.out)⟩
     ·rw [if_neg c14] at H
      have c14b0 : decide (8 < (((rd_T43 l0 a1).f1).length : Int)) = false := decide_eq_false c14
      have c14b1 : decide (8 < ((rd_T43 l0 a1).f1).length) = false := decide_eq_false (by omega)
      clear c14
      have H' := Aside0.mk H
      clear H
      have p123 : 0 ≤ (a1 : Int) := of_decide_eq_true (by first | (with_reducible assumption) | assumption)
      have q123 : a1 < (l0.length : Int) := of_decide_eq_true (by first | (with_reducible assumption) | assumption)
      obtain ⟨ad123, A123_1, c123_1, e123, hx123_0, hx123_1, hl123_1, hi123_1⟩ := at_T43 HR0.out a1 p123 q123
      cases e123
      have HR123_1 := Aside0.mk hi123_1
      have HC123_1 := Aside0.mk hl123_1
      clear hi123_1 hl123_1
      replace p123 := eq_true p123
      replace q123 := eq_true q123
      go_enter Try.func26, Try.ntmps26
      go_wp2_with (first | ((with_reducible refine gate_dst (N := 5) rfl ?_); refine box_event ?hg (N := 5) ?hd (cs := #[.string (⟨#[]⟩ : ByteArray), .slice none 0 0]) (t := 43) ?hr ?_; (case hd => rfl); (case hg => rfl); (case hr => first | (go_simp; done) | (go_simp; rfl)); intro gb124 hg w21 hbox hb; have n0_ := Aside0.mk (below_step (by repeat (first | (with_reducible first | exact HB.out | apply below_alloc | apply pw_below_drewN | apply below_drew1) | exact HB.out)) hb); have n1_ := Aside0.mk (hbox); have n2_ := Aside0.mk ((by rw [hg]; exact (below_size (by repeat (first | (with_reducible first | exact HB.out | apply below_alloc | apply pw_below_drewN | apply below_drew1) | exact HB.out))) : w.heap.size ≤ gb124)); have n3_ := Aside0.mk ((by rw [hg]; exact (below_size (by repeat (first | (with_reducible first | exact HB.out | apply below_alloc | apply pw_below_drewN | apply below_drew1) | exact HB.out))) : w.heap.size ≤ gb124)); clear HB; have HB := n0_; have BK124 := n1_; have GW124 := n2_; have GE124 := n3_; clear n0_ n1_ n2_ n3_; clear hb hbox hg; have hcz22_0 : w21.cell? ⟨gb124, 0, none⟩ = some (.string (⟨#[]⟩ : ByteArray)) := (blk_cell BK124.out 0).trans rfl; have hcz22_1 : w21.cell? ⟨gb124, 1, none⟩ = some (.slice none 0 0) := (blk_cell BK124.out 1).trans rfl; have hfz22_0 := blk_frozen BK124.out 0; have hfz22_1 := blk_frozen BK124.out 1) | ((with_reducible refine gate_callee (f := 29) rfl ?_); refine goesL_ (some 17) rfl rfl Try.func29 (by kernel_rfl) rfl #[.string ((rd_T43 l0 a1).f0)] rfl (by (try simp only [List.map_toArray, List.map_cons, List.map_nil]); first | done | rfl | (simp only [List.length_drop, List.length_take]; rfl)) ?_; (with_reducible refine (lex_IsWord.calls k ((rd_T43 l0 a1).f0) true _ A5.out).mono ?_); rintro e w23 ⟨rfl, hb⟩; refine ⟨_, rfl, ?_⟩; have n0_ := Aside0.mk (blk_below (g := gb124) (o := .cells #[.string ((rd_T43 l0 a1).f0), .slice A123_1 ((rd_T43 l0 a1).f1).length c123_1] 43 (0, 0)) (by (with_reducible repeat (first | refine blk_drewN ?_ _ | refine blk_drew ?_ | refine blk_alloc ?_ _)); refine blk_put (cs := #[.string ((rd_T43 l0 a1).f0), .slice none 0 0]) ?_ 1 _ rfl; (with_reducible repeat (first | refine blk_drewN ?_ _ | refine blk_drew ?_ | refine blk_alloc ?_ _)); refine blk_put (cs := #[.string (⟨#[]⟩ : ByteArray), .slice none 0 0]) ?_ 0 _ rfl; (with_reducible repeat (first | refine blk_drewN ?_ _ | refine blk_drew ?_ | refine blk_alloc ?_ _)); exact BK124.out) hb); have n1_ := Aside0.mk (below_step (by repeat (first | (with_reducible first | exact HB.out | apply below_alloc | apply pw_below_drewN | apply below_drew1 | refine below_set ?_ GE124.out) | exact HB.out)) hb); clear BK124; clear HB; have BK124 := n0_; have HB := n1_; clear n0_ n1_; (try clear hb); (try clear hb2); (try clear hk); (try clear hi); have hcz24_0 : w23.cell? ⟨gb124, 0, none⟩ = some (.string ((rd_T43 l0 a1).f0)) := (blk_cell BK124.out 0).trans rfl; have hcz24_1 : w23.cell? ⟨gb124, 1, none⟩ = some (.slice A123_1 ((rd_T43 l0 a1).f1).length c123_1) := (blk_cell BK124.out 1).trans rfl; have hfz24_0 := blk_frozen BK124.out 0; have hfz24_1 := blk_frozen BK124.out 1) | ((with_reducible refine gate_callee (f := 12) rfl ?_); refine goesL_ (some 23) rfl rfl Try.func12 (by kernel_rfl) rfl #[.slice (some ad123) l0.length c0, .string ((rd_T43 l0 a1).f0)] rfl (by (try simp only [List.map_toArray, List.map_cons, List.map_nil]); first | done | rfl | (simp only [List.length_drop, List.length_take]; rfl)) ?_; (with_reducible refine (kind_Find.calls _ _ l0 ((rd_T43 l0 a1).f0) t126 t127 _ ?side1 ?side2 A7.out).mono ?_); (case side1 => repeat (first | exact (Kd.C_below HR0.out HB.out) | (with_reducible refine Kd.C_alloc ?_ _) | (with_reducible refine Kd.C_drewN ?_ _) | (with_reducible refine Kd.C_drew ?_))); (case side2 => exact HC0.out); rintro e w25 ⟨rfl, hb⟩; refine ⟨_, rfl, ?_⟩; have n0_ := Aside0.mk (blk_below (g := gb124) (o := .cells #[.string ((rd_T43 l0 a1).f0), .slice A123_1 ((rd_T43 l0 a1).f1).length c123_1] 43 (0, 0)) (by (with_reducible repeat (first | refine blk_drewN ?_ _ | refine blk_drew ?_ | refine blk_alloc ?_ _)); exact BK124.out) hb); have n1_ := Aside0.mk (below_step (by repeat (first | (with_reducible first | exact HB.out | apply below_alloc | apply pw_below_drewN | apply below_drew1 | refine below_set ?_ GE124.out) | exact HB.out)) hb); clear BK124; clear HB; have BK124 := n0_; have HB := n1_; clear n0_ n1_; (try clear hb); (try clear hb2); (try clear hk); (try clear hi); have hcz26_0 : w25.cell? ⟨gb124, 0, none⟩ = some (.string ((rd_T43 l0 a1).f0)) := (blk_cell BK124.out 0).trans rfl; have hcz26_1 : w25.cell? ⟨gb124, 1, none⟩ = some (.slice A123_1 ((rd_T43 l0 a1).f1).length c123_1) := (blk_cell BK124.out 1).trans rfl; have hfz26_0 := blk_frozen BK124.out 0; have hfz26_1 := blk_frozen BK124.out 1))
      go_loopg [36] k (fun kq v36 w' => ∃ (x36_1 : Int), v36 = .int .i64 x36_1 ∧ Aside0 (kind_one.l0 kq l0 ((rd_T43 l0 a1).f1) (((rd_T43 l0 a1).f1).length : Int) x36_1 ((rd_T43 l0 a1).f0) ((rd_T43 l0 a1).f1) = some r) ∧ Aside0 (kq ≤ k) ∧ Aside0 (w'.heap[gb124]? = some (.cells #[.string ((rd_T43 l0 a1).f0), (.slice A123_1 ((rd_T43 l0 a1).f1).length c123_1)] 43 (0, 0))) ∧ Aside0 (Below w.heap.size w w'))
      case atStart => exact ⟨(0), (by first | rfl | (simp; done) | (simp [*]; done)), H', ⟨Nat.le_refl _⟩, ⟨by (with_reducible repeat (first | refine blk_drewN ?_ _ | refine blk_drew ?_ | refine blk_alloc ?_ _)); exact BK124.out⟩, ⟨by repeat (first | (with_reducible first | exact HB.out | apply below_alloc | apply pw_below_drewN | apply below_drew1 | refine below_set ?_ GE124.out) | exact HB.out)⟩⟩
      case round =>
       clear H'
       try clear c1
       try clear p1
       try clear q1
       try clear hx1
       try clear c2
       try clear p2
       try clear c3
       try clear c3b0
       try clear c4
       try clear c4b0
       try clear c6
       try clear c8
       try clear c8b0
       try clear c12
       try clear p12
       try clear q12
       try clear hx12
       try clear c14
       try clear c14b0
       try clear c14b1
       try clear c26
       try clear hcz10_0
       try clear hcz10_1
       try clear hcz12_0
       try clear hcz12_1
       try clear hcz16_0
       try clear hcz16_1
       try clear hcz18_0
       try clear hcz18_1
       try clear hcz20_0
       try clear hcz20_1
       try clear hcz22_0
       try clear hcz22_1
       try clear hcz24_0
       try clear hcz24_1
       try clear hcz26_0
       try clear hcz26_1
       try clear hfz10_0
       try clear hfz10_1
       try clear hfz12_0
       try clear hfz12_1
       try clear hfz16_0
       try clear hfz16_1
       try clear hfz18_0
       try clear hfz18_1
       try clear hfz20_0
       try clear hfz20_1
       try clear hfz22_0
       try clear hfz22_1
       try clear hfz24_0
       try clear hfz24_1
       try clear hfz26_0
       try clear hfz26_1
       try clear hx123_0
       try clear hx123_1
       try clear p123
       try clear q123
       obtain ⟨x36_1, rfl, HA, HK1, BK124, HB⟩ := hrel
       cases gk with
       | zero => exact absurd HA.out (by simp [kind_one.l0])
       | succ k1 =>
        have H := HA.out
        clear HA
        simp only [kind_one.l0] at H
        by_cases c27 : x36_1 < (((rd_T43 l0 a1).f1).length : Int)
        ·rw [if_pos c27] at H
         have c27b0 : decide (x36_1 < (((rd_T43 l0 a1).f1).length : Int)) = true := decide_eq_true c27
         clear c27
         by_cases c28 : 0 ≤ x36_1
         ·rw [if_pos c28] at H
          have c28b0 : decide (0 ≤ x36_1) = true := decide_eq_true c28
          clear c28
          by_cases c29 : x36_1 < (((rd_T43 l0 a1).f1).length : Int)
          ·rw [if_pos c29] at H
           have c29b0 : decide (x36_1 < (((rd_T43 l0 a1).f1).length : Int)) = true := decide_eq_true c29
           clear c29
           have c30b0 := eq_true (of_decide_eq_true (by first | (with_reducible assumption) | assumption) : 0 ≤ x36_1)
           by_cases c31 : x36_1 ≤ (((rd_T43 l0 a1).f1).length : Int)
           ·rw [if_pos c31] at H
            have c31b0 := eq_true c31
            have c31b1 : decide (x36_1 ≤ (((rd_T43 l0 a1).f1).length : Int)) = true := decide_eq_true c31
            clear c31
            obtain ⟨y130, hy130⟩ : ∃ y_ : List (S48), y_ = (((rd_T43 l0 a1).f1).take (x36_1 : Int).toNat) := ⟨_, rfl⟩
            replace H : ((kind_field.f k1 l0 y130 ((rd_T48 ((rd_T43 l0 a1).f1) x36_1).f0) ((rd_T48 ((rd_T43 l0 a1).f1) x36_1).f1)).bind fun t134 => (if t134 = 0 then (kind_one.l0 k1 l0 ((rd_T43 l0 a1).f1) (((rd_T43 l0 a1).f1).length : Int) (wrap64 (x36_1 + 1)) ((rd_T43 l0 a1).f0) ((rd_T43 l0 a1).f1)) else (some t134))) = some r := by first | (rw [hy130]; with_reducible exact H) | (have H2_ := (Option.bind_some _ _).symm.trans H; rw [hy130]; with_reducible exact H2_) | (have H2_ := (Option.bind_some _ _).symm.trans H; with_reducible exact H2_) | with_reducible exact H | (rw [hy130]; exact H) | exact H
            have Ny130 := Aside0.mk hy130
            clear hy130
            replace H := Option.bind_eq_some_iff.mp H
            obtain ⟨t134, A320, H⟩ := H
            replace H : (if t134 = 0 then (kind_one.l0 k1 l0 ((rd_T43 l0 a1).f1) (((rd_T43 l0 a1).f1).length : Int) (wrap64 (x36_1 + 1)) ((rd_T43 l0 a1).f0) ((rd_T43 l0 a1).f1)) else (some t134)) = some r := H
            have A32 := Aside0.mk A320
            clear A320
            by_cases c33 : t134 = 0
            ·rw [if_pos c33] at H
             have c33b0 : (t134 == 0) = true := beq_iff_eq.mpr c33
             have c33b1 : (t134 != 0) = false := bne_eq_false_iff_eq.mpr c33
             clear c33
             have H' := Aside0.mk H
             clear H
             have p128 : 0 ≤ (x36_1 : Int) := of_decide_eq_true (by first | (with_reducible assumption) | assumption)
             have q128 : x36_1 < (((rd_T43 l0 a1).f1).length : Int) := of_decide_eq_true (by first | (with_reducible assumption) | assumption)
             obtain ⟨ad128, e128, hx128_0, hx128_1⟩ := at_T48 HR123_1.out x36_1 p128 q128
             cases e128
             replace hx128_0 := (HB.out.cell (World.block_lt_of_cell? w _ hx128_0)).trans hx128_0
             replace hx128_1 := (HB.out.cell (World.block_lt_of_cell? w _ hx128_1)).trans hx128_1
             replace p128 := eq_true p128
             replace q128 := eq_true q128
             try go_wp2_with (first | ((with_reducible refine gate_dst (N := 9) rfl ?_); refine box_event ?hg (N := 9) ?hd (cs := #[.string (⟨#[]⟩ : ByteArray), .string (⟨#[]⟩ : ByteArray)]) (t := 48) ?hr ?_; (case hd => rfl); (case hg => rfl); (case hr => first | (go_simp; done) | (go_simp; rfl)); intro gb129 hg w34 hbox hb; have n0_ := Aside0.mk (blk_below (g := gb124) (o := .cells #[.string ((rd_T43 l0 a1).f0), .slice (some ad128) ((rd_T43 l0 a1).f1).length c123_1] 43 (0, 0)) (by (with_reducible repeat (first | refine blk_drewN ?_ _ | refine blk_drew ?_ | refine blk_alloc ?_ _)); exact BK124.out) hb); have n1_ := Aside0.mk (below_step (by repeat (first | (with_reducible first | exact HB.out | apply below_alloc | apply pw_below_drewN | apply below_drew1 | refine below_set ?_ GE124.out) | exact HB.out)) hb); have n2_ := Aside0.mk (hbox); have n3_ := Aside0.mk ((by rw [hg]; exact (below_size (by repeat (first | (with_reducible first | exact HB.out | apply below_alloc | apply pw_below_drewN | apply below_drew1 | refine below_set ?_ GE124.out) | exact HB.out))) : w.heap.size ≤ gb129)); have n4_ := Aside0.mk ((by rw [hg]; exact (below_size (by repeat (first | (with_reducible first | exact HB.out | apply below_alloc | apply pw_below_drewN | apply below_drew1 | refine below_set ?_ GE124.out) | exact HB.out))) : w.heap.size ≤ gb129)); have n5_ := Aside0.mk ((by rw [hg]; exact Nat.ne_of_lt (blk_lt (g := gb124) (o := .cells #[.string ((rd_T43 l0 a1).f0), .slice (some ad128) ((rd_T43 l0 a1).f1).length c123_1] 43 (0, 0)) (by (with_reducible repeat (first | refine blk_drewN ?_ _ | refine blk_drew ?_ | refine blk_alloc ?_ _)); exact BK124.out)) : gb124 ≠ gb129)); have n6_ := Aside0.mk ((by rw [hg]; exact Nat.ne_of_gt (blk_lt (g := gb124) (o := .cells #[.string ((rd_T43 l0 a1).f0), .slice (some ad128) ((rd_T43 l0 a1).f1).length c123_1] 43 (0, 0)) (by (with_reducible repeat (first | refine blk_drewN ?_ _ | refine blk_drew ?_ | refine blk_alloc ?_ _)); exact BK124.out)) : gb129 ≠ gb124)); clear BK124; clear HB; have BK124 := n0_; have HB := n1_; have BK129 := n2_; have GW129 := n3_; have GE129 := n4_; have NB124_129 := n5_; have NB129_124 := n6_; clear n0_ n1_ n2_ n3_ n4_ n5_ n6_; clear hb hbox hg; have hnb35 := NB129_124.out; have hnc35 := NB124_129.out; have hcz36_0 : w34.cell? ⟨gb129, 0, none⟩ = some (.string (⟨#[]⟩ : ByteArray)) := (blk_cell BK129.out 0).trans rfl; have hcz36_1 : w34.cell? ⟨gb129, 1, none⟩ = some (.string (⟨#[]⟩ : ByteArray)) := (blk_cell BK129.out 1).trans rfl; have hfz36_0 := blk_frozen BK129.out 0; have hfz36_1 := blk_frozen BK129.out 1))
             have n0_ : Aside0 (((w34.setCell ⟨gb129, 0, none⟩ (.string ((rd_T48 ((rd_T43 l0 a1).f1) x36_1).f0))).setCell ⟨gb129, 1, none⟩ (.string ((rd_T48 ((rd_T43 l0 a1).f1) x36_1).f1))).heap[gb124]? = some (.cells #[.string ((rd_T43 l0 a1).f0), .slice (some ad128) ((rd_T43 l0 a1).f1).length c123_1] 43 (0, 0))) := ⟨by (with_reducible repeat (first | refine blk_drewN ?_ _ | refine blk_drew ?_ | refine blk_alloc ?_ _)); refine blk_far ?_ NB124_129.out _; (with_reducible repeat (first | refine blk_drewN ?_ _ | refine blk_drew ?_ | refine blk_alloc ?_ _)); refine blk_far ?_ NB124_129.out _; (with_reducible repeat (first | refine blk_drewN ?_ _ | refine blk_drew ?_ | refine blk_alloc ?_ _)); exact BK124.out⟩
             have n1_ : Aside0 (((w34.setCell ⟨gb129, 0, none⟩ (.string ((rd_T48 ((rd_T43 l0 a1).f1) x36_1).f0))).setCell ⟨gb129, 1, none⟩ (.string ((rd_T48 ((rd_T43 l0 a1).f1) x36_1).f1))).heap[gb129]? = some (.cells #[.string ((rd_T48 ((rd_T43 l0 a1).f1) x36_1).f0), .string ((rd_T48 ((rd_T43 l0 a1).f1) x36_1).f1)] 48 (0, 0))) := ⟨by (with_reducible repeat (first | refine blk_drewN ?_ _ | refine blk_drew ?_ | refine blk_alloc ?_ _)); refine blk_put (cs := #[.string ((rd_T48 ((rd_T43 l0 a1).f1) x36_1).f0), .string (⟨#[]⟩ : ByteArray)]) ?_ 1 _ rfl; (with_reducible repeat (first | refine blk_drewN ?_ _ | refine blk_drew ?_ | refine blk_alloc ?_ _)); refine blk_put (cs := #[.string (⟨#[]⟩ : ByteArray), .string (⟨#[]⟩ : ByteArray)]) ?_ 0 _ rfl; (with_reducible repeat (first | refine blk_drewN ?_ _ | refine blk_drew ?_ | refine blk_alloc ?_ _)); exact BK129.out⟩
             have n2_ : Aside0 (Below w.heap.size w ((w34.setCell ⟨gb129, 0, none⟩ (.string ((rd_T48 ((rd_T43 l0 a1).f1) x36_1).f0))).setCell ⟨gb129, 1, none⟩ (.string ((rd_T48 ((rd_T43 l0 a1).f1) x36_1).f1)))) := ⟨by repeat (first | (with_reducible first | exact HB.out | apply below_alloc | apply pw_below_drewN | apply below_drew1 | refine below_set ?_ GE124.out | refine below_set ?_ GE129.out) | exact HB.out)⟩
             (try clear BK124)
             (try clear BK129)
             (try clear HB)
             generalize ((w34.setCell ⟨gb129, 0, none⟩ (.string ((rd_T48 ((rd_T43 l0 a1).f1) x36_1).f0))).setCell ⟨gb129, 1, none⟩ (.string ((rd_T48 ((rd_T43 l0 a1).f1) x36_1).f1))) = w37 at n0_ n1_ n2_ ⊢
             have BK124 := n0_
             have BK129 := n1_
             have HB := n2_
             clear n0_ n1_ n2_
             have n0_ := Aside0.mk (blk_drew BK124.out)
             have n1_ := Aside0.mk (blk_drew BK129.out)
             have n2_ := Aside0.mk (below_drew1 HB.out)
             clear BK124
             clear BK129
             clear HB
             have BK124 := n0_
             have BK129 := n1_
             have HB := n2_
             clear n0_ n1_ n2_
             have q39 : (x36_1 : Int) ≤ ((((rd_T43 l0 a1).f1).length : Int) : Int) := of_decide_eq_true (by first | (with_reducible assumption) | assumption)
             obtain ⟨i039, hi039, _, hsz39, _⟩ := info_parts info48
             have hroom39 : ((rd_T43 l0 a1).f1).length ≤ c123_1 := HC123_1.out
             have hC39 : Kd.C k48 _ (some ad128) ((rd_T43 l0 a1).f1).length ((rd_T43 l0 a1).f1) := HR123_1.out
             have hcut39 := cut_to (P := Try.prog) 41 48 .i64 Try.underlying41 hi039 (some ad128) ((rd_T43 l0 a1).f1).length c123_1 x36_1 (of_decide_eq_true (by first | (with_reducible assumption) | assumption)) q39 hroom39
             have hr39 := Kd.C_take (m := (x36_1 : Int).toNat) hC39 (by omega)
             have hy39 : y130.length = (x36_1 : Int).toNat := (by rw [Ny130.out, List.length_take]; omega)
             rw [← Ny130.out] at hr39
             rw [← hy39] at hcut39
             have HR133 := Aside0.mk hr39
             have HC133 := Aside0.mk (show y130.length ≤ c123_1 from by omega)
             clear hr39 hC39 hroom39 hi039 hsz39
             have KY39 := Aside0.mk hy39
             clear hy39
             replace q39 := eq_true q39
             refine start_ (n := 8) (S := fun w' => w'.cell? ⟨gb124, 0, none⟩ = some (.string ((rd_T43 l0 a1).f0)) ∧ w'.cell? ⟨gb124, 1, none⟩ = some (.slice (some ad128) ((rd_T43 l0 a1).f1).length c123_1) ∧ w'.cell? ⟨gb129, 0, none⟩ = some (.string ((rd_T48 ((rd_T43 l0 a1).f1) x36_1).f0)) ∧ w'.cell? ⟨gb129, 1, none⟩ = some (.string ((rd_T48 ((rd_T43 l0 a1).f1) x36_1).f1))) (ds := []) #[false, false, false, false, false, false, false, false] (by kernel_rfl) rfl rfl ⟨(blk_cell BK124.out 0).trans rfl, (blk_cell BK124.out 1).trans rfl, (blk_cell BK129.out 0).trans rfl, (blk_cell BK129.out 1).trans rfl⟩ (fun hHeld => ?_); refine with_tabW kind_one.tab12 kind_one.bits12 (fun HT_ HW_ => ?_)
             generalize w37.drew = w38 at BK124 BK129 HB HR133 hHeld ⊢
             refine pure_ (i := 0) (N := some 41) (v := ?_) (a' := ?_) #[true, false, false, false, false, false, false, false] rfl rfl (any_of HT_.out (by kernel_rfl)) (fun _ _ _ h => h) (Or.inl ⟨by rfl, ?_⟩) ?_ ?_
             rotate_left
             ·intro w'
              go_simp
              with_reducible rfl
             rotate_left
             ·simp only [Act.put, List.setIfInBounds_toArray, List.set_cons_zero, List.set_cons_succ, i64_w, i32_w]
              rfl
             refine pure_ (i := 1) (N := some 42) (v := ?_) (a' := ?_) #[true, true, false, false, false, false, false, false] rfl rfl (any_of HT_.out (by kernel_rfl)) (fun _ _ _ h => h) (Or.inl ⟨by rfl, ?_⟩) ?_ ?_
             rotate_left
             ·intro w'
              go_simp
              with_reducible rfl
             rotate_left
             ·simp only [Act.put, List.setIfInBounds_toArray, List.set_cons_zero, List.set_cons_succ, i64_w, i32_w]
              rfl
             refine pure_ (i := 3) (N := some 44) (v := ?_) (a' := ?_) #[true, true, false, true, false, false, false, false] rfl rfl (any_of HT_.out (by kernel_rfl)) (fun _ _ _ h => h) (Or.inl ⟨by rfl, ?_⟩) ?_ ?_
             rotate_left
             ·intro w'
              go_simp
              with_reducible rfl
             rotate_left
             ·simp only [Act.put, List.setIfInBounds_toArray, List.set_cons_zero, List.set_cons_succ, i64_w, i32_w]
              rfl
             refine take_ (i := 2) (N := some 43) (v := ?_) (a' := ?_) #[true, true, true, true, false, false, false, false] rfl rfl (take_ofW HT_.out HW_.out (by kernel_rfl)) (fun _ _ _ h => h) (Or.inl ⟨by rfl, ?_⟩) hHeld ?_ ?_
             rotate_left
             ·rintro w' ⟨s0, s1, s2, s3⟩
              go_simp
              with_reducible rfl
             rotate_left
             ·simp only [Act.put, List.setIfInBounds_toArray, List.set_cons_zero, List.set_cons_succ, i64_w, i32_w]
              rfl
             refine pure_ (i := 4) (N := some 45) (v := ?_) (a' := ?_) #[true, true, true, true, true, false, false, false] rfl rfl (any_of HT_.out (by kernel_rfl)) (fun _ _ _ h => h) (Or.inl ⟨by rfl, ?_⟩) ?_ ?_
             rotate_left
             ·intro w'
              go_simp
              with_reducible rfl
             rotate_left
             ·simp only [Act.put, List.setIfInBounds_toArray, List.set_cons_zero, List.set_cons_succ, i64_w, i32_w]
              rfl
             refine take_ (i := 5) (N := some 46) (v := ?_) (a' := ?_) #[true, true, true, true, true, true, false, false] rfl rfl (take_ofW HT_.out HW_.out (by kernel_rfl)) (fun _ _ _ h => h) (Or.inl ⟨by rfl, ?_⟩) hHeld ?_ ?_
             rotate_left
             ·rintro w' ⟨s0, s1, s2, s3⟩
              go_simp
              with_reducible rfl
             rotate_left
             ·simp only [Act.put, List.setIfInBounds_toArray, List.set_cons_zero, List.set_cons_succ, i64_w, i32_w]
              rfl
             refine one_ (i := 6) (N := some 47) #[true, true, true, true, true, true, true, false] rfl rfl (one_of HT_.out (by kernel_rfl)) (by decide) (fun K hK => ?_)
             refine goes_ Try.func37 (by kernel_rfl) rfl #[.slice (some ad123) l0.length c0, .slice (some ad128) y130.length c123_1, .agg #[.string ((rd_T48 ((rd_T43 l0 a1).f1) x36_1).f0), .string ((rd_T48 ((rd_T43 l0 a1).f1) x36_1).f1)]] (by rfl) rfl rfl (by (try simp only [List.map_toArray, List.map_cons, List.map_nil]); first | done | rfl | (simp only [List.length_drop, List.length_take]; rfl)) ?_
             with_reducible refine (kind_field.calls k1 _ _ l0 _ _ y130 ((rd_T48 ((rd_T43 l0 a1).f1) x36_1).f0) ((rd_T48 ((rd_T43 l0 a1).f1) x36_1).f1) t134 _ ?side1 ?side2 ?side3 ?side4 A32.out).mono ?_
             (case side1 => repeat (first | exact (Kd.C_below HR0.out HB.out) | (with_reducible refine Kd.C_alloc ?_ _) | (with_reducible refine Kd.C_drewN ?_ _) | (with_reducible refine Kd.C_drew ?_)))
             (case side2 => exact HC0.out)
             (case side3 => repeat (first | exact (Kd.C_below HR133.out HB.out) | (with_reducible refine Kd.C_alloc ?_ _) | (with_reducible refine Kd.C_drewN ?_ _) | (with_reducible refine Kd.C_drew ?_)))
             (case side4 => exact HC133.out)
             rintro e w40 ⟨rfl, hb⟩
             refine ⟨_, rfl, ?_⟩
             have n0_ := Aside0.mk (blk_below (g := gb124) (o := .cells #[.string ((rd_T43 l0 a1).f0), .slice (some ad128) ((rd_T43 l0 a1).f1).length c123_1] 43 (0, 0)) (by (with_reducible repeat (first | refine blk_drewN ?_ _ | refine blk_drew ?_ | refine blk_alloc ?_ _)); exact BK124.out) hb)
             have n1_ := Aside0.mk (blk_below (g := gb129) (o := .cells #[.string ((rd_T48 ((rd_T43 l0 a1).f1) x36_1).f0), .string ((rd_T48 ((rd_T43 l0 a1).f1) x36_1).f1)] 48 (0, 0)) (by (with_reducible repeat (first | refine blk_drewN ?_ _ | refine blk_drew ?_ | refine blk_alloc ?_ _)); exact BK129.out) hb)
             have n2_ := Aside0.mk (below_step (by repeat (first | (with_reducible first | exact HB.out | apply below_alloc | apply pw_below_drewN | apply below_drew1 | refine below_set ?_ GE124.out | refine below_set ?_ GE129.out) | exact HB.out)) hb)
             clear BK124
             clear BK129
             clear HB
             have BK124 := n0_
             have BK129 := n1_
             have HB := n2_
             clear n0_ n1_ n2_
             (try clear hb)
             (try clear hb2)
             (try clear hk)
             (try clear hi)
             refine hK.out _ _ ⟨(blk_cell BK124.out 0).trans rfl, (blk_cell BK124.out 1).trans rfl, (blk_cell BK129.out 0).trans rfl, (blk_cell BK129.out 1).trans rfl⟩ (fun hHeld => ?_)
             clear hK K
             refine norm_ (a' := ?_) ?_ ?_
             rotate_left
             ·show Act.put _ (some 47) _ = _
              simp only [Act.put, List.setIfInBounds_toArray, List.set_cons_zero, List.set_cons_succ, i64_w, i32_w]
              rfl
             refine pure_ (i := 7) (N := some 10) (v := ?_) (a' := ?_) #[true, true, true, true, true, true, true, true] rfl rfl (any_of HT_.out (by kernel_rfl)) (fun _ _ _ h => h) (Or.inl ⟨by rfl, ?_⟩) ?_ ?_
             rotate_left
             ·intro w'
              go_simp
              with_reducible rfl
             rotate_left
             ·simp only [Act.put, List.setIfInBounds_toArray, List.set_cons_zero, List.set_cons_succ, i64_w, i32_w]
              rfl
             refine done_ (done_of HT_.out (by kernel_rfl)) ?_
             try go_wp2
             go_roundg k1
             case measure => have := HK1.out; omega
             case rel => exact ⟨(wrap64 (x36_1 + 1)), (by first | rfl | (simp; done) | (simp [*]; done)), H', ⟨by have := HK1.out; omega⟩, ⟨by (with_reducible repeat (first | refine blk_drewN ?_ _ | refine blk_drew ?_ | refine blk_alloc ?_ _)); exact BK124.out⟩, ⟨by repeat (first | (with_reducible first | exact HB.out | apply below_alloc | apply pw_below_drewN | apply below_drew1 | refine below_set ?_ GE124.out | refine below_set ?_ GE129.out) | exact HB.out)⟩⟩
            ·rw [if_neg c33] at H
             have c33b0 : (t134 == 0) = false := beq_eq_false_iff_ne.mpr c33
             have c33b1 : (t134 != 0) = true := bne_iff_ne.mpr c33
             obtain rfl := Option.some.inj H
             have p128 : 0 ≤ (x36_1 : Int) := of_decide_eq_true (by first | (with_reducible assumption) | assumption)
             have q128 : x36_1 < (((rd_T43 l0 a1).f1).length : Int) := of_decide_eq_true (by first | (with_reducible assumption) | assumption)
             obtain ⟨ad128, e128, hx128_0, hx128_1⟩ := at_T48 HR123_1.out x36_1 p128 q128
             cases e128
             replace hx128_0 := (HB.out.cell (World.block_lt_of_cell? w _ hx128_0)).trans hx128_0
             replace hx128_1 := (HB.out.cell (World.block_lt_of_cell? w _ hx128_1)).trans hx128_1
             replace p128 := eq_true p128
             replace q128 := eq_true q128
             try go_wp2_with (first | ((with_reducible refine gate_dst (N := 9) rfl ?_); refine box_event ?hg (N := 9) ?hd (cs := #[.string (⟨#[]⟩ : ByteArray), .string (⟨#[]⟩ : ByteArray)]) (t := 48) ?hr ?_; (case hd => rfl); (case hg => rfl); (case hr => first | (go_simp; done) | (go_simp; rfl)); intro gb129 hg w41 hbox hb; have n0_ := Aside0.mk (blk_below (g := gb124) (o := .cells #[.string ((rd_T43 l0 a1).f0), .slice (some ad128) ((rd_T43 l0 a1).f1).length c123_1] 43 (0, 0)) (by (with_reducible repeat (first | refine blk_drewN ?_ _ | refine blk_drew ?_ | refine blk_alloc ?_ _)); exact BK124.out) hb); have n1_ := Aside0.mk (below_step (by repeat (first | (with_reducible first | exact HB.out | apply below_alloc | apply pw_below_drewN | apply below_drew1 | refine below_set ?_ GE124.out) | exact HB.out)) hb); have n2_ := Aside0.mk (hbox); have n3_ := Aside0.mk ((by rw [hg]; exact (below_size (by repeat (first | (with_reducible first | exact HB.out | apply below_alloc | apply pw_below_drewN | apply below_drew1 | refine below_set ?_ GE124.out) | exact HB.out))) : w.heap.size ≤ gb129)); have n4_ := Aside0.mk ((by rw [hg]; exact (below_size (by repeat (first | (with_reducible first | exact HB.out | apply below_alloc | apply pw_below_drewN | apply below_drew1 | refine below_set ?_ GE124.out) | exact HB.out))) : w.heap.size ≤ gb129)); have n5_ := Aside0.mk ((by rw [hg]; exact Nat.ne_of_lt (blk_lt (g := gb124) (o := .cells #[.string ((rd_T43 l0 a1).f0), .slice (some ad128) ((rd_T43 l0 a1).f1).length c123_1] 43 (0, 0)) (by (with_reducible repeat (first | refine blk_drewN ?_ _ | refine blk_drew ?_ | refine blk_alloc ?_ _)); exact BK124.out)) : gb124 ≠ gb129)); have n6_ := Aside0.mk ((by rw [hg]; exact Nat.ne_of_gt (blk_lt (g := gb124) (o := .cells #[.string ((rd_T43 l0 a1).f0), .slice (some ad128) ((rd_T43 l0 a1).f1).length c123_1] 43 (0, 0)) (by (with_reducible repeat (first | refine blk_drewN ?_ _ | refine blk_drew ?_ | refine blk_alloc ?_ _)); exact BK124.out)) : gb129 ≠ gb124)); clear BK124; clear HB; have BK124 := n0_; have HB := n1_; have BK129 := n2_; have GW129 := n3_; have GE129 := n4_; have NB124_129 := n5_; have NB129_124 := n6_; clear n0_ n1_ n2_ n3_ n4_ n5_ n6_; clear hb hbox hg; have hnb42 := NB129_124.out; have hnc42 := NB124_129.out; have hcz43_0 : w41.cell? ⟨gb129, 0, none⟩ = some (.string (⟨#[]⟩ : ByteArray)) := (blk_cell BK129.out 0).trans rfl; have hcz43_1 : w41.cell? ⟨gb129, 1, none⟩ = some (.string (⟨#[]⟩ : ByteArray)) := (blk_cell BK129.out 1).trans rfl; have hfz43_0 := blk_frozen BK129.out 0; have hfz43_1 := blk_frozen BK129.out 1))
             have n0_ : Aside0 (((w41.setCell ⟨gb129, 0, none⟩ (.string ((rd_T48 ((rd_T43 l0 a1).f1) x36_1).f0))).setCell ⟨gb129, 1, none⟩ (.string ((rd_T48 ((rd_T43 l0 a1).f1) x36_1).f1))).heap[gb124]? = some (.cells #[.string ((rd_T43 l0 a1).f0), .slice (some ad128) ((rd_T43 l0 a1).f1).length c123_1] 43 (0, 0))) := ⟨by (with_reducible repeat (first | refine blk_drewN ?_ _ | refine blk_drew ?_ | refine blk_alloc ?_ _)); refine blk_far ?_ NB124_129.out _; (with_reducible repeat (first | refine blk_drewN ?_ _ | refine blk_drew ?_ | refine blk_alloc ?_ _)); refine blk_far ?_ NB124_129.out _; (with_reducible repeat (first | refine blk_drewN ?_ _ | refine blk_drew ?_ | refine blk_alloc ?_ _)); exact BK124.out⟩
             have n1_ : Aside0 (((w41.setCell ⟨gb129, 0, none⟩ (.string ((rd_T48 ((rd_T43 l0 a1).f1) x36_1).f0))).setCell ⟨gb129, 1, none⟩ (.string ((rd_T48 ((rd_T43 l0 a1).f1) x36_1).f1))).heap[gb129]? = some (.cells #[.string ((rd_T48 ((rd_T43 l0 a1).f1) x36_1).f0), .string ((rd_T48 ((rd_T43 l0 a1).f1) x36_1).f1)] 48 (0, 0))) := ⟨by (with_reducible repeat (first | refine blk_drewN ?_ _ | refine blk_drew ?_ | refine blk_alloc ?_ _)); refine blk_put (cs := #[.string ((rd_T48 ((rd_T43 l0 a1).f1) x36_1).f0), .string (⟨#[]⟩ : ByteArray)]) ?_ 1 _ rfl; (with_reducible repeat (first | refine blk_drewN ?_ _ | refine blk_drew ?_ | refine blk_alloc ?_ _)); refine blk_put (cs := #[.string (⟨#[]⟩ : ByteArray), .string (⟨#[]⟩ : ByteArray)]) ?_ 0 _ rfl; (with_reducible repeat (first | refine blk_drewN ?_ _ | refine blk_drew ?_ | refine blk_alloc ?_ _)); exact BK129.out⟩
             have n2_ : Aside0 (Below w.heap.size w ((w41.setCell ⟨gb129, 0, none⟩ (.string ((rd_T48 ((rd_T43 l0 a1).f1) x36_1).f0))).setCell ⟨gb129, 1, none⟩ (.string ((rd_T48 ((rd_T43 l0 a1).f1) x36_1).f1)))) := ⟨by repeat (first | (with_reducible first | exact HB.out | apply below_alloc | apply pw_below_drewN | apply below_drew1 | refine below_set ?_ GE124.out | refine below_set ?_ GE129.out) | exact HB.out)⟩
             (try clear BK124)
             (try clear BK129)
             (try clear HB)
             generalize ((w41.setCell ⟨gb129, 0, none⟩ (.string ((rd_T48 ((rd_T43 l0 a1).f1) x36_1).f0))).setCell ⟨gb129, 1, none⟩ (.string ((rd_T48 ((rd_T43 l0 a1).f1) x36_1).f1))) = w44 at n0_ n1_ n2_ ⊢
             have BK124 := n0_
             have BK129 := n1_
             have HB := n2_
             clear n0_ n1_ n2_
             have n0_ := Aside0.mk (blk_drew BK124.out)
             have n1_ := Aside0.mk (blk_drew BK129.out)
             have n2_ := Aside0.mk (below_drew1 HB.out)
             clear BK124
             clear BK129
             clear HB
             have BK124 := n0_
             have BK129 := n1_
             have HB := n2_
             clear n0_ n1_ n2_
             have q46 : (x36_1 : Int) ≤ ((((rd_T43 l0 a1).f1).length : Int) : Int) := of_decide_eq_true (by first | (with_reducible assumption) | assumption)
             obtain ⟨i046, hi046, _, hsz46, _⟩ := info_parts info48
             have hroom46 : ((rd_T43 l0 a1).f1).length ≤ c123_1 := HC123_1.out
             have hC46 : Kd.C k48 _ (some ad128) ((rd_T43 l0 a1).f1).length ((rd_T43 l0 a1).f1) := HR123_1.out
             have hcut46 := cut_to (P := Try.prog) 41 48 .i64 Try.underlying41 hi046 (some ad128) ((rd_T43 l0 a1).f1).length c123_1 x36_1 (of_decide_eq_true (by first | (with_reducible assumption) | assumption)) q46 hroom46
             have hr46 := Kd.C_take (m := (x36_1 : Int).toNat) hC46 (by omega)
             have hy46 : y130.length = (x36_1 : Int).toNat := (by rw [Ny130.out, List.length_take]; omega)
             rw [← Ny130.out] at hr46
             rw [← hy46] at hcut46
             have HR133 := Aside0.mk hr46
             have HC133 := Aside0.mk (show y130.length ≤ c123_1 from by omega)
             clear hr46 hC46 hroom46 hi046 hsz46
             have KY46 := Aside0.mk hy46
             clear hy46
             replace q46 := eq_true q46
             refine start_ (n := 8) (S := fun w' => w'.cell? ⟨gb124, 0, none⟩ = some (.string ((rd_T43 l0 a1).f0)) ∧ w'.cell? ⟨gb124, 1, none⟩ = some (.slice (some ad128) ((rd_T43 l0 a1).f1).length c123_1) ∧ w'.cell? ⟨gb129, 0, none⟩ = some (.string ((rd_T48 ((rd_T43 l0 a1).f1) x36_1).f0)) ∧ w'.cell? ⟨gb129, 1, none⟩ = some (.string ((rd_T48 ((rd_T43 l0 a1).f1) x36_1).f1))) (ds := []) #[false, false, false, false, false, false, false, false] (by kernel_rfl) rfl rfl ⟨(blk_cell BK124.out 0).trans rfl, (blk_cell BK124.out 1).trans rfl, (blk_cell BK129.out 0).trans rfl, (blk_cell BK129.out 1).trans rfl⟩ (fun hHeld => ?_); refine with_tabW kind_one.tab12 kind_one.bits12 (fun HT_ HW_ => ?_)
             generalize w44.drew = w45 at BK124 BK129 HB HR133 hHeld ⊢
             refine pure_ (i := 0) (N := some 41) (v := ?_) (a' := ?_) #[true, false, false, false, false, false, false, false] rfl rfl (any_of HT_.out (by kernel_rfl)) (fun _ _ _ h => h) (Or.inl ⟨by rfl, ?_⟩) ?_ ?_
             rotate_left
             ·intro w'
              go_simp
              with_reducible rfl
             rotate_left
             ·simp only [Act.put, List.setIfInBounds_toArray, List.set_cons_zero, List.set_cons_succ, i64_w, i32_w]
              rfl
             refine pure_ (i := 1) (N := some 42) (v := ?_) (a' := ?_) #[true, true, false, false, false, false, false, false] rfl rfl (any_of HT_.out (by kernel_rfl)) (fun _ _ _ h => h) (Or.inl ⟨by rfl, ?_⟩) ?_ ?_
             rotate_left
             ·intro w'
              go_simp
              with_reducible rfl
             rotate_left
             ·simp only [Act.put, List.setIfInBounds_toArray, List.set_cons_zero, List.set_cons_succ, i64_w, i32_w]
              rfl
             refine pure_ (i := 3) (N := some 44) (v := ?_) (a' := ?_) #[true, true, false, true, false, false, false, false] rfl rfl (any_of HT_.out (by kernel_rfl)) (fun _ _ _ h => h) (Or.inl ⟨by rfl, ?_⟩) ?_ ?_
             rotate_left
             ·intro w'
              go_simp
              with_reducible rfl
             rotate_left
             ·simp only [Act.put, List.setIfInBounds_toArray, List.set_cons_zero, List.set_cons_succ, i64_w, i32_w]
              rfl
             refine take_ (i := 2) (N := some 43) (v := ?_) (a' := ?_) #[true, true, true, true, false, false, false, false] rfl rfl (take_ofW HT_.out HW_.out (by kernel_rfl)) (fun _ _ _ h => h) (Or.inl ⟨by rfl, ?_⟩) hHeld ?_ ?_
             rotate_left
             ·rintro w' ⟨s0, s1, s2, s3⟩
              go_simp
              with_reducible rfl
             rotate_left
             ·simp only [Act.put, List.setIfInBounds_toArray, List.set_cons_zero, List.set_cons_succ, i64_w, i32_w]
              rfl
             refine pure_ (i := 4) (N := some 45) (v := ?_) (a' := ?_) #[true, true, true, true, true, false, false, false] rfl rfl (any_of HT_.out (by kernel_rfl)) (fun _ _ _ h => h) (Or.inl ⟨by rfl, ?_⟩) ?_ ?_
             rotate_left
             ·intro w'
              go_simp
              with_reducible rfl
             rotate_left
             ·simp only [Act.put, List.setIfInBounds_toArray, List.set_cons_zero, List.set_cons_succ, i64_w, i32_w]
              rfl
             refine take_ (i := 5) (N := some 46) (v := ?_) (a' := ?_) #[true, true, true, true, true, true, false, false] rfl rfl (take_ofW HT_.out HW_.out (by kernel_rfl)) (fun _ _ _ h => h) (Or.inl ⟨by rfl, ?_⟩) hHeld ?_ ?_
             rotate_left
             ·rintro w' ⟨s0, s1, s2, s3⟩
              go_simp
              with_reducible rfl
             rotate_left
             ·simp only [Act.put, List.setIfInBounds_toArray, List.set_cons_zero, List.set_cons_succ, i64_w, i32_w]
              rfl
             refine one_ (i := 6) (N := some 47) #[true, true, true, true, true, true, true, false] rfl rfl (one_of HT_.out (by kernel_rfl)) (by decide) (fun K hK => ?_)
             refine goes_ Try.func37 (by kernel_rfl) rfl #[.slice (some ad123) l0.length c0, .slice (some ad128) y130.length c123_1, .agg #[.string ((rd_T48 ((rd_T43 l0 a1).f1) x36_1).f0), .string ((rd_T48 ((rd_T43 l0 a1).f1) x36_1).f1)]] (by rfl) rfl rfl (by (try simp only [List.map_toArray, List.map_cons, List.map_nil]); first | done | rfl | (simp only [List.length_drop, List.length_take]; rfl)) ?_
             with_reducible refine (kind_field.calls k1 _ _ l0 _ _ y130 ((rd_T48 ((rd_T43 l0 a1).f1) x36_1).f0) ((rd_T48 ((rd_T43 l0 a1).f1) x36_1).f1) t134 _ ?side1 ?side2 ?side3 ?side4 A32.out).mono ?_
             (case side1 => repeat (first | exact (Kd.C_below HR0.out HB.out) | (with_reducible refine Kd.C_alloc ?_ _) | (with_reducible refine Kd.C_drewN ?_ _) | (with_reducible refine Kd.C_drew ?_)))
             (case side2 => exact HC0.out)
             (case side3 => repeat (first | exact (Kd.C_below HR133.out HB.out) | (with_reducible refine Kd.C_alloc ?_ _) | (with_reducible refine Kd.C_drewN ?_ _) | (with_reducible refine Kd.C_drew ?_)))
             (case side4 => exact HC133.out)
             rintro e w47 ⟨rfl, hb⟩
             refine ⟨_, rfl, ?_⟩
             have n0_ := Aside0.mk (blk_below (g := gb124) (o := .cells #[.string ((rd_T43 l0 a1).f0), .slice (some ad128) ((rd_T43 l0 a1).f1).length c123_1] 43 (0, 0)) (by (with_reducible repeat (first | refine blk_drewN ?_ _ | refine blk_drew ?_ | refine blk_alloc ?_ _)); exact BK124.out) hb)
             have n1_ := Aside0.mk (blk_below (g := gb129) (o := .cells #[.string ((rd_T48 ((rd_T43 l0 a1).f1) x36_1).f0), .string ((rd_T48 ((rd_T43 l0 a1).f1) x36_1).f1)] 48 (0, 0)) (by (with_reducible repeat (first | refine blk_drewN ?_ _ | refine blk_drew ?_ | refine blk_alloc ?_ _)); exact BK129.out) hb)
             have n2_ := Aside0.mk (below_step (by repeat (first | (with_reducible first | exact HB.out | apply below_alloc | apply pw_below_drewN | apply below_drew1 | refine below_set ?_ GE124.out | refine below_set ?_ GE129.out) | exact HB.out)) hb)
             clear BK124
             clear BK129
             clear HB
             have BK124 := n0_
             have BK129 := n1_
             have HB := n2_
             clear n0_ n1_ n2_
             (try clear hb)
             (try clear hb2)
             (try clear hk)
             (try clear hi)
             refine hK.out _ _ ⟨(blk_cell BK124.out 0).trans rfl, (blk_cell BK124.out 1).trans rfl, (blk_cell BK129.out 0).trans rfl, (blk_cell BK129.out 1).trans rfl⟩ (fun hHeld => ?_)
             clear hK K
             refine norm_ (a' := ?_) ?_ ?_
             rotate_left
             ·show Act.put _ (some 47) _ = _
              simp only [Act.put, List.setIfInBounds_toArray, List.set_cons_zero, List.set_cons_succ, i64_w, i32_w]
              rfl
             refine pure_ (i := 7) (N := some 10) (v := ?_) (a' := ?_) #[true, true, true, true, true, true, true, true] rfl rfl (any_of HT_.out (by kernel_rfl)) (fun _ _ _ h => h) (Or.inl ⟨by rfl, ?_⟩) ?_ ?_
             rotate_left
             ·intro w'
              go_simp
              with_reducible rfl
             rotate_left
             ·simp only [Act.put, List.setIfInBounds_toArray, List.set_cons_zero, List.set_cons_succ, i64_w, i32_w]
              rfl
             refine done_ (done_of HT_.out (by kernel_rfl)) ?_
             try go_wp2
             go_ret
             exact ⟨by first | rfl | (simp [errW_none, errW_some] <;> rfl) | (simp [*, errW_none, errW_some] <;> rfl), by repeat (first | (with_reducible first | exact HB.out | apply below_alloc | apply pw_below_drewN | apply below_drew1 | refine below_set ?_ GE124.out | refine below_set ?_ GE129.out) | exact HB.out)⟩
           ·rw [if_neg c31] at H
            exact absurd H (by simp)
          ·rw [if_neg c29] at H
           exact absurd H (by simp)
         ·rw [if_neg c28] at H
          exact absurd H (by simp)
        ·rw [if_neg c27] at H
         have c27b0 : decide (x36_1 < (((rd_T43 l0 a1).f1).length : Int)) = false := decide_eq_false c27
         clear c27
         obtain rfl := Option.some.inj H
         go_wp2
         go_ret
         exact ⟨by first | rfl | (simp [errW_none, errW_some] <;> rfl) | (simp [*, errW_none, errW_some] <;> rfl), by repeat (first | (with_reducible first | exact HB.out | apply below_alloc | apply pw_below_drewN | apply below_drew1 | refine below_set ?_ GE124.out) | exact HB.out)⟩
   ·replace c6 := Bool.eq_false_iff.mpr c6
    subst c6
    have H1 : (some 1) = some r := by rw [if_neg (show ¬ (false = true) by decide)] at H; exact H
    clear H
    have H := H1
    clear H1
    obtain rfl := Option.some.inj H
    have p123 : 0 ≤ (a1 : Int) := of_decide_eq_true (by first | (with_reducible assumption) | assumption)
    have q123 : a1 < (l0.length : Int) := of_decide_eq_true (by first | (with_reducible assumption) | assumption)
    obtain ⟨ad123, A123_1, c123_1, e123, hx123_0, hx123_1, hl123_1, hi123_1⟩ := at_T43 HR0.out a1 p123 q123
    cases e123
    have HR123_1 := Aside0.mk hi123_1
    have HC123_1 := Aside0.mk hl123_1
    clear hi123_1 hl123_1
    replace p123 := eq_true p123
    replace q123 := eq_true q123
    go_enter Try.func26, Try.ntmps26
    go_wp2_with (first | ((with_reducible refine gate_dst (N := 5) rfl ?_); refine box_event ?hg (N := 5) ?hd (cs := #[.string (⟨#[]⟩ : ByteArray), .slice none 0 0]) (t := 43) ?hr ?_; (case hd => rfl); (case hg => rfl); (case hr => first | (go_simp; done) | (go_simp; rfl)); intro gb124 hg w48 hbox hb; have n0_ := Aside0.mk (below_step (by repeat (first | (with_reducible first | exact HB.out | apply below_alloc | apply pw_below_drewN | apply below_drew1) | exact HB.out)) hb); have n1_ := Aside0.mk (hbox); have n2_ := Aside0.mk ((by rw [hg]; exact (below_size (by repeat (first | (with_reducible first | exact HB.out | apply below_alloc | apply pw_below_drewN | apply below_drew1) | exact HB.out))) : w.heap.size ≤ gb124)); have n3_ := Aside0.mk ((by rw [hg]; exact (below_size (by repeat (first | (with_reducible first | exact HB.out | apply below_alloc | apply pw_below_drewN | apply below_drew1) | exact HB.out))) : w.heap.size ≤ gb124)); clear HB; have HB := n0_; have BK124 := n1_; have GW124 := n2_; have GE124 := n3_; clear n0_ n1_ n2_ n3_; clear hb hbox hg; have hcz49_0 : w48.cell? ⟨gb124, 0, none⟩ = some (.string (⟨#[]⟩ : ByteArray)) := (blk_cell BK124.out 0).trans rfl; have hcz49_1 : w48.cell? ⟨gb124, 1, none⟩ = some (.slice none 0 0) := (blk_cell BK124.out 1).trans rfl; have hfz49_0 := blk_frozen BK124.out 0; have hfz49_1 := blk_frozen BK124.out 1) | ((with_reducible refine gate_callee (f := 29) rfl ?_); refine goesL_ (some 17) rfl rfl Try.func29 (by kernel_rfl) rfl #[.string ((rd_T43 l0 a1).f0)] rfl (by (try simp only [List.map_toArray, List.map_cons, List.map_nil]); first | done | rfl | (simp only [List.length_drop, List.length_take]; rfl)) ?_; (with_reducible refine (lex_IsWord.calls k ((rd_T43 l0 a1).f0) false _ A5.out).mono ?_); rintro e w50 ⟨rfl, hb⟩; refine ⟨_, rfl, ?_⟩; have n0_ := Aside0.mk (blk_below (g := gb124) (o := .cells #[.string ((rd_T43 l0 a1).f0), .slice A123_1 ((rd_T43 l0 a1).f1).length c123_1] 43 (0, 0)) (by (with_reducible repeat (first | refine blk_drewN ?_ _ | refine blk_drew ?_ | refine blk_alloc ?_ _)); refine blk_put (cs := #[.string ((rd_T43 l0 a1).f0), .slice none 0 0]) ?_ 1 _ rfl; (with_reducible repeat (first | refine blk_drewN ?_ _ | refine blk_drew ?_ | refine blk_alloc ?_ _)); refine blk_put (cs := #[.string (⟨#[]⟩ : ByteArray), .slice none 0 0]) ?_ 0 _ rfl; (with_reducible repeat (first | refine blk_drewN ?_ _ | refine blk_drew ?_ | refine blk_alloc ?_ _)); exact BK124.out) hb); have n1_ := Aside0.mk (below_step (by repeat (first | (with_reducible first | exact HB.out | apply below_alloc | apply pw_below_drewN | apply below_drew1 | refine below_set ?_ GE124.out) | exact HB.out)) hb); clear BK124; clear HB; have BK124 := n0_; have HB := n1_; clear n0_ n1_; (try clear hb); (try clear hb2); (try clear hk); (try clear hi)))
    go_ret
    exact ⟨by first | rfl | (simp [errW_none, errW_some] <;> rfl) | (simp [*, errW_none, errW_some] <;> rfl), by repeat (first | (with_reducible first | exact HB.out | apply below_alloc | apply pw_below_drewN | apply below_drew1 | refine below_set ?_ GE124.out) | exact HB.out)⟩
  ·rw [if_neg c4] at H
   exact absurd H (by simp)
 ·rw [if_neg c3] at H
  exact absurd H (by simp)

end Go.Proofs.Ythpglaekdadehaa.Q

namespace Go.Proofs.Ythpglaekdadehaa.Q
open Go.RowKit Go.Proofs.YthpglaekdadehaaW.PrintWords Go.Proofs.YthpglaekdadehaaW.PrintLast Go.Proofs.YthpglaekdadehaaW.PrintMore
attribute [local go_sem] max2_int min2_int max_two min_two max_three min_three max_four min_four   -- for this text's walks alone
set_option linter.unusedVariables false
set_option linter.unusedSimpArgs false

/-! ### kind_Check: function 9 -/
def kind_Check.l0 : Nat → List (S43) → Int → Int → Option (Int × Int)
 | 0, _, _, _ => none
 | k + 1, x0, x10, x11 => if x11 < x10 then ((kind_one.f k x0 x11).bind fun t135 => (if t135 = 0 then (kind_Check.l0 k x0 x10 (wrap64 (x11 + 1))) else (some (x11, t135)))) else (some (0, 0))
def kind_Check.f (k : Nat) (l0 : List (S43)) : Option (Int × Int) := if (l0.length : Int) > 12 then (some (0, 4)) else (kind_Check.l0 k l0 (l0.length : Int) 0)
theorem kind_Check.mono_l : ∀ k, (∀ y0 y1 y2, LeO (kind_Check.l0 k y0 y1 y2) (kind_Check.l0 (k + 1) y0 y1 y2))
 | 0 => fun _ _ _ r h => by simp [kind_Check.l0] at h
 | k + 1 => by
  have ih0 := kind_Check.mono_l k
  ·intro y0 y1 y2
   unfold kind_Check.l0
   repeat' first
   | (with_reducible exact ih0 _ _ _)
   | (with_reducible exact kind_one.mono _ _ _)
   | (with_reducible exact LeO.refl _)
   | (with_reducible exact LeO.none _)
   | (with_reducible refine LeO.ite ?_ ?_)
   | (with_reducible refine LeO.bind ?_ (fun _ => ?_))
   | exact ih0 _ _ _
   | exact kind_one.mono _ _ _
   | exact LeO.none _
   | refine LeO.ite ?_ ?_
   | refine LeO.bind ?_ (fun _ => ?_)
theorem kind_Check.mono : ∀ a0 k, LeO (kind_Check.f k a0) (kind_Check.f (k + 1) a0) := by
 intro a0 k
 have ih0 := kind_Check.mono_l k
 unfold kind_Check.f
 repeat' first
   | (with_reducible exact ih0 _ _ _)
   | (with_reducible exact kind_one.mono _ _ _)
   | (with_reducible exact LeO.refl _)
   | (with_reducible exact LeO.none _)
   | (with_reducible refine LeO.ite ?_ ?_)
   | (with_reducible refine LeO.bind ?_ (fun _ => ?_))
   | exact ih0 _ _ _
   | exact kind_one.mono _ _ _
   | exact LeO.none _
   | refine LeO.ite ?_ ?_
   | refine LeO.bind ?_ (fun _ => ?_)
set_option maxHeartbeats 8000000 in
set_option maxRecDepth 100000 in
theorem kind_Check.calls (k : Nat) (A0 : Option Addr) (c0 : Nat) (l0 : List (S43)) (r1 : Int) (r2 : Int) (w : World) (hr0 : Kd.C k43 w A0 l0.length l0) (hc0 : l0.length ≤ c0) (h : kind_Check.f k l0 = some (r1, r2)) :
  Calls Try.prog 9 #[.slice A0 l0.length c0] w fun e w' => e = .returned (.tuple #[.int .i64 r1, .int .i64 r2]) ∧ Below w.heap.size w w' := by
 have HR0 := Aside0.mk hr0
 have HC0 := Aside0.mk hc0
 clear hr0 hc0
 have HB := Aside0.mk (Below.refl w.heap.size w)
 have H : (if (l0.length : Int) > 12 then (some (0, 4)) else (kind_Check.l0 k l0 (l0.length : Int) 0)) = some (r1, r2) := h
 clear h
 by_cases c2 : (l0.length : Int) > 12
 ·rw [if_pos c2] at H
  have c2b0 : decide (12 < (l0.length : Int)) = true := decide_eq_true c2
  have c2b1 : decide (12 < l0.length) = true := decide_eq_true (by omega)
  clear c2
  simp only [Option.some.injEq, Prod.mk.injEq] at H
  obtain ⟨rfl, rfl⟩ := H
  go_enter Try.func9, Try.ntmps9
  go_wp2
  go_ret2
  exact ⟨by first | rfl | (simp [errW_none, errW_some] <;> rfl) | (simp [*, errW_none, errW_some] <;> rfl), by repeat (first | (with_reducible first | exact HB.out | apply below_alloc | apply pw_below_drewN | apply below_drew1) | exact HB.out)⟩
 ·rw [if_neg c2] at H
  have c2b0 : decide (12 < (l0.length : Int)) = false := decide_eq_false c2
  have c2b1 : decide (12 < l0.length) = false := decide_eq_false (by omega)
  clear c2
  have H' := Aside0.mk H
  clear H
  go_enter Try.func9, Try.ntmps9
  go_wp2
  go_loopg [11] k (fun kq v11 w' => ∃ (x11_1 : Int), v11 = .int .i64 x11_1 ∧ Aside0 (kind_Check.l0 kq l0 (l0.length : Int) x11_1 = some (r1, r2)) ∧ Aside0 (kq ≤ k) ∧ Aside0 (Below w.heap.size w w'))
  case atStart => exact ⟨(0), (by first | rfl | (simp; done) | (simp [*]; done)), H', ⟨Nat.le_refl _⟩, ⟨by repeat (first | (with_reducible first | exact HB.out | apply below_alloc | apply pw_below_drewN | apply below_drew1) | exact HB.out)⟩⟩
  case round =>
   clear H'
   try clear c2
   try clear c2b0
   try clear c2b1
   try clear p2
   obtain ⟨x11_1, rfl, HA, HK1, HB⟩ := hrel
   cases gk with
   | zero => exact absurd HA.out (by simp [kind_Check.l0])
   | succ k1 =>
    have H := HA.out
    clear HA
    simp only [kind_Check.l0] at H
    by_cases c3 : x11_1 < (l0.length : Int)
    ·rw [if_pos c3] at H
     have c3b0 : decide (x11_1 < (l0.length : Int)) = true := decide_eq_true c3
     clear c3
     replace H := Option.bind_eq_some_iff.mp H
     obtain ⟨t135, A40, H⟩ := H
     replace H : (if t135 = 0 then (kind_Check.l0 k1 l0 (l0.length : Int) (wrap64 (x11_1 + 1))) else (some (x11_1, t135))) = some (r1, r2) := H
     have A4 := Aside0.mk A40
     clear A40
     by_cases c5 : t135 = 0
     ·rw [if_pos c5] at H
      have c5b0 : (t135 == 0) = true := beq_iff_eq.mpr c5
      have c5b1 : (t135 != 0) = false := bne_eq_false_iff_eq.mpr c5
      clear c5
      have H' := Aside0.mk H
      clear H
      go_wp2_with (first | ((with_reducible refine gate_callee (f := 26) rfl ?_); refine goesL_ (some 16) rfl rfl Try.func26 (by kernel_rfl) rfl #[.slice A0 l0.length c0, .int .i64 x11_1] rfl (by (try simp only [List.map_toArray, List.map_cons, List.map_nil]); first | done | rfl | (simp only [List.length_drop, List.length_take]; rfl)) ?_; (with_reducible refine (kind_one.calls k1 _ _ l0 x11_1 t135 _ ?side1 ?side2 A4.out).mono ?_); (case side1 => repeat (first | exact (Kd.C_below HR0.out HB.out) | (with_reducible refine Kd.C_alloc ?_ _) | (with_reducible refine Kd.C_drewN ?_ _) | (with_reducible refine Kd.C_drew ?_))); (case side2 => exact HC0.out); rintro e w6 ⟨rfl, hb⟩; refine ⟨_, rfl, ?_⟩; have n0_ := Aside0.mk (below_step (by repeat (first | (with_reducible first | exact HB.out | apply below_alloc | apply pw_below_drewN | apply below_drew1) | exact HB.out)) hb); clear HB; have HB := n0_; clear n0_; (try clear hb); (try clear hb2); (try clear hk); (try clear hi)))
      go_roundg k1
      case measure => have := HK1.out; omega
      case rel => exact ⟨(wrap64 (x11_1 + 1)), (by first | rfl | (simp; done) | (simp [*]; done)), H', ⟨by have := HK1.out; omega⟩, ⟨by repeat (first | (with_reducible first | exact HB.out | apply below_alloc | apply pw_below_drewN | apply below_drew1) | exact HB.out)⟩⟩
     ·rw [if_neg c5] at H
      have c5b0 : (t135 == 0) = false := beq_eq_false_iff_ne.mpr c5
      have c5b1 : (t135 != 0) = true := bne_iff_ne.mpr c5
      simp only [Option.some.injEq, Prod.mk.injEq] at H
      obtain ⟨rfl, rfl⟩ := H
      go_wp2_with (first | ((with_reducible refine gate_callee (f := 26) rfl ?_); refine goesL_ (some 16) rfl rfl Try.func26 (by kernel_rfl) rfl #[.slice A0 l0.length c0, .int .i64 x11_1] rfl (by (try simp only [List.map_toArray, List.map_cons, List.map_nil]); first | done | rfl | (simp only [List.length_drop, List.length_take]; rfl)) ?_; (with_reducible refine (kind_one.calls k1 _ _ l0 x11_1 t135 _ ?side1 ?side2 A4.out).mono ?_); (case side1 => repeat (first | exact (Kd.C_below HR0.out HB.out) | (with_reducible refine Kd.C_alloc ?_ _) | (with_reducible refine Kd.C_drewN ?_ _) | (with_reducible refine Kd.C_drew ?_))); (case side2 => exact HC0.out); rintro e w7 ⟨rfl, hb⟩; refine ⟨_, rfl, ?_⟩; have n0_ := Aside0.mk (below_step (by repeat (first | (with_reducible first | exact HB.out | apply below_alloc | apply pw_below_drewN | apply below_drew1) | exact HB.out)) hb); clear HB; have HB := n0_; clear n0_; (try clear hb); (try clear hb2); (try clear hk); (try clear hi)))
      go_ret2
      exact ⟨by first | rfl | (simp [errW_none, errW_some] <;> rfl) | (simp [*, errW_none, errW_some] <;> rfl), by repeat (first | (with_reducible first | exact HB.out | apply below_alloc | apply pw_below_drewN | apply below_drew1) | exact HB.out)⟩
    ·rw [if_neg c3] at H
     have c3b0 : decide (x11_1 < (l0.length : Int)) = false := decide_eq_false c3
     clear c3
     simp only [Option.some.injEq, Prod.mk.injEq] at H
     obtain ⟨rfl, rfl⟩ := H
     go_wp2
     go_ret2
     exact ⟨by first | rfl | (simp [errW_none, errW_some] <;> rfl) | (simp [*, errW_none, errW_some] <;> rfl), by repeat (first | (with_reducible first | exact HB.out | apply below_alloc | apply pw_below_drewN | apply below_drew1) | exact HB.out)⟩

end Go.Proofs.Ythpglaekdadehaa.Q

namespace Go.Proofs.Ythpglaekdadehaa.Q
open Go.RowKit Go.Proofs.YthpglaekdadehaaW.PrintWords Go.Proofs.YthpglaekdadehaaW.PrintLast Go.Proofs.YthpglaekdadehaaW.PrintMore
attribute [local go_sem] max2_int min2_int max_two min_two max_three min_three max_four min_four   -- for this text's walks alone
set_option linter.unusedVariables false
set_option linter.unusedSimpArgs false

/-! ### kind_Elem: function 11 -/
def kind_Elem.f (k : Nat) (a0 : ByteArray) : Option (ByteArray × Bool) := (strings_CutPrefix.f a0 (⟨#[42]⟩ : ByteArray)).bind fun bt136 => (if bt136.2 = true then ((lex_IsWord.f k bt136.1).bind fun t138 => (if t138 = true then (some (bt136.1, true)) else (some ((⟨#[]⟩ : ByteArray), false)))) else (some ((⟨#[]⟩ : ByteArray), false)))
theorem kind_Elem.mono : ∀ a0 k, LeO (kind_Elem.f k a0) (kind_Elem.f (k + 1) a0) := by
 intro a0 k
 unfold kind_Elem.f
 repeat' first
   | (with_reducible exact lex_IsWord.mono _ _)
   | (with_reducible exact LeO.refl _)
   | (with_reducible exact LeO.none _)
   | (with_reducible refine LeO.ite ?_ ?_)
   | (with_reducible refine LeO.bind ?_ (fun _ => ?_))
   | exact lex_IsWord.mono _ _
   | exact LeO.none _
   | refine LeO.ite ?_ ?_
   | refine LeO.bind ?_ (fun _ => ?_)
set_option maxHeartbeats 8000000 in
set_option maxRecDepth 100000 in
theorem kind_Elem.calls (k : Nat) (a0 : ByteArray) (r1 : ByteArray) (r2 : Bool) (w : World) (h : kind_Elem.f k a0 = some (r1, r2)) :
  Calls Try.prog 11 #[.string a0] w fun e w' => e = .returned (.tuple #[.string r1, .bool r2]) ∧ Below w.heap.size w w' := by
 have HB := Aside0.mk (Below.refl w.heap.size w)
 have H : ((strings_CutPrefix.f a0 (⟨#[42]⟩ : ByteArray)).bind fun bt136 => (if bt136.2 = true then ((lex_IsWord.f k bt136.1).bind fun t138 => (if t138 = true then (some (bt136.1, true)) else (some ((⟨#[]⟩ : ByteArray), false)))) else (some ((⟨#[]⟩ : ByteArray), false)))) = some (r1, r2) := h
 clear h
 replace H := Option.bind_eq_some_iff.mp H
 obtain ⟨⟨t136, t137⟩, A20, H⟩ := H
 replace H : (if t137 = true then ((lex_IsWord.f k t136).bind fun t138 => (if t138 = true then (some (t136, true)) else (some ((⟨#[]⟩ : ByteArray), false)))) else (some ((⟨#[]⟩ : ByteArray), false))) = some (r1, r2) := H
 have A2 := Aside0.mk A20
 clear A20
 by_cases c3 : t137 = true
 ·subst c3
  have H1 : ((lex_IsWord.f k t136).bind fun t138 => (if t138 = true then (some (t136, true)) else (some ((⟨#[]⟩ : ByteArray), false)))) = some (r1, r2) := by rw [if_pos rfl] at H; exact H
  clear H
  have H := H1
  clear H1
  replace H := Option.bind_eq_some_iff.mp H
  obtain ⟨t138, A40, H⟩ := H
  replace H : (if t138 = true then (some (t136, true)) else (some ((⟨#[]⟩ : ByteArray), false))) = some (r1, r2) := H
  have A4 := Aside0.mk A40
  clear A40
  by_cases c5 : t138 = true
  ·subst c5
   have H1 : (some (t136, true)) = some (r1, r2) := by rw [if_pos rfl] at H; exact H
   clear H
   have H := H1
   clear H1
   simp only [Option.some.injEq, Prod.mk.injEq] at H
   obtain ⟨rfl, rfl⟩ := H
   go_enter Try.func11, Try.ntmps11
   go_wp2_with (first | ((with_reducible refine gate_callee (f := 28) rfl ?_); refine goesL_ (some 8) rfl rfl Try.func28 (by kernel_rfl) rfl #[.string a0, .string (⟨#[42]⟩ : ByteArray)] rfl (by (try simp only [List.map_toArray, List.map_cons, List.map_nil]); first | done | rfl | (simp only [List.length_drop, List.length_take]; rfl)) ?_; (with_reducible refine (strings_CutPrefix.calls a0 (⟨#[42]⟩ : ByteArray) t136 true _ A2.out).mono ?_); rintro e w' ⟨rfl, ⟨nd, rfl⟩⟩; refine ⟨_, rfl, ?_⟩) | (go_at_call 29; (with_reducible refine (lex_IsWord.calls k t136 true _ A4.out).mono ?_); rintro e w6 ⟨rfl, hb⟩; have n0_ := Aside0.mk (below_step (by repeat (first | (with_reducible first | exact HB.out | apply below_alloc | apply pw_below_drewN | apply below_drew1) | exact HB.out)) hb); clear HB; have HB := n0_; clear n0_; (try clear hb); (try clear hb2); (try clear hk); (try clear hi)))
   go_ret2
   exact ⟨by first | rfl | (simp [errW_none, errW_some] <;> rfl) | (simp [*, errW_none, errW_some] <;> rfl), by repeat (first | (with_reducible first | exact HB.out | apply below_alloc | apply pw_below_drewN | apply below_drew1) | exact HB.out)⟩
  ·replace c5 := Bool.eq_false_iff.mpr c5
   subst c5
   have H1 : (some ((⟨#[]⟩ : ByteArray), false)) = some (r1, r2) := by rw [if_neg (show ¬ (false = true) by decide)] at H; exact H
   clear H
   have H := H1
   clear H1
   simp only [Option.some.injEq, Prod.mk.injEq] at H
   obtain ⟨rfl, rfl⟩ := H
   go_enter Try.func11, Try.ntmps11
   go_wp2_with (first | ((with_reducible refine gate_callee (f := 28) rfl ?_); refine goesL_ (some 8) rfl rfl Try.func28 (by kernel_rfl) rfl #[.string a0, .string (⟨#[42]⟩ : ByteArray)] rfl (by (try simp only [List.map_toArray, List.map_cons, List.map_nil]); first | done | rfl | (simp only [List.length_drop, List.length_take]; rfl)) ?_; (with_reducible refine (strings_CutPrefix.calls a0 (⟨#[42]⟩ : ByteArray) t136 true _ A2.out).mono ?_); rintro e w' ⟨rfl, ⟨nd, rfl⟩⟩; refine ⟨_, rfl, ?_⟩) | (go_at_call 29; (with_reducible refine (lex_IsWord.calls k t136 false _ A4.out).mono ?_); rintro e w7 ⟨rfl, hb⟩; have n0_ := Aside0.mk (below_step (by repeat (first | (with_reducible first | exact HB.out | apply below_alloc | apply pw_below_drewN | apply below_drew1) | exact HB.out)) hb); clear HB; have HB := n0_; clear n0_; (try clear hb); (try clear hb2); (try clear hk); (try clear hi)))
   go_ret2
   exact ⟨by first | rfl | (simp [errW_none, errW_some] <;> rfl) | (simp [*, errW_none, errW_some] <;> rfl), by repeat (first | (with_reducible first | exact HB.out | apply below_alloc | apply pw_below_drewN | apply below_drew1) | exact HB.out)⟩
 ·replace c3 := Bool.eq_false_iff.mpr c3
  subst c3
  have H1 : (some ((⟨#[]⟩ : ByteArray), false)) = some (r1, r2) := by rw [if_neg (show ¬ (false = true) by decide)] at H; exact H
  clear H
  have H := H1
  clear H1
  simp only [Option.some.injEq, Prod.mk.injEq] at H
  obtain ⟨rfl, rfl⟩ := H
  go_enter Try.func11, Try.ntmps11
  go_wp2_with (first | ((with_reducible refine gate_callee (f := 28) rfl ?_); refine goesL_ (some 8) rfl rfl Try.func28 (by kernel_rfl) rfl #[.string a0, .string (⟨#[42]⟩ : ByteArray)] rfl (by (try simp only [List.map_toArray, List.map_cons, List.map_nil]); first | done | rfl | (simp only [List.length_drop, List.length_take]; rfl)) ?_; (with_reducible refine (strings_CutPrefix.calls a0 (⟨#[42]⟩ : ByteArray) t136 false _ A2.out).mono ?_); rintro e w' ⟨rfl, ⟨nd, rfl⟩⟩; refine ⟨_, rfl, ?_⟩))
  go_ret2
  exact ⟨by first | rfl | (simp [errW_none, errW_some] <;> rfl) | (simp [*, errW_none, errW_some] <;> rfl), by repeat (first | (with_reducible first | exact HB.out | apply below_alloc | apply pw_below_drewN | apply below_drew1) | exact HB.out)⟩

end Go.Proofs.Ythpglaekdadehaa.Q

namespace Go.Proofs.Ythpglaekdadehaa.Q
open Go.RowKit Go.Proofs.YthpglaekdadehaaW.PrintWords Go.Proofs.YthpglaekdadehaaW.PrintLast Go.Proofs.YthpglaekdadehaaW.PrintMore
attribute [local go_sem] max2_int min2_int max_two min_two max_three min_three max_four min_four   -- for this text's walks alone
set_option linter.unusedVariables false
set_option linter.unusedSimpArgs false

/-! ### kind_Pointer: function 17 -/
def kind_Pointer.f (a0 : ByteArray) : Option (ByteArray) := if 1 + a0.size ≤ 9223372036854775807 then (some ((⟨#[42]⟩ : ByteArray) ++ a0)) else (none)
set_option maxHeartbeats 8000000 in
set_option maxRecDepth 100000 in
theorem kind_Pointer.calls (a0 : ByteArray) (r : ByteArray) (w : World) (h : kind_Pointer.f a0 = some r) :
  Calls Try.prog 17 #[.string a0] w fun e w' => e = .returned (.string r) ∧ Drawn0 w w' := by
 have H : (if 1 + a0.size ≤ 9223372036854775807 then (some ((⟨#[42]⟩ : ByteArray) ++ a0)) else (none)) = some r := h
 clear h
 by_cases c2 : 1 + a0.size ≤ 9223372036854775807
 ·rw [if_pos c2] at H
  have c2b0 := eq_true c2
  have c2b1 : decide (1 + a0.size ≤ 9223372036854775807) = true := decide_eq_true c2
  try have c2b2 : (9223372036854775807 < 1 + a0.size) = False := eq_false (Nat.not_lt.2 c2)
  obtain rfl := Option.some.inj H
  go_enter Try.func17, Try.ntmps17
  go_wp2
  go_ret
  exact ⟨by first | rfl | (simp; done) | (simp [*]; done), by repeat (first | exact Drawn0.refl _ | apply Drawn0.step)⟩
 ·rw [if_neg c2] at H
  exact absurd H (by simp)

end Go.Proofs.Ythpglaekdadehaa.Q

namespace Go.Proofs.Ythpglaekdadehaa.Q
open Go.RowKit Go.Proofs.YthpglaekdadehaaW.PrintWords Go.Proofs.YthpglaekdadehaaW.PrintLast Go.Proofs.YthpglaekdadehaaW.PrintMore
attribute [local go_sem] max2_int min2_int max_two min_two max_three min_three max_four min_four   -- for this text's walks alone
set_option linter.unusedVariables false
set_option linter.unusedSimpArgs false

/-! ### kind_Links: function 20 -/
def kind_Links.l0 : Nat → List Int → List (S48) → Int → Int → Option (List Int)
 | 0, _, _, _, _ => none
 | k + 1, x3, x9, x10, x11 => if x11 < x10 then (if 0 ≤ x11 then (if x11 < (x9.length : Int) then ((kind_Elem.f k ((rd_T48 x9 x11).f1)).bind fun bt142 => (if bt142.2 = true then (if x3.length < 17592186044416 then (kind_Links.l0 k (x3 ++ [x11]) x9 x10 (wrap64 (x11 + 1))) else (none)) else (kind_Links.l0 k x3 x9 x10 (wrap64 (x11 + 1))))) else (none)) else (none)) else (some x3)
def kind_Links.f (k : Nat) (a0_0 : ByteArray) (l0_1 : List (S48)) : Option (List Int) := kind_Links.l0 k ([] : List Int) l0_1 (l0_1.length : Int) 0
theorem kind_Links.mono_l : ∀ k, (∀ y0 y1 y2 y3, LeO (kind_Links.l0 k y0 y1 y2 y3) (kind_Links.l0 (k + 1) y0 y1 y2 y3))
 | 0 => fun _ _ _ _ r h => by simp [kind_Links.l0] at h
 | k + 1 => by
  have ih0 := kind_Links.mono_l k
  ·intro y0 y1 y2 y3
   unfold kind_Links.l0
   repeat' first
   | (with_reducible exact ih0 _ _ _ _)
   | (with_reducible exact kind_Elem.mono _ _)
   | (with_reducible exact LeO.refl _)
   | (with_reducible exact LeO.none _)
   | (with_reducible refine LeO.ite ?_ ?_)
   | (with_reducible refine LeO.bind ?_ (fun _ => ?_))
   | exact ih0 _ _ _ _
   | exact kind_Elem.mono _ _
   | exact LeO.none _
   | refine LeO.ite ?_ ?_
   | refine LeO.bind ?_ (fun _ => ?_)
theorem kind_Links.mono : ∀ a0 a1 k, LeO (kind_Links.f k a0 a1) (kind_Links.f (k + 1) a0 a1) := by
 intro a0 a1 k
 have ih0 := kind_Links.mono_l k
 unfold kind_Links.f
 repeat' first
   | (with_reducible exact ih0 _ _ _ _)
   | (with_reducible exact kind_Elem.mono _ _)
   | (with_reducible exact LeO.refl _)
   | (with_reducible exact LeO.none _)
   | (with_reducible refine LeO.ite ?_ ?_)
   | (with_reducible refine LeO.bind ?_ (fun _ => ?_))
   | exact ih0 _ _ _ _
   | exact kind_Elem.mono _ _
   | exact LeO.none _
   | refine LeO.ite ?_ ?_
   | refine LeO.bind ?_ (fun _ => ?_)
set_option maxHeartbeats 8000000 in
set_option maxRecDepth 100000 in
theorem kind_Links.calls (k : Nat) (a0_0 : ByteArray) (A0_1 : Option Addr) (c0_1 : Nat) (l0_1 : List (S48)) (r : List Int) (w : World) (hr0_1 : Kd.C k48 w A0_1 l0_1.length l0_1) (hc0_1 : l0_1.length ≤ c0_1) (h : kind_Links.f k a0_0 l0_1 = some r) :
  Calls Try.prog 20 #[.agg #[.string a0_0, .slice A0_1 l0_1.length c0_1]] w fun e w' => ∃ v0_ : Value, e = .returned (v0_) ∧ Kd.R (Kd.int .i64) 3 w' w.heap.size (fun _ => True) v0_ r ∧ Below w.heap.size w w' := by
 have hu43 := Try.underlying43
 have hu48 := Try.underlying48
 have HR0_1 := Aside0.mk hr0_1
 have HC0_1 := Aside0.mk hc0_1
 clear hr0_1 hc0_1
 have HB := Aside0.mk (Below.refl w.heap.size w)
 have H : (kind_Links.l0 k ([] : List Int) l0_1 (l0_1.length : Int) 0) = some r := h
 clear h
 have H' := Aside0.mk H
 clear H
 go_enter Try.func20, Try.ntmps20
 go_wp2_with (first | ((with_reducible refine gate_dst (N := 1) rfl ?_); refine box_event ?hg (N := 1) ?hd (cs := #[.string a0_0, .slice A0_1 l0_1.length c0_1]) (t := 43) ?hr ?_; (case hd => rfl); (case hg => rfl); (case hr => first | (go_simp; done) | (go_simp; rfl)); intro gb139 hg w2 hbox hb; have n0_ := Aside0.mk (below_step (by repeat (first | (with_reducible first | exact HB.out | apply below_alloc | apply pw_below_drewN | apply below_drew1) | exact HB.out)) hb); have n1_ := Aside0.mk (hbox); have n2_ := Aside0.mk ((by rw [hg]; exact (below_size (by repeat (first | (with_reducible first | exact HB.out | apply below_alloc | apply pw_below_drewN | apply below_drew1) | exact HB.out))) : w.heap.size ≤ gb139)); have n3_ := Aside0.mk ((by rw [hg]; exact (below_size (by repeat (first | (with_reducible first | exact HB.out | apply below_alloc | apply pw_below_drewN | apply below_drew1) | exact HB.out))) : w.heap.size ≤ gb139)); clear HB; have HB := n0_; have BK139 := n1_; have GW139 := n2_; have GE139 := n3_; clear n0_ n1_ n2_ n3_; clear hb hbox hg; have hcz3_0 : w2.cell? ⟨gb139, 0, none⟩ = some (.string a0_0) := (blk_cell BK139.out 0).trans rfl; have hcz3_1 : w2.cell? ⟨gb139, 1, none⟩ = some (.slice A0_1 l0_1.length c0_1) := (blk_cell BK139.out 1).trans rfl; have hfz3_0 := blk_frozen BK139.out 0; have hfz3_1 := blk_frozen BK139.out 1))
 go_loopg [3, 11] k (fun kq v3 v11 w' => ∃ (x3_1 : List Int) (x11_1 : Int), v11 = .int .i64 x11_1 ∧ Aside0 (kind_Links.l0 kq x3_1 l0_1 (l0_1.length : Int) x11_1 = some r) ∧ Aside0 (kq ≤ k) ∧ Aside0 (Kd.R (Kd.int .i64) 3 w' w.heap.size (fun _ => True) v3 x3_1) ∧ Aside0 (w'.heap[gb139]? = some (.cells #[.string a0_0, (.slice A0_1 l0_1.length c0_1)] 43 (0, 0))) ∧ Aside0 (Below w.heap.size w w'))
 case atStart => exact ⟨(([] : List Int)), (0), (by first | rfl | (simp; done) | (simp [*]; done)), H', ⟨Nat.le_refl _⟩, ⟨by first | exact Kd.R_nil _ _ _ _ _ | exact Kd.N_nil _ _ _ _ _ | exact Kd.V_nil _ _ _ _ _ | exact Kd.Q_nil _ _ _ _ _ | exact Kd.S_nil _ _ _ _ _⟩, ⟨by (with_reducible repeat (first | refine blk_drewN ?_ _ | refine blk_drew ?_ | refine blk_alloc ?_ _)); exact BK139.out⟩, ⟨by repeat (first | (with_reducible first | exact HB.out | apply below_alloc | apply pw_below_drewN | apply below_drew1 | refine below_set ?_ GE139.out) | exact HB.out)⟩⟩
 case round =>
  clear H'
  try clear c2
  try clear p2
  try clear hcz3_0
  try clear hcz3_1
  try clear hfz3_0
  try clear hfz3_1
  obtain ⟨x3_1, x11_1, rfl, HA, HK1, HO_3, BK139, HB⟩ := hrel
  cases gk with
  | zero => exact absurd HA.out (by simp [kind_Links.l0])
  | succ k1 =>
   have H := HA.out
   clear HA
   simp only [kind_Links.l0] at H
   by_cases c4 : x11_1 < (l0_1.length : Int)
   ·rw [if_pos c4] at H
    have c4b0 : decide (x11_1 < (l0_1.length : Int)) = true := decide_eq_true c4
    clear c4
    by_cases c5 : 0 ≤ x11_1
    ·rw [if_pos c5] at H
     have c5b0 : decide (0 ≤ x11_1) = true := decide_eq_true c5
     clear c5
     by_cases c6 : x11_1 < (l0_1.length : Int)
     ·rw [if_pos c6] at H
      have c6b0 : decide (x11_1 < (l0_1.length : Int)) = true := decide_eq_true c6
      clear c6
      replace H := Option.bind_eq_some_iff.mp H
      obtain ⟨⟨t142, t143⟩, A70, H⟩ := H
      replace H : (if t143 = true then (if x3_1.length < 17592186044416 then (kind_Links.l0 k1 (x3_1 ++ [x11_1]) l0_1 (l0_1.length : Int) (wrap64 (x11_1 + 1))) else (none)) else (kind_Links.l0 k1 x3_1 l0_1 (l0_1.length : Int) (wrap64 (x11_1 + 1)))) = some r := H
      have A7 := Aside0.mk A70
      clear A70
      by_cases c8 : t143 = true
      ·subst c8
       have H1 : (if x3_1.length < 17592186044416 then (kind_Links.l0 k1 (x3_1 ++ [x11_1]) l0_1 (l0_1.length : Int) (wrap64 (x11_1 + 1))) else (none)) = some r := by rw [if_pos rfl] at H; exact H
       clear H
       have H := H1
       clear H1
       by_cases c9 : x3_1.length < 17592186044416
       ·rw [if_pos c9] at H
        have LMc9 := Aside0.mk c9
        clear c9
        obtain ⟨y144, hy144⟩ : ∃ y_ : List Int, y_ = (x3_1 ++ [x11_1]) := ⟨_, rfl⟩
        replace H : (kind_Links.l0 k1 y144 l0_1 (l0_1.length : Int) (wrap64 (x11_1 + 1))) = some r := by first | (rw [hy144]; with_reducible exact H) | (have H2_ := (Option.bind_some _ _).symm.trans H; rw [hy144]; with_reducible exact H2_) | (have H2_ := (Option.bind_some _ _).symm.trans H; with_reducible exact H2_) | with_reducible exact H | (rw [hy144]; exact H) | exact H
        have Ny144 := Aside0.mk hy144
        clear hy144
        have H' := Aside0.mk H
        clear H
        have p140 : 0 ≤ (x11_1 : Int) := of_decide_eq_true (by first | (with_reducible assumption) | assumption)
        have q140 : x11_1 < (l0_1.length : Int) := of_decide_eq_true (by first | (with_reducible assumption) | assumption)
        obtain ⟨ad140, e140, hx140_0, hx140_1⟩ := at_T48 HR0_1.out x11_1 p140 q140
        cases e140
        replace hx140_0 := (HB.out.cell (World.block_lt_of_cell? w _ hx140_0)).trans hx140_0
        replace hx140_1 := (HB.out.cell (World.block_lt_of_cell? w _ hx140_1)).trans hx140_1
        replace p140 := eq_true p140
        replace q140 := eq_true q140
        go_wp2_with (first | ((with_reducible refine gate_dst (N := 5) rfl ?_); refine box_event ?hg (N := 5) ?hd (cs := #[.string (⟨#[]⟩ : ByteArray), .string (⟨#[]⟩ : ByteArray)]) (t := 48) ?hr ?_; (case hd => rfl); (case hg => rfl); (case hr => first | (go_simp; done) | (go_simp; rfl)); intro gb141 hg w10 hbox hb; have n0_ := Aside0.mk (Kd.R_below (by (with_reducible repeat (first | apply Kd.R_alloc | apply Kd.R_drewN | apply Kd.R_drew)); exact HO_3.out) hb); have n1_ := Aside0.mk (blk_below (g := gb139) (o := .cells #[.string a0_0, .slice (some ad140) l0_1.length c0_1] 43 (0, 0)) (by (with_reducible repeat (first | refine blk_drewN ?_ _ | refine blk_drew ?_ | refine blk_alloc ?_ _)); exact BK139.out) hb); have n2_ := Aside0.mk (below_step (by repeat (first | (with_reducible first | exact HB.out | apply below_alloc | apply pw_below_drewN | apply below_drew1 | refine below_set ?_ GE139.out) | exact HB.out)) hb); have n3_ := Aside0.mk (hbox); have n4_ := Aside0.mk ((by rw [hg]; exact (below_size (by repeat (first | (with_reducible first | exact HB.out | apply below_alloc | apply pw_below_drewN | apply below_drew1 | refine below_set ?_ GE139.out) | exact HB.out))) : w.heap.size ≤ gb141)); have n5_ := Aside0.mk ((by rw [hg]; exact (below_size (by repeat (first | (with_reducible first | exact HB.out | apply below_alloc | apply pw_below_drewN | apply below_drew1 | refine below_set ?_ GE139.out) | exact HB.out))) : w.heap.size ≤ gb141)); have n6_ := Aside0.mk ((by rw [hg]; exact Nat.ne_of_lt (blk_lt (g := gb139) (o := .cells #[.string a0_0, .slice (some ad140) l0_1.length c0_1] 43 (0, 0)) (by (with_reducible repeat (first | refine blk_drewN ?_ _ | refine blk_drew ?_ | refine blk_alloc ?_ _)); exact BK139.out)) : gb139 ≠ gb141)); have n7_ := Aside0.mk ((by rw [hg]; exact Nat.ne_of_gt (blk_lt (g := gb139) (o := .cells #[.string a0_0, .slice (some ad140) l0_1.length c0_1] 43 (0, 0)) (by (with_reducible repeat (first | refine blk_drewN ?_ _ | refine blk_drew ?_ | refine blk_alloc ?_ _)); exact BK139.out)) : gb141 ≠ gb139)); clear HO_3; clear BK139; clear HB; have HO_3 := n0_; have BK139 := n1_; have HB := n2_; have BK141 := n3_; have GW141 := n4_; have GE141 := n5_; have NB139_141 := n6_; have NB141_139 := n7_; clear n0_ n1_ n2_ n3_ n4_ n5_ n6_ n7_; clear hb hbox hg; have hnb11 := NB141_139.out; have hnc11 := NB139_141.out; have hcz12_0 : w10.cell? ⟨gb141, 0, none⟩ = some (.string (⟨#[]⟩ : ByteArray)) := (blk_cell BK141.out 0).trans rfl; have hcz12_1 : w10.cell? ⟨gb141, 1, none⟩ = some (.string (⟨#[]⟩ : ByteArray)) := (blk_cell BK141.out 1).trans rfl; have hfz12_0 := blk_frozen BK141.out 0; have hfz12_1 := blk_frozen BK141.out 1) | ((with_reducible refine gate_callee (f := 11) rfl ?_); refine goesL_ (some 19) rfl rfl Try.func11 (by kernel_rfl) rfl #[.string ((rd_T48 l0_1 x11_1).f1)] rfl (by (try simp only [List.map_toArray, List.map_cons, List.map_nil]); first | done | rfl | (simp only [List.length_drop, List.length_take]; rfl)) ?_; (with_reducible refine (kind_Elem.calls k1 ((rd_T48 l0_1 x11_1).f1) t142 true _ A7.out).mono ?_); rintro e w13 ⟨rfl, hb⟩; refine ⟨_, rfl, ?_⟩; have n0_ := Aside0.mk (Kd.R_below (by (with_reducible repeat (first | apply Kd.R_alloc | apply Kd.R_drewN | apply Kd.R_drew)); exact (Kd.R_mono (Kd.R_far (p := ⟨gb141, 1, none⟩) (Kd.R_far (p := ⟨gb141, 0, none⟩) (Kd.R_types HO_3.out BK141.out (by decide)) (fun _ hk => hk.2) (.string ((rd_T48 l0_1 x11_1).f0))) (fun _ hk => hk.2) (.string ((rd_T48 l0_1 x11_1).f1))) (fun _ h_ => h_.1))) hb); have n1_ := Aside0.mk (blk_below (g := gb139) (o := .cells #[.string a0_0, .slice (some ad140) l0_1.length c0_1] 43 (0, 0)) (by (with_reducible repeat (first | refine blk_drewN ?_ _ | refine blk_drew ?_ | refine blk_alloc ?_ _)); refine blk_far ?_ NB139_141.out _; (with_reducible repeat (first | refine blk_drewN ?_ _ | refine blk_drew ?_ | refine blk_alloc ?_ _)); refine blk_far ?_ NB139_141.out _; (with_reducible repeat (first | refine blk_drewN ?_ _ | refine blk_drew ?_ | refine blk_alloc ?_ _)); exact BK139.out) hb); have n2_ := Aside0.mk (blk_below (g := gb141) (o := .cells #[.string ((rd_T48 l0_1 x11_1).f0), .string ((rd_T48 l0_1 x11_1).f1)] 48 (0, 0)) (by (with_reducible repeat (first | refine blk_drewN ?_ _ | refine blk_drew ?_ | refine blk_alloc ?_ _)); refine blk_put (cs := #[.string ((rd_T48 l0_1 x11_1).f0), .string (⟨#[]⟩ : ByteArray)]) ?_ 1 _ rfl; (with_reducible repeat (first | refine blk_drewN ?_ _ | refine blk_drew ?_ | refine blk_alloc ?_ _)); refine blk_put (cs := #[.string (⟨#[]⟩ : ByteArray), .string (⟨#[]⟩ : ByteArray)]) ?_ 0 _ rfl; (with_reducible repeat (first | refine blk_drewN ?_ _ | refine blk_drew ?_ | refine blk_alloc ?_ _)); exact BK141.out) hb); have n3_ := Aside0.mk (below_step (by repeat (first | (with_reducible first | exact HB.out | apply below_alloc | apply pw_below_drewN | apply below_drew1 | refine below_set ?_ GE139.out | refine below_set ?_ GE141.out) | exact HB.out)) hb); clear HO_3; clear BK139; clear BK141; clear HB; have HO_3 := n0_; have BK139 := n1_; have BK141 := n2_; have HB := n3_; clear n0_ n1_ n2_ n3_; (try clear hb); (try clear hb2); (try clear hk); (try clear hi)) | ((with_reducible refine gate_builtin (b := .append) (xs := #[.tmp 23, .tmp 25]) rfl ?_); at_builtin; refine Kd.R_append (Kd.int .i64) (w0 := w) w.heap.size rfl (.tmp 23) (.tmp 25) 45 3 (.int .i64 0) 8 rfl Try.underlying45 info3 rfl (by decide) (by omega) u3 x3_1 x11_1 [.int .i64 x11_1] (fun _ => True) (fun _ => False) rfl rfl ?aP (fun _ hk => hk.elim) ?aF ?aO ?aB ?aS ?aL ?_; (case aP => exact rfl); (case aB => exact (by repeat (first | (with_reducible first | exact HB.out | apply below_alloc | apply pw_below_drewN | apply below_drew1 | refine below_set ?_ GE139.out | refine below_set ?_ GE141.out) | exact HB.out))); (case aF => exact (fun _ _ => trivial)); (case aO => exact (by (with_reducible repeat (first | apply Kd.R_alloc | apply Kd.R_drewN | apply Kd.R_drew)); exact HO_3.out)); (case aS => exact (below_size (by repeat (first | (with_reducible first | exact HB.out | apply below_alloc | apply pw_below_drewN | apply below_drew1 | refine below_set ?_ GE139.out | refine below_set ?_ GE141.out) | exact HB.out)))); (case aL => have := LMc9.out; omega); intro v145 w14 ho hb hg hat; rw [← Ny144.out] at ho; have n0_ := Aside0.mk (blk_grown (g := gb139) (o := .cells #[.string a0_0, .slice (some ad140) l0_1.length c0_1] 43 (0, 0)) (by (with_reducible repeat (first | refine blk_drewN ?_ _ | refine blk_drew ?_ | refine blk_alloc ?_ _)); exact BK139.out) hg (Kd.R_ne HO_3.out BK139.out (by decide))); have n1_ := Aside0.mk (blk_grown (g := gb141) (o := .cells #[.string ((rd_T48 l0_1 x11_1).f0), .string ((rd_T48 l0_1 x11_1).f1)] 48 (0, 0)) (by (with_reducible repeat (first | refine blk_drewN ?_ _ | refine blk_drew ?_ | refine blk_alloc ?_ _)); exact BK141.out) hg (Kd.R_ne HO_3.out BK141.out (by decide))); have n2_ := Aside0.mk (hb); have n3_ := Aside0.mk (ho); clear BK139; clear BK141; clear HB; clear HO_3; have BK139 := n0_; have BK141 := n1_; have HB := n2_; have HO146 := n3_; clear n0_ n1_ n2_ n3_; clear ho hb hg hat))
        go_roundg k1
        case measure => have := HK1.out; omega
        case rel => exact ⟨(y144), (wrap64 (x11_1 + 1)), (by first | rfl | (simp; done) | (simp [*]; done)), H', ⟨by have := HK1.out; omega⟩, ⟨by (with_reducible repeat (first | apply Kd.R_alloc | apply Kd.R_drewN | apply Kd.R_drew)); exact HO146.out⟩, ⟨by (with_reducible repeat (first | refine blk_drewN ?_ _ | refine blk_drew ?_ | refine blk_alloc ?_ _)); exact BK139.out⟩, ⟨by repeat (first | (with_reducible first | exact HB.out | apply below_alloc | apply pw_below_drewN | apply below_drew1 | refine below_set ?_ GE139.out | refine below_set ?_ GE141.out) | exact HB.out)⟩⟩
       ·rw [if_neg c9] at H
        exact absurd H (by simp)
      ·replace c8 := Bool.eq_false_iff.mpr c8
       subst c8
       have H1 : (kind_Links.l0 k1 x3_1 l0_1 (l0_1.length : Int) (wrap64 (x11_1 + 1))) = some r := by rw [if_neg (show ¬ (false = true) by decide)] at H; exact H
       clear H
       have H := H1
       clear H1
       have H' := Aside0.mk H
       clear H
       have p140 : 0 ≤ (x11_1 : Int) := of_decide_eq_true (by first | (with_reducible assumption) | assumption)
       have q140 : x11_1 < (l0_1.length : Int) := of_decide_eq_true (by first | (with_reducible assumption) | assumption)
       obtain ⟨ad140, e140, hx140_0, hx140_1⟩ := at_T48 HR0_1.out x11_1 p140 q140
       cases e140
       replace hx140_0 := (HB.out.cell (World.block_lt_of_cell? w _ hx140_0)).trans hx140_0
       replace hx140_1 := (HB.out.cell (World.block_lt_of_cell? w _ hx140_1)).trans hx140_1
       replace p140 := eq_true p140
       replace q140 := eq_true q140
       go_wp2_with (first | ((with_reducible refine gate_dst (N := 5) rfl ?_); refine box_event ?hg (N := 5) ?hd (cs := #[.string (⟨#[]⟩ : ByteArray), .string (⟨#[]⟩ : ByteArray)]) (t := 48) ?hr ?_; (case hd => rfl); (case hg => rfl); (case hr => first | (go_simp; done) | (go_simp; rfl)); intro gb141 hg w15 hbox hb; have n0_ := Aside0.mk (Kd.R_below (by (with_reducible repeat (first | apply Kd.R_alloc | apply Kd.R_drewN | apply Kd.R_drew)); exact HO_3.out) hb); have n1_ := Aside0.mk (blk_below (g := gb139) (o := .cells #[.string a0_0, .slice (some ad140) l0_1.length c0_1] 43 (0, 0)) (by (with_reducible repeat (first | refine blk_drewN ?_ _ | refine blk_drew ?_ | refine blk_alloc ?_ _)); exact BK139.out) hb); have n2_ := Aside0.mk (below_step (by repeat (first | (with_reducible first | exact HB.out | apply below_alloc | apply pw_below_drewN | apply below_drew1 | refine below_set ?_ GE139.out) | exact HB.out)) hb); have n3_ := Aside0.mk (hbox); have n4_ := Aside0.mk ((by rw [hg]; exact (below_size (by repeat (first | (with_reducible first | exact HB.out | apply below_alloc | apply pw_below_drewN | apply below_drew1 | refine below_set ?_ GE139.out) | exact HB.out))) : w.heap.size ≤ gb141)); have n5_ := Aside0.mk ((by rw [hg]; exact (below_size (by repeat (first | (with_reducible first | exact HB.out | apply below_alloc | apply pw_below_drewN | apply below_drew1 | refine below_set ?_ GE139.out) | exact HB.out))) : w.heap.size ≤ gb141)); have n6_ := Aside0.mk ((by rw [hg]; exact Nat.ne_of_lt (blk_lt (g := gb139) (o := .cells #[.string a0_0, .slice (some ad140) l0_1.length c0_1] 43 (0, 0)) (by (with_reducible repeat (first | refine blk_drewN ?_ _ | refine blk_drew ?_ | refine blk_alloc ?_ _)); exact BK139.out)) : gb139 ≠ gb141)); have n7_ := Aside0.mk ((by rw [hg]; exact Nat.ne_of_gt (blk_lt (g := gb139) (o := .cells #[.string a0_0, .slice (some ad140) l0_1.length c0_1] 43 (0, 0)) (by (with_reducible repeat (first | refine blk_drewN ?_ _ | refine blk_drew ?_ | refine blk_alloc ?_ _)); exact BK139.out)) : gb141 ≠ gb139)); clear HO_3; clear BK139; clear HB; have HO_3 := n0_; have BK139 := n1_; have HB := n2_; have BK141 := n3_; have GW141 := n4_; have GE141 := n5_; have NB139_141 := n6_; have NB141_139 := n7_; clear n0_ n1_ n2_ n3_ n4_ n5_ n6_ n7_; clear hb hbox hg; have hnb16 := NB141_139.out; have hnc16 := NB139_141.out; have hcz17_0 : w15.cell? ⟨gb141, 0, none⟩ = some (.string (⟨#[]⟩ : ByteArray)) := (blk_cell BK141.out 0).trans rfl; have hcz17_1 : w15.cell? ⟨gb141, 1, none⟩ = some (.string (⟨#[]⟩ : ByteArray)) := (blk_cell BK141.out 1).trans rfl; have hfz17_0 := blk_frozen BK141.out 0; have hfz17_1 := blk_frozen BK141.out 1) | ((with_reducible refine gate_callee (f := 11) rfl ?_); refine goesL_ (some 19) rfl rfl Try.func11 (by kernel_rfl) rfl #[.string ((rd_T48 l0_1 x11_1).f1)] rfl (by (try simp only [List.map_toArray, List.map_cons, List.map_nil]); first | done | rfl | (simp only [List.length_drop, List.length_take]; rfl)) ?_; (with_reducible refine (kind_Elem.calls k1 ((rd_T48 l0_1 x11_1).f1) t142 false _ A7.out).mono ?_); rintro e w18 ⟨rfl, hb⟩; refine ⟨_, rfl, ?_⟩; have n0_ := Aside0.mk (Kd.R_below (by (with_reducible repeat (first | apply Kd.R_alloc | apply Kd.R_drewN | apply Kd.R_drew)); exact (Kd.R_mono (Kd.R_far (p := ⟨gb141, 1, none⟩) (Kd.R_far (p := ⟨gb141, 0, none⟩) (Kd.R_types HO_3.out BK141.out (by decide)) (fun _ hk => hk.2) (.string ((rd_T48 l0_1 x11_1).f0))) (fun _ hk => hk.2) (.string ((rd_T48 l0_1 x11_1).f1))) (fun _ h_ => h_.1))) hb); have n1_ := Aside0.mk (blk_below (g := gb139) (o := .cells #[.string a0_0, .slice (some ad140) l0_1.length c0_1] 43 (0, 0)) (by (with_reducible repeat (first | refine blk_drewN ?_ _ | refine blk_drew ?_ | refine blk_alloc ?_ _)); refine blk_far ?_ NB139_141.out _; (with_reducible repeat (first | refine blk_drewN ?_ _ | refine blk_drew ?_ | refine blk_alloc ?_ _)); refine blk_far ?_ NB139_141.out _; (with_reducible repeat (first | refine blk_drewN ?_ _ | refine blk_drew ?_ | refine blk_alloc ?_ _)); exact BK139.out) hb); have n2_ := Aside0.mk (blk_below (g := gb141) (o := .cells #[.string ((rd_T48 l0_1 x11_1).f0), .string ((rd_T48 l0_1 x11_1).f1)] 48 (0, 0)) (by (with_reducible repeat (first | refine blk_drewN ?_ _ | refine blk_drew ?_ | refine blk_alloc ?_ _)); refine blk_put (cs := #[.string ((rd_T48 l0_1 x11_1).f0), .string (⟨#[]⟩ : ByteArray)]) ?_ 1 _ rfl; (with_reducible repeat (first | refine blk_drewN ?_ _ | refine blk_drew ?_ | refine blk_alloc ?_ _)); refine blk_put (cs := #[.string (⟨#[]⟩ : ByteArray), .string (⟨#[]⟩ : ByteArray)]) ?_ 0 _ rfl; (with_reducible repeat (first | refine blk_drewN ?_ _ | refine blk_drew ?_ | refine blk_alloc ?_ _)); exact BK141.out) hb); have n3_ := Aside0.mk (below_step (by repeat (first | (with_reducible first | exact HB.out | apply below_alloc | apply pw_below_drewN | apply below_drew1 | refine below_set ?_ GE139.out | refine below_set ?_ GE141.out) | exact HB.out)) hb); clear HO_3; clear BK139; clear BK141; clear HB; have HO_3 := n0_; have BK139 := n1_; have BK141 := n2_; have HB := n3_; clear n0_ n1_ n2_ n3_; (try clear hb); (try clear hb2); (try clear hk); (try clear hi)))
       go_roundg k1
       case measure => have := HK1.out; omega
       case rel => exact ⟨(x3_1), (wrap64 (x11_1 + 1)), (by first | rfl | (simp; done) | (simp [*]; done)), H', ⟨by have := HK1.out; omega⟩, ⟨by (with_reducible repeat (first | apply Kd.R_alloc | apply Kd.R_drewN | apply Kd.R_drew)); exact HO_3.out⟩, ⟨by (with_reducible repeat (first | refine blk_drewN ?_ _ | refine blk_drew ?_ | refine blk_alloc ?_ _)); exact BK139.out⟩, ⟨by repeat (first | (with_reducible first | exact HB.out | apply below_alloc | apply pw_below_drewN | apply below_drew1 | refine below_set ?_ GE139.out | refine below_set ?_ GE141.out) | exact HB.out)⟩⟩
     ·rw [if_neg c6] at H
      exact absurd H (by simp)
    ·rw [if_neg c5] at H
     exact absurd H (by simp)
   ·rw [if_neg c4] at H
    have c4b0 : decide (x11_1 < (l0_1.length : Int)) = false := decide_eq_false c4
    clear c4
    obtain rfl := Option.some.inj H
    go_wp2
    go_ret
    exact ⟨_, by first | rfl | (simp [errW_none, errW_some] <;> rfl) | (simp [*, errW_none, errW_some] <;> rfl), by (with_reducible repeat (first | apply Kd.R_alloc | apply Kd.R_drewN | apply Kd.R_drew)); exact HO_3.out, by repeat (first | (with_reducible first | exact HB.out | apply below_alloc | apply pw_below_drewN | apply below_drew1 | refine below_set ?_ GE139.out) | exact HB.out)⟩

end Go.Proofs.Ythpglaekdadehaa.Q

namespace Go.Proofs.Ythpglaekdadehaa.Q
open Go.RowKit Go.Proofs.YthpglaekdadehaaW.PrintWords Go.Proofs.YthpglaekdadehaaW.PrintLast Go.Proofs.YthpglaekdadehaaW.PrintMore
attribute [local go_sem] max2_int min2_int max_two min_two max_three min_three max_four min_four   -- for this text's walks alone
set_option linter.unusedVariables false
set_option linter.unusedSimpArgs false

/-! ### truantlaw03_two: function 25 -/
def truantlaw03_two.f  : Option ((List (S43))) := some (([(⟨(⟨#[84]⟩ : ByteArray), (([(⟨(⟨#[110]⟩ : ByteArray), (⟨#[105, 110, 116]⟩ : ByteArray)⟩ : S48), (⟨(⟨#[117]⟩ : ByteArray), (⟨#[42, 85]⟩ : ByteArray)⟩ : S48)] : List (S48)))⟩ : S43), (⟨(⟨#[85]⟩ : ByteArray), (([(⟨(⟨#[116]⟩ : ByteArray), (⟨#[42, 84]⟩ : ByteArray)⟩ : S48)] : List (S48)))⟩ : S43), (⟨(⟨#[86]⟩ : ByteArray), ([] : List (S48))⟩ : S43)] : List (S43)))
set_option maxHeartbeats 8000000 in
set_option maxRecDepth 100000 in
theorem truantlaw03_two.calls  (r : List (S43)) (w : World) (h : truantlaw03_two.f  = some r) :
  Calls Try.prog 25 #[] w fun e w' => ∃ v0_ : Value, e = .returned (v0_) ∧ Kd.N k43 43 w' w.heap.size (fun k_ => (w.heap.size ≤ k_)) v0_ r ∧ Below w.heap.size w w' := by
 have hu48 := Try.underlying48
 have hu43 := Try.underlying43
 have HB := Aside0.mk (Below.refl w.heap.size w)
 have H : (some (([(⟨(⟨#[84]⟩ : ByteArray), (([(⟨(⟨#[110]⟩ : ByteArray), (⟨#[105, 110, 116]⟩ : ByteArray)⟩ : S48), (⟨(⟨#[117]⟩ : ByteArray), (⟨#[42, 85]⟩ : ByteArray)⟩ : S48)] : List (S48)))⟩ : S43), (⟨(⟨#[85]⟩ : ByteArray), (([(⟨(⟨#[116]⟩ : ByteArray), (⟨#[42, 84]⟩ : ByteArray)⟩ : S48)] : List (S48)))⟩ : S43), (⟨(⟨#[86]⟩ : ByteArray), ([] : List (S48))⟩ : S43)] : List (S43)))) = some r := h
 clear h
 obtain ⟨y153, hy153⟩ : ∃ y_ : List (S48), y_ = (([(⟨(⟨#[110]⟩ : ByteArray), (⟨#[105, 110, 116]⟩ : ByteArray)⟩ : S48), (⟨(⟨#[117]⟩ : ByteArray), (⟨#[42, 85]⟩ : ByteArray)⟩ : S48)] : List (S48))) := ⟨_, rfl⟩
 replace H : (some (([(⟨(⟨#[84]⟩ : ByteArray), y153⟩ : S43), (⟨(⟨#[85]⟩ : ByteArray), (([(⟨(⟨#[116]⟩ : ByteArray), (⟨#[42, 84]⟩ : ByteArray)⟩ : S48)] : List (S48)))⟩ : S43), (⟨(⟨#[86]⟩ : ByteArray), ([] : List (S48))⟩ : S43)] : List (S43)))) = some r := by first | (rw [hy153]; with_reducible exact H) | (have H2_ := (Option.bind_some _ _).symm.trans H; rw [hy153]; with_reducible exact H2_) | (have H2_ := (Option.bind_some _ _).symm.trans H; with_reducible exact H2_) | with_reducible exact H | (rw [hy153]; exact H) | exact H
 have Ny153 := Aside0.mk hy153
 clear hy153
 obtain ⟨y156, hy156⟩ : ∃ y_ : List (S48), y_ = (([(⟨(⟨#[116]⟩ : ByteArray), (⟨#[42, 84]⟩ : ByteArray)⟩ : S48)] : List (S48))) := ⟨_, rfl⟩
 replace H : (some (([(⟨(⟨#[84]⟩ : ByteArray), y153⟩ : S43), (⟨(⟨#[85]⟩ : ByteArray), y156⟩ : S43), (⟨(⟨#[86]⟩ : ByteArray), ([] : List (S48))⟩ : S43)] : List (S43)))) = some r := by first | (rw [hy156]; with_reducible exact H) | (have H2_ := (Option.bind_some _ _).symm.trans H; rw [hy156]; with_reducible exact H2_) | (have H2_ := (Option.bind_some _ _).symm.trans H; with_reducible exact H2_) | with_reducible exact H | (rw [hy156]; exact H) | exact H
 have Ny156 := Aside0.mk hy156
 clear hy156
 obtain ⟨y159, hy159⟩ : ∃ y_ : List (S43), y_ = (([(⟨(⟨#[84]⟩ : ByteArray), y153⟩ : S43), (⟨(⟨#[85]⟩ : ByteArray), y156⟩ : S43), (⟨(⟨#[86]⟩ : ByteArray), ([] : List (S48))⟩ : S43)] : List (S43))) := ⟨_, rfl⟩
 replace H : (some y159) = some r := by first | (rw [hy159]; with_reducible exact H) | (have H2_ := (Option.bind_some _ _).symm.trans H; rw [hy159]; with_reducible exact H2_) | (have H2_ := (Option.bind_some _ _).symm.trans H; with_reducible exact H2_) | with_reducible exact H | (rw [hy159]; exact H) | exact H
 have Ny159 := Aside0.mk hy159
 clear hy159
 obtain rfl := Option.some.inj H
 go_enter Try.func25, Try.ntmps25
 go_wp2_with (first | ((with_reducible refine gate_dst (N := 3) rfl ?_); refine Kd.R_lit k48 _ 48 ?hg (N := 3) ?hd (xs := ([(⟨(⟨#[110]⟩ : ByteArray), (⟨#[105, 110, 116]⟩ : ByteArray)⟩ : S48), (⟨(⟨#[117]⟩ : ByteArray), (⟨#[42, 85]⟩ : ByteArray)⟩ : S48)] : List (S48))) (inner := [.string (⟨#[110]⟩ : ByteArray), .string (⟨#[105, 110, 116]⟩ : ByteArray), .string (⟨#[117]⟩ : ByteArray), .string (⟨#[42, 85]⟩ : ByteArray)]) (ok := fun _ => True) (okp := fun _ => True) ?hr ?hp (fun _ hk => hk) trivial (Below.refl _ _) (Nat.le_refl _) (by simp) ?_; (case hd => rfl); (case hg => rfl); (case hr => first | (go_simp; done) | (go_simp; rfl)); (case hp => exact (Reps.c2 (show Kd.M k48 _ _ _ (⟨(⟨#[110]⟩ : ByteArray), (⟨#[105, 110, 116]⟩ : ByteArray)⟩ : S48) [.string (⟨#[110]⟩ : ByteArray), .string (⟨#[105, 110, 116]⟩ : ByteArray)] from (k48_mkM _ _ _ (⟨(⟨#[110]⟩ : ByteArray), (⟨#[105, 110, 116]⟩ : ByteArray)⟩ : S48) )) (Reps.c2 (show Kd.M k48 _ _ _ (⟨(⟨#[117]⟩ : ByteArray), (⟨#[42, 85]⟩ : ByteArray)⟩ : S48) [.string (⟨#[117]⟩ : ByteArray), .string (⟨#[42, 85]⟩ : ByteArray)] from (k48_mkM _ _ _ (⟨(⟨#[117]⟩ : ByteArray), (⟨#[42, 85]⟩ : ByteArray)⟩ : S48) )) (Reps.none _ _)))); intro v154 w1 ho2 hb hg_ hnew_; clear hg_ hnew_; (first | rw [← Ny153.out] at ho2 | (simp only [Int.reduceToNat] at ho2; rw [← Ny153.out] at ho2)); have n0_ := Aside0.mk (Kd.R_lower (Kd.R_newM (M := fun k_ => (w.heap.size ≤ k_)) ho2 (below_size (by repeat (first | (with_reducible first | exact HB.out | apply below_alloc | apply pw_below_drewN | apply below_drew1) | exact HB.out))) (fun k_ h_ => h_)) (below_size (by repeat (first | (with_reducible first | exact HB.out | apply below_alloc | apply pw_below_drewN | apply below_drew1) | exact HB.out)))); have n1_ := Aside0.mk (below_step (by repeat (first | (with_reducible first | exact HB.out | apply below_alloc | apply pw_below_drewN | apply below_drew1) | exact HB.out)) hb); clear HB; have HO155 := n0_; have HB := n1_; clear n0_ n1_; clear hb ho2; obtain ⟨Ao3, co3, eo3⟩ := Kd.R_slice HO155.out; subst eo3) | ((with_reducible refine gate_dst (N := 6) rfl ?_); refine Kd.R_lit k48 _ 48 ?hg (N := 6) ?hd (xs := ([(⟨(⟨#[116]⟩ : ByteArray), (⟨#[42, 84]⟩ : ByteArray)⟩ : S48)] : List (S48))) (inner := [.string (⟨#[116]⟩ : ByteArray), .string (⟨#[42, 84]⟩ : ByteArray)]) (ok := fun _ => True) (okp := fun _ => True) ?hr ?hp (fun _ hk => hk) trivial (Below.refl _ _) (Nat.le_refl _) (by simp) ?_; (case hd => rfl); (case hg => rfl); (case hr => first | (go_simp; done) | (go_simp; rfl)); (case hp => exact (Reps.c2 (show Kd.M k48 _ _ _ (⟨(⟨#[116]⟩ : ByteArray), (⟨#[42, 84]⟩ : ByteArray)⟩ : S48) [.string (⟨#[116]⟩ : ByteArray), .string (⟨#[42, 84]⟩ : ByteArray)] from (k48_mkM _ _ _ (⟨(⟨#[116]⟩ : ByteArray), (⟨#[42, 84]⟩ : ByteArray)⟩ : S48) )) (Reps.none _ _))); intro v157 w4 ho5 hb hg_ hnew_; clear hg_ hnew_; (first | rw [← Ny156.out] at ho5 | (simp only [Int.reduceToNat] at ho5; rw [← Ny156.out] at ho5)); have n0_ := Aside0.mk (Kd.R_elder' (by (with_reducible repeat (first | apply Kd.R_alloc | apply Kd.R_drewN | apply Kd.R_drew)); exact HO155.out) (Kd.R_base ho5) hb); have n1_ := Aside0.mk (Kd.R_lower (Kd.R_new' (Kd.R_newM (M := fun k_ => (w.heap.size ≤ k_)) ho5 (below_size (by repeat (first | (with_reducible first | exact HB.out | apply below_alloc | apply pw_below_drewN | apply below_drew1) | exact HB.out))) (fun k_ h_ => h_)) (Kd.R_lt (by (with_reducible repeat (first | apply Kd.R_alloc | apply Kd.R_drewN | apply Kd.R_drew)); exact HO155.out))) (below_size (by repeat (first | (with_reducible first | exact HB.out | apply below_alloc | apply pw_below_drewN | apply below_drew1) | exact HB.out)))); have n2_ := Aside0.mk (below_step (by repeat (first | (with_reducible first | exact HB.out | apply below_alloc | apply pw_below_drewN | apply below_drew1) | exact HB.out)) hb); clear HO155; clear HB; have HO155 := n0_; have HO158 := n1_; have HB := n2_; clear n0_ n1_ n2_; clear hb ho5; obtain ⟨Ao6, co6, eo6⟩ := Kd.R_slice HO158.out; subst eo6) | ((with_reducible refine gate_dst (N := 9) rfl ?_); refine Kd.N_lit k43 _ 43 ?hg (N' := 9) ?hd (xs := ([(⟨(⟨#[84]⟩ : ByteArray), y153⟩ : S43), (⟨(⟨#[85]⟩ : ByteArray), y156⟩ : S43), (⟨(⟨#[86]⟩ : ByteArray), ([] : List (S48))⟩ : S43)] : List (S43))) (inner := [.string (⟨#[84]⟩ : ByteArray), .slice Ao3 y153.length co3, .string (⟨#[85]⟩ : ByteArray), .slice Ao6 y156.length co6, .string (⟨#[86]⟩ : ByteArray), .slice none 0 0]) (ok := (fun k_ => (w.heap.size ≤ k_))) (okp := (fun k_ => (w.heap.size ≤ k_))) ?hr ?hp (fun _ hk => hk) ((show ∀ k_, w4.heap.size ≤ k_ → (fun k_ => (w.heap.size ≤ k_)) k_ from fun k_ hk => (Nat.le_trans (below_size (by repeat (first | (with_reducible first | exact HB.out | apply below_alloc | apply pw_below_drewN | apply below_drew1) | exact HB.out))) hk)) _ (Nat.le_refl _)) (Below.refl _ _) (Nat.le_refl _) (by simp) ?_; (case hd => rfl); (case hg => rfl); (case hr => first | (go_simp; done) | (go_simp; rfl)); (case hp => exact (Reps.c2 (show Kd.FK k43 _ _ (⟨(⟨#[84]⟩ : ByteArray), y153⟩ : S43) [.string (⟨#[84]⟩ : ByteArray), .slice Ao3 y153.length co3] from (k43_mkF _ _ (⟨(⟨#[84]⟩ : ByteArray), y153⟩ : S43) (Kd.R_reads' (Kd.R_mono (ok' := (fun k_ => (w.heap.size ≤ k_))) (HO155.out) (fun k_ hk => hk.1.1))).2.1 (Kd.R_F (Kd.R_mono (ok' := (fun k_ => (w.heap.size ≤ k_))) (HO155.out) (fun k_ hk => hk.1.1))))) (Reps.c2 (show Kd.FK k43 _ _ (⟨(⟨#[85]⟩ : ByteArray), y156⟩ : S43) [.string (⟨#[85]⟩ : ByteArray), .slice Ao6 y156.length co6] from (k43_mkF _ _ (⟨(⟨#[85]⟩ : ByteArray), y156⟩ : S43) (Kd.R_reads' (Kd.R_mono (ok' := (fun k_ => (w.heap.size ≤ k_))) (HO158.out) (fun k_ hk => hk.1.1))).2.1 (Kd.R_F (Kd.R_mono (ok' := (fun k_ => (w.heap.size ≤ k_))) (HO158.out) (fun k_ hk => hk.1.1))))) (Reps.c2 (show Kd.FK k43 _ _ (⟨(⟨#[86]⟩ : ByteArray), ([] : List (S48))⟩ : S43) [.string (⟨#[86]⟩ : ByteArray), .slice none 0 0] from (k43_mkF _ _ (⟨(⟨#[86]⟩ : ByteArray), ([] : List (S48))⟩ : S43) (Nat.le_refl _) (Kd.F_nil _ _ _))) (Reps.none _ _))))); intro v160 w7 ho8 hb hg_ hnew_; clear hg_ hnew_; (first | rw [← Ny159.out] at ho8 | (simp only [Int.reduceToNat] at ho8; rw [← Ny159.out] at ho8)); have n0_ := Aside0.mk (Kd.N_lower ho8 (below_size (by repeat (first | (with_reducible first | exact HB.out | apply below_alloc | apply pw_below_drewN | apply below_drew1) | exact HB.out)))); have n1_ := Aside0.mk (below_step (by repeat (first | (with_reducible first | exact HB.out | apply below_alloc | apply pw_below_drewN | apply below_drew1) | exact HB.out)) hb); clear HB; clear HO155; clear HO158; have HO161 := n0_; have HB := n1_; clear n0_ n1_; clear hb ho8))
 go_ret
 exact ⟨_, by first | rfl | (simp [errW_none, errW_some] <;> rfl) | (simp [*, errW_none, errW_some] <;> rfl), by (with_reducible repeat (first | apply Kd.N_alloc | apply Kd.N_drewN | apply Kd.N_drew)); exact HO161.out, by repeat (first | (with_reducible first | exact HB.out | apply below_alloc | apply pw_below_drewN | apply below_drew1) | exact HB.out)⟩

end Go.Proofs.Ythpglaekdadehaa.Q

namespace Go.Proofs.Ythpglaekdadehaa.Q
open Go.RowKit Go.Proofs.YthpglaekdadehaaW.PrintWords Go.Proofs.YthpglaekdadehaaW.PrintLast Go.Proofs.YthpglaekdadehaaW.PrintMore
attribute [local go_sem] max2_int min2_int max_two min_two max_three min_three max_four min_four   -- for this text's walks alone
set_option linter.unusedVariables false
set_option linter.unusedSimpArgs false

theorem eqA48 (d : Nat) (w : World) (x0 y0 : ByteArray) (x1 y1 : ByteArray) :
  (Op.equalIn (d + 2) 48 (.agg #[.string x0, .string x1]) (.agg #[.string y0, .string y1])).run Try.prog w = .ok (x0.toList == y0.toList && (x1.toList == y1.toList)) w := by
 refine eqA_of Try.underlying48 (by kernel_rfl) ?_
 refine eqf_cons (by rfl) (by go_simp; rfl) (by go_simp; rfl) (by go_simp) ?_
 exact eqf_last (by rfl) (by go_simp; rfl) (by go_simp; rfl) (by go_simp)
end Go.Proofs.Ythpglaekdadehaa.Q

namespace Go.Proofs.Ythpglaekdadehaa.Q
open Go.RowKit Go.Proofs.YthpglaekdadehaaW.PrintWords Go.Proofs.YthpglaekdadehaaW.PrintLast Go.Proofs.YthpglaekdadehaaW.PrintMore
attribute [local go_sem] max2_int min2_int max_two min_two max_three min_three max_four min_four   -- for this text's walks alone
set_option linter.unusedVariables false
set_option linter.unusedSimpArgs false

attribute [local go_sem high] eqA48
/-! ### api_Field_36: function 36 -/
def api_Field_36.l0 : Nat → List (S48) → List (S48) → Int → Int → Option (Bool)
 | 0, _, _, _, _ => none
 | k + 1, x0, x1, x12, x13 => if x13 < x12 then (if 0 ≤ x13 then (if x13 < (x0.length : Int) then (if x13 < (x1.length : Int) then (if (!((((rd_T48 x0 x13).f0).toList) == (((rd_T48 x1 x13).f0).toList)) || (!((((rd_T48 x0 x13).f1).toList) == (((rd_T48 x1 x13).f1).toList)))) = true then (some false) else (api_Field_36.l0 k x0 x1 x12 (wrap64 (x13 + 1)))) else (none)) else (none)) else (none)) else (some true)
def api_Field_36.f (k : Nat) (l0 : List (S48)) (l1 : List (S48)) : Option (Bool) := if (l0.length : Int) = (l1.length : Int) then (api_Field_36.l0 k l0 l1 (l0.length : Int) 0) else (some false)
theorem api_Field_36.mono_l : ∀ k, (∀ y0 y1 y2 y3, LeO (api_Field_36.l0 k y0 y1 y2 y3) (api_Field_36.l0 (k + 1) y0 y1 y2 y3))
 | 0 => fun _ _ _ _ r h => by simp [api_Field_36.l0] at h
 | k + 1 => by
  have ih0 := api_Field_36.mono_l k
  ·intro y0 y1 y2 y3
   unfold api_Field_36.l0
   repeat' first
   | (with_reducible exact ih0 _ _ _ _)
   | (with_reducible exact LeO.refl _)
   | (with_reducible exact LeO.none _)
   | (with_reducible refine LeO.ite ?_ ?_)
   | (with_reducible refine LeO.bind ?_ (fun _ => ?_))
   | exact ih0 _ _ _ _
   | exact LeO.none _
   | refine LeO.ite ?_ ?_
   | refine LeO.bind ?_ (fun _ => ?_)
theorem api_Field_36.mono : ∀ a0 a1 k, LeO (api_Field_36.f k a0 a1) (api_Field_36.f (k + 1) a0 a1) := by
 intro a0 a1 k
 have ih0 := api_Field_36.mono_l k
 unfold api_Field_36.f
 repeat' first
   | (with_reducible exact ih0 _ _ _ _)
   | (with_reducible exact LeO.refl _)
   | (with_reducible exact LeO.none _)
   | (with_reducible refine LeO.ite ?_ ?_)
   | (with_reducible refine LeO.bind ?_ (fun _ => ?_))
   | exact ih0 _ _ _ _
   | exact LeO.none _
   | refine LeO.ite ?_ ?_
   | refine LeO.bind ?_ (fun _ => ?_)
set_option maxHeartbeats 8000000 in
set_option maxRecDepth 100000 in
theorem api_Field_36.calls (k : Nat) (A0 : Option Addr) (c0 : Nat) (l0 : List (S48)) (A1 : Option Addr) (c1 : Nat) (l1 : List (S48)) (r : Bool) (w : World) (hr0 : Kd.C k48 w A0 l0.length l0) (hc0 : l0.length ≤ c0) (hr1 : Kd.C k48 w A1 l1.length l1) (hc1 : l1.length ≤ c1) (h : api_Field_36.f k l0 l1 = some r) :
  Calls Try.prog 36 #[.slice A0 l0.length c0, .slice A1 l1.length c1] w fun e w' => e = .returned (.bool r) ∧ Drawn0 w w' := by
 have hu48 := Try.underlying48
 have HR0 := Aside0.mk hr0
 have HC0 := Aside0.mk hc0
 clear hr0 hc0
 have HR1 := Aside0.mk hr1
 have HC1 := Aside0.mk hc1
 clear hr1 hc1
 have H : (if (l0.length : Int) = (l1.length : Int) then (api_Field_36.l0 k l0 l1 (l0.length : Int) 0) else (some false)) = some r := h
 clear h
 by_cases c3 : (l0.length : Int) = (l1.length : Int)
 ·rw [if_pos c3] at H
  have c3b0 : ((l0.length : Int) == (l1.length : Int)) = true := beq_iff_eq.mpr c3
  have c3b1 : ((l0.length : Int) != (l1.length : Int)) = false := bne_eq_false_iff_eq.mpr c3
  have c3b2 : (l0.length == l1.length) = true := by first | simpa using c3 | (simp at c3 ⊢; omega)
  clear c3
  have H' := Aside0.mk H
  clear H
  go_enter Try.func36, Try.ntmps36
  go_wp2
  repeat (go_quiet (fail); try go_wp2)
  go_loopg [13] k (fun kq v13 w' => ∃ (x13_1 : Int), v13 = .int .i64 x13_1 ∧ Aside0 (api_Field_36.l0 kq l0 l1 (l0.length : Int) x13_1 = some r) ∧ Aside0 (kq ≤ k) ∧ Drawn0 w w')
  case atStart => exact ⟨(0), (by first | rfl | (simp; done) | (simp [*]; done)), H', ⟨Nat.le_refl _⟩, by repeat (first | exact Drawn0.refl _ | apply Drawn0.step)⟩
  case round =>
   clear H'
   try clear c1
   try clear p2
   try clear c3
   try clear c3b0
   try clear c3b1
   try clear c3b2
   obtain ⟨x13_1, rfl, HA, HK1, ⟨m1, rfl⟩⟩ := hrel
   cases gk with
   | zero => exact absurd HA.out (by simp [api_Field_36.l0])
   | succ k1 =>
    have H := HA.out
    clear HA
    simp only [api_Field_36.l0] at H
    by_cases c4 : x13_1 < (l0.length : Int)
    ·rw [if_pos c4] at H
     have c4b0 : decide (x13_1 < (l0.length : Int)) = true := decide_eq_true c4
     clear c4
     by_cases c5 : 0 ≤ x13_1
     ·rw [if_pos c5] at H
      have c5b0 : decide (0 ≤ x13_1) = true := decide_eq_true c5
      clear c5
      by_cases c6 : x13_1 < (l0.length : Int)
      ·rw [if_pos c6] at H
       have c6b0 : decide (x13_1 < (l0.length : Int)) = true := decide_eq_true c6
       clear c6
       by_cases c7 : x13_1 < (l1.length : Int)
       ·rw [if_pos c7] at H
        have c7b0 : decide (x13_1 < (l1.length : Int)) = true := decide_eq_true c7
        clear c7
        by_cases c8 : (!((((rd_T48 l0 x13_1).f0).toList) == (((rd_T48 l1 x13_1).f0).toList)) || (!((((rd_T48 l0 x13_1).f1).toList) == (((rd_T48 l1 x13_1).f1).toList)))) = true
        ·rw [if_pos c8] at H
         have c8b0 : (!((((rd_T48 l0 x13_1).f0).toList) == (((rd_T48 l1 x13_1).f0).toList)) || (!((((rd_T48 l0 x13_1).f1).toList) == (((rd_T48 l1 x13_1).f1).toList)))) = true := c8
         clear c8
         obtain rfl := Option.some.inj H
         have p148 : 0 ≤ (x13_1 : Int) := of_decide_eq_true (by first | (with_reducible assumption) | assumption)
         have q148 : x13_1 < (l0.length : Int) := of_decide_eq_true (by first | (with_reducible assumption) | assumption)
         obtain ⟨ad148, e148, hx148_0, hx148_1⟩ := at_T48 HR0.out x13_1 p148 q148
         cases e148
         replace p148 := eq_true p148
         replace q148 := eq_true q148
         have p149 : 0 ≤ (x13_1 : Int) := of_decide_eq_true (by first | (with_reducible assumption) | assumption)
         have q149 : x13_1 < (l1.length : Int) := of_decide_eq_true (by first | (with_reducible assumption) | assumption)
         obtain ⟨ad149, e149, hx149_0, hx149_1⟩ := at_T48 HR1.out x13_1 p149 q149
         cases e149
         replace p149 := eq_true p149
         replace q149 := eq_true q149
         go_wp2
         repeat (go_quiet (fail); try go_wp2)
         go_ret
         exact ⟨by first | rfl | (simp; done) | (simp [*]; done), by repeat (first | exact Drawn0.refl _ | apply Drawn0.step)⟩
        ·rw [if_neg c8] at H
         have c8b0 : (!((((rd_T48 l0 x13_1).f0).toList) == (((rd_T48 l1 x13_1).f0).toList)) || (!((((rd_T48 l0 x13_1).f1).toList) == (((rd_T48 l1 x13_1).f1).toList)))) = false := by simpa using c8
         clear c8
         have H' := Aside0.mk H
         clear H
         have p148 : 0 ≤ (x13_1 : Int) := of_decide_eq_true (by first | (with_reducible assumption) | assumption)
         have q148 : x13_1 < (l0.length : Int) := of_decide_eq_true (by first | (with_reducible assumption) | assumption)
         obtain ⟨ad148, e148, hx148_0, hx148_1⟩ := at_T48 HR0.out x13_1 p148 q148
         cases e148
         replace p148 := eq_true p148
         replace q148 := eq_true q148
         have p149 : 0 ≤ (x13_1 : Int) := of_decide_eq_true (by first | (with_reducible assumption) | assumption)
         have q149 : x13_1 < (l1.length : Int) := of_decide_eq_true (by first | (with_reducible assumption) | assumption)
         obtain ⟨ad149, e149, hx149_0, hx149_1⟩ := at_T48 HR1.out x13_1 p149 q149
         cases e149
         replace p149 := eq_true p149
         replace q149 := eq_true q149
         go_wp2
         repeat (go_quiet (fail); try go_wp2)
         go_roundg k1
         case measure => have := HK1.out; omega
         case rel => exact ⟨(wrap64 (x13_1 + 1)), (by first | rfl | (simp; done) | (simp [*]; done)), H', ⟨by have := HK1.out; omega⟩, by repeat (first | exact Drawn0.refl _ | apply Drawn0.step)⟩
       ·rw [if_neg c7] at H
        exact absurd H (by simp)
      ·rw [if_neg c6] at H
       exact absurd H (by simp)
     ·rw [if_neg c5] at H
      exact absurd H (by simp)
    ·rw [if_neg c4] at H
     have c4b0 : decide (x13_1 < (l0.length : Int)) = false := decide_eq_false c4
     clear c4
     obtain rfl := Option.some.inj H
     go_wp2
     repeat (go_quiet (fail); try go_wp2)
     go_ret
     exact ⟨by first | rfl | (simp; done) | (simp [*]; done), by repeat (first | exact Drawn0.refl _ | apply Drawn0.step)⟩
 ·rw [if_neg c3] at H
  have c3b0 : ((l0.length : Int) == (l1.length : Int)) = false := beq_eq_false_iff_ne.mpr c3
  have c3b1 : ((l0.length : Int) != (l1.length : Int)) = true := bne_iff_ne.mpr c3
  have c3b2 : (l0.length == l1.length) = false := by first | simpa using c3 | (simp at c3 ⊢; omega)
  obtain rfl := Option.some.inj H
  go_enter Try.func36, Try.ntmps36
  go_wp2
  repeat (go_quiet (fail); try go_wp2)
  go_ret
  exact ⟨by first | rfl | (simp; done) | (simp [*]; done), by repeat (first | exact Drawn0.refl _ | apply Drawn0.step)⟩

end Go.Proofs.Ythpglaekdadehaa.Q

namespace Go.Proofs.Ythpglaekdadehaa.Q
open Go.RowKit Go.Proofs.YthpglaekdadehaaW.PrintWords Go.Proofs.YthpglaekdadehaaW.PrintLast Go.Proofs.YthpglaekdadehaaW.PrintMore
attribute [local go_sem] max2_int min2_int max_two min_two max_three min_three max_four min_four   -- for this text's walks alone
set_option linter.unusedVariables false
set_option linter.unusedSimpArgs false

/-! ### kind_Same_1: function 35 -/
def kind_Same_1.f (k : Nat) (a0_0 : ByteArray) (l0_1 : List (S48)) (a1_0 : ByteArray) (l1_1 : List (S48)) : Option (Bool) := if a0_0.toList = a1_0.toList then ((api_Field_36.f k l0_1 l1_1).bind fun t152 => (some t152)) else (some false)
theorem kind_Same_1.mono : ∀ a0 a1 a2 a3 k, LeO (kind_Same_1.f k a0 a1 a2 a3) (kind_Same_1.f (k + 1) a0 a1 a2 a3) := by
 intro a0 a1 a2 a3 k
 unfold kind_Same_1.f
 repeat' first
   | (with_reducible exact api_Field_36.mono _ _ _)
   | (with_reducible exact LeO.refl _)
   | (with_reducible exact LeO.none _)
   | (with_reducible refine LeO.ite ?_ ?_)
   | (with_reducible refine LeO.bind ?_ (fun _ => ?_))
   | exact api_Field_36.mono _ _ _
   | exact LeO.none _
   | refine LeO.ite ?_ ?_
   | refine LeO.bind ?_ (fun _ => ?_)
set_option maxHeartbeats 8000000 in
set_option maxRecDepth 100000 in
theorem kind_Same_1.calls (k : Nat) (a0_0 : ByteArray) (A0_1 : Option Addr) (c0_1 : Nat) (l0_1 : List (S48)) (a1_0 : ByteArray) (A1_1 : Option Addr) (c1_1 : Nat) (l1_1 : List (S48)) (r : Bool) (w : World) (hr0_1 : Kd.C k48 w A0_1 l0_1.length l0_1) (hc0_1 : l0_1.length ≤ c0_1) (hr1_1 : Kd.C k48 w A1_1 l1_1.length l1_1) (hc1_1 : l1_1.length ≤ c1_1) (h : kind_Same_1.f k a0_0 l0_1 a1_0 l1_1 = some r) :
  Calls Try.prog 35 #[.agg #[.string a0_0, .slice A0_1 l0_1.length c0_1], .agg #[.string a1_0, .slice A1_1 l1_1.length c1_1]] w fun e w' => e = .returned (.bool r) ∧ Below w.heap.size w w' := by
 have hu43 := Try.underlying43
 have HR0_1 := Aside0.mk hr0_1
 have HC0_1 := Aside0.mk hc0_1
 clear hr0_1 hc0_1
 have HR1_1 := Aside0.mk hr1_1
 have HC1_1 := Aside0.mk hc1_1
 clear hr1_1 hc1_1
 have HB := Aside0.mk (Below.refl w.heap.size w)
 have H : (if a0_0.toList = a1_0.toList then ((api_Field_36.f k l0_1 l1_1).bind fun t152 => (some t152)) else (some false)) = some r := h
 clear h
 by_cases c3 : a0_0.toList = a1_0.toList
 ·rw [if_pos c3] at H
  have c3b0 : (a0_0.toList == a1_0.toList) = true := beq_iff_eq.mpr c3
  have c3b1 : (a0_0.toList != a1_0.toList) = false := bne_eq_false_iff_eq.mpr c3
  clear c3
  replace H := Option.bind_eq_some_iff.mp H
  obtain ⟨t152, A40, H⟩ := H
  replace H : (some t152) = some r := H
  have A4 := Aside0.mk A40
  clear A40
  obtain rfl := Option.some.inj H
  go_enter Try.func35, Try.ntmps35
  go_wp2_with (first | ((with_reducible refine gate_dst (N := 2) rfl ?_); refine box_event ?hg (N := 2) ?hd (cs := #[.string a0_0, .slice A0_1 l0_1.length c0_1]) (t := 43) ?hr ?_; (case hd => rfl); (case hg => rfl); (case hr => first | (go_simp; done) | (go_simp; rfl)); intro gb150 hg w5 hbox hb; have n0_ := Aside0.mk (below_step (by repeat (first | (with_reducible first | exact HB.out | apply below_alloc | apply pw_below_drewN | apply below_drew1) | exact HB.out)) hb); have n1_ := Aside0.mk (hbox); have n2_ := Aside0.mk ((by rw [hg]; exact (below_size (by repeat (first | (with_reducible first | exact HB.out | apply below_alloc | apply pw_below_drewN | apply below_drew1) | exact HB.out))) : w.heap.size ≤ gb150)); have n3_ := Aside0.mk ((by rw [hg]; exact (below_size (by repeat (first | (with_reducible first | exact HB.out | apply below_alloc | apply pw_below_drewN | apply below_drew1) | exact HB.out))) : w.heap.size ≤ gb150)); clear HB; have HB := n0_; have BK150 := n1_; have GW150 := n2_; have GE150 := n3_; clear n0_ n1_ n2_ n3_; clear hb hbox hg) | ((with_reducible refine gate_dst (N := 3) rfl ?_); refine box_event ?hg (N := 3) ?hd (cs := #[.string a1_0, .slice A1_1 l1_1.length c1_1]) (t := 43) ?hr ?_; (case hd => rfl); (case hg => rfl); (case hr => first | (go_simp; done) | (go_simp; rfl)); intro gb151 hg w6 hbox hb; have n0_ := Aside0.mk (blk_below (g := gb150) (o := .cells #[.string a0_0, .slice A0_1 l0_1.length c0_1] 43 (0, 0)) (by (with_reducible repeat (first | refine blk_drewN ?_ _ | refine blk_drew ?_ | refine blk_alloc ?_ _)); exact BK150.out) hb); have n1_ := Aside0.mk (below_step (by repeat (first | (with_reducible first | exact HB.out | apply below_alloc | apply pw_below_drewN | apply below_drew1 | refine below_set ?_ GE150.out) | exact HB.out)) hb); have n2_ := Aside0.mk (hbox); have n3_ := Aside0.mk ((by rw [hg]; exact (below_size (by repeat (first | (with_reducible first | exact HB.out | apply below_alloc | apply pw_below_drewN | apply below_drew1 | refine below_set ?_ GE150.out) | exact HB.out))) : w.heap.size ≤ gb151)); have n4_ := Aside0.mk ((by rw [hg]; exact (below_size (by repeat (first | (with_reducible first | exact HB.out | apply below_alloc | apply pw_below_drewN | apply below_drew1 | refine below_set ?_ GE150.out) | exact HB.out))) : w.heap.size ≤ gb151)); have n5_ := Aside0.mk ((by rw [hg]; exact Nat.ne_of_lt (blk_lt (g := gb150) (o := .cells #[.string a0_0, .slice A0_1 l0_1.length c0_1] 43 (0, 0)) (by (with_reducible repeat (first | refine blk_drewN ?_ _ | refine blk_drew ?_ | refine blk_alloc ?_ _)); exact BK150.out)) : gb150 ≠ gb151)); have n6_ := Aside0.mk ((by rw [hg]; exact Nat.ne_of_gt (blk_lt (g := gb150) (o := .cells #[.string a0_0, .slice A0_1 l0_1.length c0_1] 43 (0, 0)) (by (with_reducible repeat (first | refine blk_drewN ?_ _ | refine blk_drew ?_ | refine blk_alloc ?_ _)); exact BK150.out)) : gb151 ≠ gb150)); clear BK150; clear HB; have BK150 := n0_; have HB := n1_; have BK151 := n2_; have GW151 := n3_; have GE151 := n4_; have NB150_151 := n5_; have NB151_150 := n6_; clear n0_ n1_ n2_ n3_ n4_ n5_ n6_; clear hb hbox hg; have hnb7 := NB150_151.out; have hnc7 := NB151_150.out; have hcz8_0 : w6.cell? ⟨gb150, 0, none⟩ = some (.string a0_0) := (blk_cell BK150.out 0).trans rfl; have hcz8_1 : w6.cell? ⟨gb150, 1, none⟩ = some (.slice A0_1 l0_1.length c0_1) := (blk_cell BK150.out 1).trans rfl; have hfz8_0 := blk_frozen BK150.out 0; have hfz8_1 := blk_frozen BK150.out 1; have hcz9_0 : w6.cell? ⟨gb151, 0, none⟩ = some (.string a1_0) := (blk_cell BK151.out 0).trans rfl; have hcz9_1 : w6.cell? ⟨gb151, 1, none⟩ = some (.slice A1_1 l1_1.length c1_1) := (blk_cell BK151.out 1).trans rfl; have hfz9_0 := blk_frozen BK151.out 0; have hfz9_1 := blk_frozen BK151.out 1) | (go_at_call 36; (with_reducible refine (api_Field_36.calls k _ _ l0_1 _ _ l1_1 t152 _ ?side1 ?side2 ?side3 ?side4 A4.out).mono ?_); (case side1 => repeat (first | exact (Kd.C_below HR0_1.out HB.out) | (with_reducible refine Kd.C_alloc ?_ _) | (with_reducible refine Kd.C_drewN ?_ _) | (with_reducible refine Kd.C_drew ?_))); (case side2 => exact HC0_1.out); (case side3 => repeat (first | exact (Kd.C_below HR1_1.out HB.out) | (with_reducible refine Kd.C_alloc ?_ _) | (with_reducible refine Kd.C_drewN ?_ _) | (with_reducible refine Kd.C_drew ?_))); (case side4 => exact HC1_1.out); rintro e w' ⟨rfl, ⟨nd, rfl⟩⟩))
  go_ret
  exact ⟨by first | rfl | (simp [errW_none, errW_some] <;> rfl) | (simp [*, errW_none, errW_some] <;> rfl), by repeat (first | (with_reducible first | exact HB.out | apply below_alloc | apply pw_below_drewN | apply below_drew1 | refine below_set ?_ GE150.out | refine below_set ?_ GE151.out) | exact HB.out)⟩
 ·rw [if_neg c3] at H
  have c3b0 : (a0_0.toList == a1_0.toList) = false := beq_eq_false_iff_ne.mpr c3
  have c3b1 : (a0_0.toList != a1_0.toList) = true := bne_iff_ne.mpr c3
  obtain rfl := Option.some.inj H
  go_enter Try.func35, Try.ntmps35
  go_wp2_with (first | ((with_reducible refine gate_dst (N := 2) rfl ?_); refine box_event ?hg (N := 2) ?hd (cs := #[.string a0_0, .slice A0_1 l0_1.length c0_1]) (t := 43) ?hr ?_; (case hd => rfl); (case hg => rfl); (case hr => first | (go_simp; done) | (go_simp; rfl)); intro gb150 hg w10 hbox hb; have n0_ := Aside0.mk (below_step (by repeat (first | (with_reducible first | exact HB.out | apply below_alloc | apply pw_below_drewN | apply below_drew1) | exact HB.out)) hb); have n1_ := Aside0.mk (hbox); have n2_ := Aside0.mk ((by rw [hg]; exact (below_size (by repeat (first | (with_reducible first | exact HB.out | apply below_alloc | apply pw_below_drewN | apply below_drew1) | exact HB.out))) : w.heap.size ≤ gb150)); have n3_ := Aside0.mk ((by rw [hg]; exact (below_size (by repeat (first | (with_reducible first | exact HB.out | apply below_alloc | apply pw_below_drewN | apply below_drew1) | exact HB.out))) : w.heap.size ≤ gb150)); clear HB; have HB := n0_; have BK150 := n1_; have GW150 := n2_; have GE150 := n3_; clear n0_ n1_ n2_ n3_; clear hb hbox hg) | ((with_reducible refine gate_dst (N := 3) rfl ?_); refine box_event ?hg (N := 3) ?hd (cs := #[.string a1_0, .slice A1_1 l1_1.length c1_1]) (t := 43) ?hr ?_; (case hd => rfl); (case hg => rfl); (case hr => first | (go_simp; done) | (go_simp; rfl)); intro gb151 hg w11 hbox hb; have n0_ := Aside0.mk (blk_below (g := gb150) (o := .cells #[.string a0_0, .slice A0_1 l0_1.length c0_1] 43 (0, 0)) (by (with_reducible repeat (first | refine blk_drewN ?_ _ | refine blk_drew ?_ | refine blk_alloc ?_ _)); exact BK150.out) hb); have n1_ := Aside0.mk (below_step (by repeat (first | (with_reducible first | exact HB.out | apply below_alloc | apply pw_below_drewN | apply below_drew1 | refine below_set ?_ GE150.out) | exact HB.out)) hb); have n2_ := Aside0.mk (hbox); have n3_ := Aside0.mk ((by rw [hg]; exact (below_size (by repeat (first | (with_reducible first | exact HB.out | apply below_alloc | apply pw_below_drewN | apply below_drew1 | refine below_set ?_ GE150.out) | exact HB.out))) : w.heap.size ≤ gb151)); have n4_ := Aside0.mk ((by rw [hg]; exact (below_size (by repeat (first | (with_reducible first | exact HB.out | apply below_alloc | apply pw_below_drewN | apply below_drew1 | refine below_set ?_ GE150.out) | exact HB.out))) : w.heap.size ≤ gb151)); have n5_ := Aside0.mk ((by rw [hg]; exact Nat.ne_of_lt (blk_lt (g := gb150) (o := .cells #[.string a0_0, .slice A0_1 l0_1.length c0_1] 43 (0, 0)) (by (with_reducible repeat (first | refine blk_drewN ?_ _ | refine blk_drew ?_ | refine blk_alloc ?_ _)); exact BK150.out)) : gb150 ≠ gb151)); have n6_ := Aside0.mk ((by rw [hg]; exact Nat.ne_of_gt (blk_lt (g := gb150) (o := .cells #[.string a0_0, .slice A0_1 l0_1.length c0_1] 43 (0, 0)) (by (with_reducible repeat (first | refine blk_drewN ?_ _ | refine blk_drew ?_ | refine blk_alloc ?_ _)); exact BK150.out)) : gb151 ≠ gb150)); clear BK150; clear HB; have BK150 := n0_; have HB := n1_; have BK151 := n2_; have GW151 := n3_; have GE151 := n4_; have NB150_151 := n5_; have NB151_150 := n6_; clear n0_ n1_ n2_ n3_ n4_ n5_ n6_; clear hb hbox hg; have hnb12 := NB150_151.out; have hnc12 := NB151_150.out; have hcz13_0 : w11.cell? ⟨gb150, 0, none⟩ = some (.string a0_0) := (blk_cell BK150.out 0).trans rfl; have hcz13_1 : w11.cell? ⟨gb150, 1, none⟩ = some (.slice A0_1 l0_1.length c0_1) := (blk_cell BK150.out 1).trans rfl; have hfz13_0 := blk_frozen BK150.out 0; have hfz13_1 := blk_frozen BK150.out 1; have hcz14_0 : w11.cell? ⟨gb151, 0, none⟩ = some (.string a1_0) := (blk_cell BK151.out 0).trans rfl; have hcz14_1 : w11.cell? ⟨gb151, 1, none⟩ = some (.slice A1_1 l1_1.length c1_1) := (blk_cell BK151.out 1).trans rfl; have hfz14_0 := blk_frozen BK151.out 0; have hfz14_1 := blk_frozen BK151.out 1))
  go_ret
  exact ⟨by first | rfl | (simp [errW_none, errW_some] <;> rfl) | (simp [*, errW_none, errW_some] <;> rfl), by repeat (first | (with_reducible first | exact HB.out | apply below_alloc | apply pw_below_drewN | apply below_drew1 | refine below_set ?_ GE150.out | refine below_set ?_ GE151.out) | exact HB.out)⟩

end Go.Proofs.Ythpglaekdadehaa.Q

/- 'kind.Same': by hand. -/

namespace Go.Proofs.Ythpglaekdadehaa.Q
open Go.RowKit Go.Proofs.YthpglaekdadehaaW.PrintWords Go.Proofs.YthpglaekdadehaaW.PrintLast Go.Proofs.YthpglaekdadehaaW.PrintMore
set_option linter.unusedVariables false
set_option linter.unusedSimpArgs false
theorem field_eq {x y : S48} (h : (!((x.f0).toList == (y.f0).toList) || (!((x.f1).toList == (y.f1).toList))) = false) : x = y := by
 simp at h
 cases x; cases y
 simp only at h
 rw [bytes_eq h.1, bytes_eq h.2]
theorem fields_l (l l' : List S48) (hn : l.length = l'.length) (hm : l.length ≤ 9223372036854775807) (d : Nat) : ∀ (k i : Nat), i ≤ l.length → l.length - i = d → d < k →
  (∀ j : Nat, j < i → l.getD j z48 = l'.getD j z48) → api_Field_36.l0 k l l' (l.length : Int) (i : Int) = some (decB (l = l')) := by
 induction d with
 | zero =>
  intro k i h0 hd hk h
  obtain ⟨k, rfl⟩ : ∃ m, k = m + 1 := ⟨k - 1, by omega⟩
  simp only [api_Field_36.l0]; rw [if_neg (by omega), decB_true (lists_eq z48 hn (fun j hj => h j (by omega)))]
 | succ d ih =>
  intro k i h0 hd hk h
  obtain ⟨k, rfl⟩ : ∃ m, k = m + 1 := ⟨k - 1, by omega⟩
  simp only [api_Field_36.l0]
  rw [if_pos (by omega), if_pos (by omega), if_pos (by omega), if_pos (by omega)]
  by_cases e : (!(((rd_T48 l i).f0.toList) == ((rd_T48 l' i).f0.toList)) || (!(((rd_T48 l i).f1.toList) == ((rd_T48 l' i).f1.toList)))) = true
  ·rw [if_pos e, decB_false]
   rintro rfl
   simp at e
  ·rw [if_neg e, wrap_succ (by omega) (by omega)]
   have e2 := field_eq (Bool.eq_false_iff.mpr e)
   refine ih k (i + 1) (by omega) (by omega) (by omega) (all_succ h e2)
theorem fields_same (l l' : List S48) (hm : l.length ≤ 9223372036854775807) : api_Field_36.f (l.length + 1) l l' = some (decB (l = l')) := by
 unfold api_Field_36.f
 by_cases hn : l.length = l'.length
 ·rw [if_pos (by omega)]
  exact fields_l l l' hn hm l.length (l.length + 1) 0 (by omega) (by omega) (by omega) (fun j hj => absurd hj (by omega))
 ·rw [if_neg (by omega), decB_false (fun e => hn (by rw [e]))]

theorem struct_eq (x y : S43) (hm : x.f1.length ≤ 9223372036854775807) : kind_Same_1.f (x.f1.length + 1) x.f0 x.f1 y.f0 y.f1 = some (decB (x = y)) := by
 unfold kind_Same_1.f
 by_cases h : x.f0.toList = y.f0.toList
 ·rw [if_pos h, fields_same x.f1 y.f1 hm]
  simp only [Option.bind_some]
  congr 1
  have h := bytes_eq h
  cases x; cases y
  simp only at h
  subst h
  simp [decB]
 ·rw [if_neg h, decB_false (fun e => h (by rw [e]))]
def sameF : List S48 → List S48 → Bool
 | [], [] => true
 | x :: xs, y :: ys => x.f0.toList == y.f0.toList && (x.f1.toList == y.f1.toList && sameF xs ys)
 | _, _ => false
def sameS : List S43 → List S43 → Bool
 | [], [] => true
 | x :: xs, y :: ys => x.f0.toList == y.f0.toList && (sameF x.f1 y.f1 && sameS xs ys)
 | _, _ => false
theorem sameF_iff : ∀ l l' : List S48, sameF l l' = true ↔ l = l'
 | [], [] => by simp [sameF]
 | [], _ :: _ => by simp [sameF]
 | _ :: _, [] => by simp [sameF]
 | x :: xs, y :: ys => by
  simp only [sameF, Bool.and_eq_true, beq_iff_eq, sameF_iff xs ys, List.cons.injEq]
  constructor
  ·rintro ⟨h1, h2, h3⟩
   cases x; cases y
   simp only at h1 h2
   exact ⟨by rw [bytes_eq h1, bytes_eq h2], h3⟩
  ·rintro ⟨rfl, rfl⟩
   exact ⟨rfl, rfl, rfl⟩
theorem sameS_iff : ∀ l l' : List S43, sameS l l' = true ↔ l = l'
 | [], [] => by simp [sameS]
 | [], _ :: _ => by simp [sameS]
 | _ :: _, [] => by simp [sameS]
 | x :: xs, y :: ys => by
  simp only [sameS, Bool.and_eq_true, beq_iff_eq, sameF_iff, sameS_iff xs ys, List.cons.injEq]
  constructor
  ·rintro ⟨h1, h2, h3⟩
   cases x; cases y
   simp only at h1 h2
   exact ⟨by rw [bytes_eq h1, h2], h3⟩
  ·rintro ⟨rfl, rfl⟩
   exact ⟨rfl, rfl, rfl⟩
theorem sameS_dec (l l' : List S43) : sameS l l' = decB (l = l') := by
 cases h : sameS l l'
 ·exact (decB_false (fun e => by rw [(sameS_iff l l').mpr e] at h; cases h)).symm
 ·exact (decB_true ((sameS_iff l l').mp h)).symm
def kind_Same.f (l0 : List (S43)) (l1 : List (S43)) : Option (Bool) := some (sameS l0 l1)
set_option maxHeartbeats 800000 in
theorem same_eq (A0 : Option Addr) (c0 : Nat) (l0 : List (S43)) (A1 : Option Addr) (c1 : Nat) (l1 : List (S43)) (w : World) (hr0 : Kd.C k43 w A0 l0.length l0) (hc0 : l0.length ≤ c0) (hr1 : Kd.C k43 w A1 l1.length l1) (hc1 : l1.length ≤ c1) :
  Calls Try.prog 34 #[.slice A0 l0.length c0, .slice A1 l1.length c1, .func (.func 35) #[] #[]] w fun e w' => e = .returned (.bool (decB (l0 = l1))) ∧ Below w.heap.size w w' := by
 have hu := Try.underlying43
 have HR0 := Aside0.mk hr0; clear hr0
 have HR1 := Aside0.mk hr1; clear hr1
 have HM := Aside0.mk (Kd.C_max HR0.out)
 have hm := HM.out
 have hm1 := Kd.C_max HR1.out
 by_cases hn : l0.length = l1.length
 ·have hd : (l0.length == l1.length) = true := beq_iff_eq.mpr hn
  have hd2 : ((l0.length : Int) != (l1.length : Int)) = false := by rw [hn]; simp
  have HN := Aside0.mk hn; clear hn
  go_enter Try.func34, Try.ntmps34
  go_wp2_with fail
  go_loopw [7, 8, 9, 17] (fun _ _ _ v wr => ∃ k : Nat, v = .int .i64 k ∧ k ≤ l0.length ∧ Aside0 (∀ i : Nat, i < k → l0.getD i z43 = l1.getD i z43) ∧ Below w.heap.size w wr) (fun _ _ _ v _ => l0.length - (intOf v).toNat)
  case atStart => exact ⟨0, rfl, Nat.zero_le _, ⟨fun i h => absurd h (Nat.not_lt_zero _)⟩, Below.refl _ _⟩
  case round =>
   obtain ⟨k, rfl, hk, HA, hB⟩ := hrel
   by_cases hlt : k < l0.length
   ·have hlt1 : k < l1.length := by have := HN.out; omega
    obtain ⟨ad, A2, c2, e1, hx0, hx1, hl1, hi1⟩ := atN_T43 (Kd.C_below HR0.out hB) k hlt
    obtain ⟨bd, B2, d2, e2, hy0, hy1, hm2, hj1⟩ := atN_T43 (Kd.C_below HR1.out hB) k hlt1
    cases e1
    cases e2
    obtain ⟨x, ex⟩ : ∃ x, x = l0.getD k z43 := ⟨_, rfl⟩
    rw [← ex] at hx0 hx1 hl1 hi1
    have EX := Aside0.mk ex; clear ex
    obtain ⟨y, ey⟩ : ∃ y, y = l1.getD k z43 := ⟨_, rfl⟩
    rw [← ey] at hy0 hy1 hm2 hj1
    have EY := Aside0.mk ey; clear ey
    have hy0' := pw_cell_below (below_alloc (Below.refl _ _) (.cells #[.string x.f0, .slice A2 x.f1.length c2] 43)) hy0
    have hy1' := pw_cell_below (below_alloc (Below.refl _ _) (.cells #[.string x.f0, .slice A2 x.f1.length c2] 43)) hy1
    have HI := Aside0.mk hi1; have HJ := Aside0.mk hj1; have HL := Aside0.mk hl1; have HL2 := Aside0.mk hm2
    clear hi1 hj1 hl1 hm2
    go_wp2_with fail
    refine (kind_Same_1.calls (x.f1.length + 1) x.f0 A2 c2 x.f1 y.f0 B2 d2 y.f1 _ _ (Kd.C_alloc (Kd.C_alloc HI.out _) _) HL.out (Kd.C_alloc (Kd.C_alloc HJ.out _) _) HL2.out (struct_eq x y (Kd.C_max HI.out))).mono ?_
    rintro e w1 ⟨rfl, hb1⟩
    have HB1 : Aside0 (Below w.heap.size w w1) := ⟨below_then (below_alloc (below_alloc hB _) _) (by have := hB.size; simp; omega) hb1⟩
    clear hb1 hx0 hx1 hy0 hy1 hy0' hy1' HI HJ HL HL2
    by_cases hxy : x = y
    ·rw [decB_true hxy]
     have HA1 : Aside0 (∀ i : Nat, i < k + 1 → l0.getD i z43 = l1.getD i z43) := ⟨all_succ HA.out (by rw [← EX.out, ← EY.out]; exact hxy)⟩
     clear hxy HA EX EY
     go_wp2
     go_roundw
     case rel => exact ⟨k + 1, by go_num, by omega, HA1, HB1.out⟩
     case measure => simp [intOf]; omega
    ·rw [decB_false hxy]
     have HE : Aside0 (decB (l0 = l1) = false) := ⟨decB_false (fun e => hxy (by rw [EX.out, EY.out, e]))⟩
     clear hxy HA EX EY
     go_wp2
     go_ret
     exact ⟨by rw [HE.out]; rfl, HB1.out⟩
   ·have HE : Aside0 (decB (l0 = l1) = true) := ⟨decB_true (lists_eq z43 HN.out (fun j hj => HA.out j (by omega)))⟩
    clear HA
    go_wp2
    go_ret
    exact ⟨by rw [HE.out]; rfl, hB⟩
 ·have hd : (l0.length == l1.length) = false := beq_eq_false_iff_ne.mpr hn
  have hd2 : ((l0.length : Int) != (l1.length : Int)) = true := by rw [bne_iff_ne]; omega
  have HE : Aside0 (decB (l0 = l1) = false) := ⟨decB_false (fun e => hn (by rw [e]))⟩
  clear hn
  go_enter Try.func34, Try.ntmps34
  go_wp2
  go_ret
  exact ⟨by rw [HE.out]; rfl, Below.refl _ _⟩
set_option maxHeartbeats 800000 in
theorem kind_Same.calls (A0 : Option Addr) (c0 : Nat) (l0 : List (S43)) (A1 : Option Addr) (c1 : Nat) (l1 : List (S43)) (r : Bool) (w : World) (hr0 : Kd.C k43 w A0 l0.length l0) (hc0 : l0.length ≤ c0) (hr1 : Kd.C k43 w A1 l1.length l1) (hc1 : l1.length ≤ c1) (h : kind_Same.f l0 l1 = some r) :
  Calls Try.prog 22 #[.slice A0 l0.length c0, .slice A1 l1.length c1] w fun e w' => e = .returned (.bool r) ∧ Below w.heap.size w w' := by
 unfold kind_Same.f at h
 rw [sameS_dec] at h
 obtain rfl := Option.some.inj h
 clear h
 have HR0 := Aside0.mk hr0; have HR1 := Aside0.mk hr1; have HC0 := Aside0.mk hc0; have HC1 := Aside0.mk hc1
 clear hr0 hr1 hc0 hc1
 go_enter Try.func22, Try.ntmps22
 go_wp2_with fail
 refine (same_eq A0 c0 l0 A1 c1 l1 w HR0.out HC0.out HR1.out HC1.out).mono ?_
 rintro e w1 ⟨rfl, hb⟩
 go_wp2
 go_ret
 exact ⟨rfl, hb⟩
end Go.Proofs.Ythpglaekdadehaa.Q

/- A map to bools as a set of keys: laws for the walk; and small words on rows. -/
namespace Go.Proofs.Ythpglaekdadehaa.Q
open Go.RowKit Go.Proofs.YthpglaekdadehaaW.PrintWords Go.Proofs.YthpglaekdadehaaW.PrintLast Go.Proofs.YthpglaekdadehaaW.PrintMore
set_option linter.unusedVariables false
set_option linter.unusedSimpArgs false
open Go.Maps (Keyed)
/-- Block b of w is a map to bools: true at the keys of S, and at no others. -/
structure SetAt (w : World) (P : Program) (k e : TypeId) (b : Nat) (S : List Lit) : Prop where
 out : ∃ n D, w.ownsMap (H := Unit) P k (plainElem P e) b n D ∧ Maps.IsMap D ∧ n ≤ S.length ∧ ∀ x, WideAt.IsKeyLit x → D.atKey x (.lit (.bool false)) = .lit (.bool (decB (x ∈ S)))
section
variable {P : Program} {k e t : TypeId} {w w1 : World} {b : Nat} {S : List Lit}
theorem SetAt.made (w : World) (P : Program) (k e : TypeId) : SetAt (w.alloc (.map #[] 0)) P k e w.heap.size [] :=
 ⟨0, .map [], World.ownsMap_made _ _ _ _, Maps.isMap_empty, Nat.le_refl _, fun x _ => by rw [decB_false (by simp)]; rfl⟩
theorem SetAt.kept (h : SetAt w P k e b S) {row : Option Nat} (hg : w.grownBy w1 row) (hne : some b ≠ row) : SetAt w1 P k e b S := by
 obtain ⟨n, D, h1, h2⟩ := h
 exact ⟨n, D, h1.kept hg hne, h2⟩
theorem SetAt.lt (h : SetAt w P k e b S) : b < w.heap.size := by obtain ⟨n, D, h1, h2⟩ := h; exact h1.lt
theorem SetAt.below (h : SetAt w P k e b S) (hb : Below w.heap.size w w1) : SetAt w1 P k e b S := h.kept (grown_of_below hb none) (by simp)
theorem SetAt.alloc (h : SetAt w P k e b S) (o : Obj) : SetAt (w.alloc o) P k e b S := h.below (below_alloc (Below.refl _ _) o)
theorem SetAt.drewN (h : SetAt w P k e b S) (m : Nat) : SetAt (w.drewN m) P k e b S := h.below (pw_below_drewN (Below.refl _ _) m)
theorem SetAt.drew (h : SetAt w P k e b S) : SetAt w.drew P k e b S := h.below (below_drew (Below.refl _ _))
theorem plain_bool_inv {v : Value} {x : Bool} {ps : List MemPlace} (he : P.underlying e = some .bool) (h : plainElem (H := Unit) P e v = some (.lit (.bool x), ps)) : v = .bool x := by
 unfold plainElem at h
 rw [he] at h
 cases v <;> simp at h
 obtain ⟨rfl, _⟩ := h
 rfl
theorem SetAt.lookup (h : SetAt w P k e b S) (K : Keyed P k) (ht : P.underlying t = some (.map k e)) (he : P.underlying e = some .bool) (hz : (zeroValue e).run P w = .ok (.bool false) w)
  {key : Value} {kl : Lit} (hkey : keyOf P k key = some kl) (hkl : WideAt.IsKeyLit kl) : (Instr.lookup t (.map (some b)) key false).run P w = .ok (.bool (decB (kl ∈ S))) w := by
 obtain ⟨n, D, h1, h2, h3, h4⟩ := h
 obtain ⟨v, ps, hrun, hv⟩ := h1.lookup K ht hz (plainElem_bool he false) hkey
 rw [h4 kl hkl] at hv
 rw [hrun, plain_bool_inv he hv]
theorem decB_iff {p q : Prop} (h : p ↔ q) : decB p = decB q := by rw [propext h]
theorem SetAt.update_op {ops : Array Oper} {rest : List Oper} {o : Oper} {a : Act} {Q : Exit → Act → World → Prop} (h : SetAt w P k e b S)
  (hg : o.guard = none) (m x v : Operand) (hop : o.op = Op.mapUpdate t m x v) (K : Keyed P k) (ht : P.underlying t = some (.map k e)) (he : P.underlying e = some .bool)
  (hm : a.eval m = .map (some b)) (hn : S.length < maxLen) (key : Value) (kl : Lit) (hx : a.eval x = key) (hv : a.eval v = .bool true) (hkey : keyOf P k key = some kl) (hkl : WideAt.IsKeyLit kl)
  (hK : ∀ w', SetAt w' P k e b (kl :: S) → w.grownBy w' (some b) → wpList P ops Q rest (a.put o.dst undef) w') :
  wpList P ops Q (o :: rest) a w := by
 obtain ⟨n, D, h1, h2, h3, h4⟩ := h
 refine wpList_mapUpdate_own w hg m x v t hop k e K ht (plainElem P e) b n D hm h1 (by omega) key _ kl hx hv hkey _ [] (plainElem_bool he true) ?_
 intro w' ho hgr
 refine hK w' ⟨n + 1, D.put kl _, ho, h2.put _ _, by simp; omega, fun y hy => ?_⟩ hgr
 by_cases hyk : y = kl
 ·subst hyk
  rw [Maps.atKey_put_same h2 hy, decB_true (by simp)]
 ·rw [Maps.atKey_put_other hyk, h4 y hy]
  congr 2
  exact decB_iff (by simp [hyk])
end
theorem lit_R {α : Type} (d : Kd α) {W : World} (base e : Nat) {xs : List α} {inner : List Value} {ok okp : Nat → Prop}
  (hrep : Reps (d.M W base okp) d.sz xs inner) (hok : ∀ k, okp k → ok k) (hfresh : ok W.heap.size) (hbase : base ≤ W.heap.size) (hm : xs.length ≤ 9223372036854775807) :
  d.R e (W.alloc (.cells inner.toArray e)) base ok (.slice (some ⟨W.heap.size, 0, none⟩) xs.length xs.length) xs := by
 refine ⟨fun k hk => ?_, inner, ?_, ?_⟩
 ·have : W.heap.size = k := by simpa [Value.ownBlock] using hk
  subst this
  exact hfresh
 ·have h2 := World.ownsRow_lit (base := base) (e := e) (size := d.sz) W inner.toArray xs.length hbase (by simpa [maxLen] using hm) (by simpa using hrep.1)
  simpa using h2
 ·refine hrep.imp_ (fun p c hp => d.M_mono (fun k hk => ⟨hok k hk.1, fun he => ?_⟩) (Kd.M_below (d.M_bound hp) (below_alloc (Below.refl _ _) _)))
  have h3 : k = W.heap.size := by simpa [Value.ownBlock] using he
  have := hk.2.2.1
  omega
theorem lit_str {W : World} (base e : Nat) (x : ByteArray) {ok : Nat → Prop} (hfresh : ok W.heap.size) (hbase : base ≤ W.heap.size) :
  Kd.R Kd.string e (W.alloc (.cells #[.string x] e)) base ok (.slice (some ⟨W.heap.size, 0, none⟩) 1 1) [x] :=
 lit_R Kd.string base e (xs := [x]) (inner := [.string x]) (okp := ok) (Reps.one (show Kd.M Kd.string _ _ _ x [.string x] from rfl) (Reps.none _ _)) (fun _ h => h) hfresh hbase (by simp)
theorem SetAt.ne_own {α : Type} {P : Program} {k e : TypeId} {w : World} {b : Nat} {S : List Lit} {d : Kd α} {e' base : Nat} {ok : Nat → Prop} {v : Value} {xs : List α} (h : SetAt w P k e b S) (hq : d.Q e' w base ok v xs) : some b ≠ v.ownBlock := by
 intro he
 obtain ⟨cells, hc⟩ := Kd.Q_typed hq b he.symm
 obtain ⟨n, D, ⟨es, clock, hb, _⟩, _⟩ := h
 rw [hb] at hc
 cases hc
theorem at_scalar {α : Type} {enc : α → Value} {h1 : ∀ x, (enc x).oneCell' = true} {w : World} {A : Option Addr} {n : Nat} {xs : List α} (h : Kd.C (Kd.scalar enc h1) w A n xs) (z : α) (k : Nat) (hk : k < n) : ∃ ad, A = some ad ∧ w.cell? (ad.add k) = some (enc (xs.getD k z)) := by
 obtain ⟨e1, e2, h⟩ := h
 obtain ⟨ad, ea, h⟩ := h (by omega)
 have hl : k < xs.length := by omega
 obtain ⟨c, hc, hK, hcell⟩ := h k _ (List.getElem?_eq_getElem hl)
 refine ⟨ad, ea, ?_⟩
 have hK' : c = [enc xs[k]] := hK
 subst hK'
 have := hcell 0 _ rfl
 have e : k * (Kd.scalar enc h1).sz + 0 = k := by show k * 1 + 0 = k; omega
 rw [e] at this
 rw [this, getD_at xs z hl]
theorem at_str {w : World} {A : Option Addr} {n : Nat} {xs : List ByteArray} (h : Kd.C Kd.string w A n xs) (k : Nat) (hk : k < n) : ∃ ad, A = some ad ∧ w.cell? (ad.add k) = some (.string (xs.getD k ⟨#[]⟩)) := at_scalar (enc := Value.string) h _ k hk
theorem at_int {q : IntKind} {w : World} {A : Option Addr} {n : Nat} {xs : List Int} (h : Kd.C (Kd.int q) w A n xs) (k : Nat) (hk : k < n) : ∃ ad, A = some ad ∧ w.cell? (ad.add k) = some (.int q (xs.getD k 0)) := at_scalar (enc := Value.int q) h _ k hk
/-- A queue's rest. -/
theorem cut_queue {α : Type} {d : Kd α} {P : Program} {t e : TypeId} {w : World} {base : Nat} {ok : Nat → Prop} {A : Option Addr} {c : Nat} {x : α} {xs : List α} (ht : P.underlying t = some (.slice e)) (hi : (P.info? e).map (·.size) = some d.sz)
  (h : d.Q e w base ok (.slice A (xs.length + 1) c) (x :: xs)) : ∃ A1 c1, (∀ W : World, (Instr.slice t (.slice A (xs.length + 1) c) (some (.int .i64 1)) none none).run P W = .ok (.slice A1 xs.length c1) W) ∧ d.Q e w base ok (.slice A1 xs.length c1) xs := by
 obtain ⟨i, hi, hs⟩ := Option.map_eq_some_iff.1 hi
 have h1 := cut_from (P := P) t e .i64 ht hi d.sz hs A (xs.length + 1) c 1 (by omega) (by omega)
 have h2 := Kd.Q_drop (k := 1) h (by simp)
 exact ⟨_, _, h1, h2⟩
/-- What a stack holds behind a pop. -/
theorem cut_stack {α : Type} {d : Kd α} {P : Program} {t e : TypeId} {w : World} {base : Nat} {ok : Nat → Prop} {A : Option Addr} {n c : Nat} {xs : List α} (ht : P.underlying t = some (.slice e)) (hi : (P.info? e).map (·.size) = some d.sz)
  (h : d.R e w base ok (.slice A n c) xs) (hn : n = xs.length) (hc : n ≤ c) (hp : 0 < n) : (∀ W : World, (Instr.slice t (.slice A n c) none (some (.int .i64 ((n : Int) - 1))) none).run P W = .ok (.slice A (n - 1) c) W) ∧ d.R e w base ok (.slice A (n - 1) c) (xs.take (n - 1)) := by
 obtain ⟨i, hi, hs⟩ := Option.map_eq_some_iff.1 hi
 have h1 := cut_to (P := P) t e .i64 ht hi A n c ((n : Int) - 1) (by omega) (by omega) hc
 have e1 : ((n : Int) - 1).toNat = n - 1 := by omega
 rw [e1] at h1
 exact ⟨h1, Kd.R_take h (by omega)⟩
end Go.Proofs.Ythpglaekdadehaa.Q


/- 'kind.Reach': by hand. -/

namespace Go.Proofs.Ythpglaekdadehaa.Q
open Go.RowKit Go.Proofs.YthpglaekdadehaaW.PrintWords Go.Proofs.YthpglaekdadehaaW.PrintLast Go.Proofs.YthpglaekdadehaaW.PrintMore
set_option linter.unusedVariables false
set_option linter.unusedSimpArgs false
open Go.Maps (Keyed)
def LIMS : Nat := 8796093022208
/-- Whether a text stands in a row. -/
def hasB (x : ByteArray) (l : List ByteArray) : Bool := l.any fun y => y.toList == x.toList
def sk (s : ByteArray) : Lit := .string s.data.toList
theorem sk_has (x : ByteArray) (l : List ByteArray) : decB (sk x ∈ l.map sk) = hasB x l := by
 have e : sk x ∈ l.map sk ↔ hasB x l = true := by
  unfold hasB
  rw [List.any_eq_true, List.mem_map]
  constructor
  ·rintro ⟨y, hy, e⟩
   refine ⟨y, hy, beq_iff_eq.mpr ?_⟩
   unfold sk at e
   injection e with e
   rw [ByteArray.toList_eq, ByteArray.toList_eq]; exact e
  ·rintro ⟨y, hy, e⟩
   have e := beq_iff_eq.mp e
   rw [ByteArray.toList_eq, ByteArray.toList_eq] at e
   exact ⟨y, hy, by unfold sk; rw [e]⟩
 cases h : hasB x l
 ·exact decB_false (by rw [e, h]; simp)
 ·exact decB_true (by rw [e]; exact h)
/-- The types to which the links of a struct lead. -/
def typesAt (fs : List S48) (ks : List Int) : List ByteArray := ks.map fun i => (fs.getD i.toNat z48).f1
def linksIn (fs : List S48) (ks : List Int) : Bool := ks.all fun i => decide (0 ≤ i ∧ i < fs.length)
theorem links_at {fs : List S48} {ks : List Int} (h : linksIn fs ks = true) {i : Nat} (hi : i < ks.length) : 0 ≤ ks.getD i 0 ∧ ks.getD i 0 < fs.length := by
 unfold linksIn at h
 rw [List.all_eq_true] at h
 have := h (ks.getD i 0) (by rw [getD_at ks 0 hi]; exact List.getElem_mem hi)
 simpa using this
theorem atN_F' {w : World} {A : Option Addr} {n : Nat} {xs : List S48} (h : Kd.C k48 w A n xs) (k : Nat) (h1 : k < n) : ∃ ad, A = some ad ∧ w.cell? (ad.add (k * 2)) = some (.string (xs.getD k z48).f0) ∧ w.cell? ⟨(ad.add (k * 2)).block, (ad.add (k * 2)).off + 1, none⟩ = some (.string (xs.getD k z48).f1) := at_T48 h (k : Int) (by omega) (by omega)
/-- The queue: what is reached. -/
def kind_Reach.q (K : Nat) (l : List S43) : Nat → List ByteArray → List ByteArray → Option (List ByteArray)
 | 0, _, _ => none
 | _ + 1, [], seen => some seen
 | k + 1, t :: todo, seen => (kind_Elem.f K t).bind fun p =>
   if p.1.size ≤ maxLen ∧ seen.length < maxLen then
    (if p.2 = true ∧ 0 ≤ findR (nameIs p.1) l ∧ hasB p.1 seen = false then
     (kind_Links.f K (l.getD (findR (nameIs p.1) l).toNat z43).f0 (l.getD (findR (nameIs p.1) l).toNat z43).f1).bind fun ks =>
      if linksIn (l.getD (findR (nameIs p.1) l).toNat z43).f1 ks = true ∧ todo.length + ks.length < LIMS then
       kind_Reach.q K l k (todo ++ typesAt (l.getD (findR (nameIs p.1) l).toNat z43).f1 ks) (p.1 :: seen)
      else none
    else kind_Reach.q K l k todo seen)
   else none
def reachOut (l : List S43) (seen : List ByteArray) (n : Nat) : List ByteArray :=
 ((List.range n).filter fun i => hasB (l.getD i z43).f0 seen && decide ((placeOf (findR (nameIs (l.getD i z43).f0) l)).1 = i)).map fun i => (l.getD i z43).f0
def kind_Reach.f (k : Nat) (l0 : List (S43)) (a1 : ByteArray) : Option (List ByteArray) :=
 if l0.length < LIMS ∧ (l0.all fun x => decide (x.f0.size ≤ maxLen)) = true then (kind_Reach.q k l0 k [a1] []).bind fun seen => some (reachOut l0 seen l0.length) else none
theorem kind_Reach.mono_q (l : List S43) : ∀ (k K : Nat) (todo seen : List ByteArray), LeO (kind_Reach.q K l k todo seen) (kind_Reach.q (K + 1) l (k + 1) todo seen) := by
 intro k
 induction k with
 | zero => intro K todo seen; exact LeO.none _
 | succ k ih =>
  intro K todo seen
  cases todo with
  | nil => exact LeO.refl _
  | cons t todo =>
   unfold kind_Reach.q
   refine LeO.bind (kind_Elem.mono _ _) (fun p => ?_)
   refine LeO.ite (LeO.ite (LeO.bind (kind_Links.mono _ _ _) (fun ks => ?_)) ?_) (LeO.none _)
   ·exact LeO.ite (ih _ _ _) (LeO.none _)
   ·exact ih _ _ _
theorem kind_Reach.mono : ∀ a0 a1 k, LeO (kind_Reach.f k a0 a1) (kind_Reach.f (k + 1) a0 a1) := by
 intro l a k
 unfold kind_Reach.f
 exact LeO.ite (LeO.bind (kind_Reach.mono_q l k k _ _) (fun _ => LeO.refl _)) (LeO.none _)
theorem strInfo : (Try.prog.info? 9).map (fun i => (i.zero, i.size, i.bytes)) = some (some (.string ⟨#[]⟩), Kd.string.sz, 16) := by kernel_rfl
theorem zeroB (w : World) : (zeroValue 4).run Try.prog w = .ok (.bool false) w := by kernel_rfl
set_option maxHeartbeats 4000000 in
set_option maxRecDepth 100000 in
theorem kind_Reach.calls (k : Nat) (A0 : Option Addr) (c0 : Nat) (l0 : List (S43)) (a1 : ByteArray) (r : List ByteArray) (w : World) (hr0 : Kd.C k43 w A0 l0.length l0) (hc0 : l0.length ≤ c0) (h : kind_Reach.f k l0 a1 = some r) :
  Calls Try.prog 18 #[.slice A0 l0.length c0, .string a1] w fun e w' => ∃ v0_ : Value, e = .returned (v0_) ∧ Kd.R Kd.string 9 w' w.heap.size (fun _ => True) v0_ r ∧ Below w.heap.size w w' := by
 unfold kind_Reach.f at h
 by_cases hg : l0.length < LIMS ∧ (l0.all fun x => decide (x.f0.size ≤ maxLen)) = true
 case neg => rw [if_neg hg] at h; cases h
 rw [if_pos hg] at h
 replace h := Option.bind_eq_some_iff.mp h
 obtain ⟨seen, hq, hr⟩ := h
 have HQ := Aside0.mk hq; have HRES := Aside0.mk (Option.some.inj hr); have HG := Aside0.mk hg; clear hq hr hg
 have HR0 := Aside0.mk hr0; have HC0 := Aside0.mk hc0; clear hr0 hc0
 have hu := Try.underlying43
 have hu2 := Try.underlying48
 have hmm := @run_makeMap Try.prog
 go_enter Try.func18, Try.ntmps18
 go_wp2_with fail
 have HB : Aside0 (Below w.heap.size w ((w.alloc (.map #[] 0)).alloc (.cells #[.string a1] 9))) := ⟨below_alloc (below_alloc (Below.refl _ _) _) _⟩
 have HS : Aside0 (SetAt ((w.alloc (.map #[] 0)).alloc (.cells #[.string a1] 9)) Try.prog 9 4 w.heap.size (([] : List ByteArray).map sk)) := ⟨(SetAt.made w _ _ _).alloc _⟩
 have HT : Aside0 (Kd.Q Kd.string 9 ((w.alloc (.map #[] 0)).alloc (.cells #[.string a1] 9)) w.heap.size (fun j => j ≠ w.heap.size) (.slice (some ⟨w.heap.size + 1, 0, none⟩) 1 1) [a1]) := ⟨by
  have h := lit_str (W := w.alloc (.map #[] 0)) w.heap.size 9 a1 (ok := fun j => j ≠ w.heap.size) (by simp) (by simp)
  simpa using Kd.Q_of_R h⟩
 generalize (w.alloc (.map #[] 0)).alloc (.cells #[.string a1] 9) = W1 at HB HS HT ⊢
 go_loopg [6] k (fun kq v wr => ∃ todo sn : List ByteArray, Aside0 (kind_Reach.q k l0 kq todo sn = some seen) ∧ Aside0 (Kd.Q Kd.string 9 wr w.heap.size (fun j => j ≠ w.heap.size) v todo) ∧ Aside0 (SetAt wr Try.prog 9 4 w.heap.size (sn.map sk)) ∧ Aside0 (Below w.heap.size w wr))
 case atStart => exact ⟨[a1], [], HQ, HT, HS, HB⟩
 case round =>
  clear HQ HT HS HB
  obtain ⟨todo, sn, HQ, HT, HS, HB⟩ := hrel
  cases gk with
  | zero => exact absurd HQ.out (by simp [kind_Reach.q])
  | succ kq =>
  obtain ⟨A, c, rfl, hc, hC⟩ := Kd.Q_reads HT.out
  cases todo with
  | nil =>
   have hsn : sn = seen := by have := HQ.out; simpa [kind_Reach.q] using this
   subst hsn
   have HMX := Aside0.mk (Kd.C_max HR0.out)
   have hmx := HMX.out
   clear hC hc HT
   simp only [List.length_nil]
   go_wp2_with fail
   go_loopw [13, 14, 15, 16, 17, 77] (fun v13 _ _ _ _ v77 wr => ∃ i : Nat, v77 = .int .i64 i ∧ i ≤ l0.length ∧ Aside0 (Kd.R Kd.string 9 wr w.heap.size (fun _ => True) v13 (reachOut l0 sn i)) ∧ Aside0 (SetAt wr Try.prog 9 4 w.heap.size (sn.map sk)) ∧ Aside0 (Below w.heap.size w wr)) (fun _ _ _ _ _ v77 _ => l0.length - (intOf v77).toNat)
   case atStart => exact ⟨0, rfl, Nat.zero_le _, ⟨Kd.R_nil _ _ _ _ _⟩, HS, HB⟩
   case round =>
    clear HS HB
    obtain ⟨i, rfl, hi, HT, HS, HB⟩ := hrel
    by_cases hlt : i < l0.length
    ·obtain ⟨bd, B1, d1, e2, hx0, hx1, hl1, hi1⟩ := atN_T43 (Kd.C_below HR0.out HB.out) i hlt
     cases e2
     obtain ⟨x, ex⟩ : ∃ x, x = l0.getD i z43 := ⟨_, rfl⟩
     rw [← ex] at hx0 hx1 hl1 hi1
     have EX := Aside0.mk ex; clear ex hi1 hl1
     go_wp2_with fail
     have HW0 : Aside0 (Below wr.heap.size wr (wr.alloc (.cells #[.string x.f0, .slice B1 x.f1.length d1] 43))) := ⟨below_alloc (Below.refl _ _) _⟩
     have HX0 : Aside0 ((wr.alloc (.cells #[.string x.f0, .slice B1 x.f1.length d1] 43)).cell? ⟨wr.heap.size, 0, none⟩ = some (.string x.f0)) := ⟨by rw [World.cell?_alloc_at _ _ _ _ rfl]; rfl⟩
     generalize wr.alloc (.cells #[.string x.f0, .slice B1 x.f1.length d1] 43) = w1 at HW0 HX0 ⊢
     have HF : Aside0 (kind_Find.f l0 x.f0 = some ((placeOf (findR (nameIs x.f0) l0)).1, (placeOf (findR (nameIs x.f0) l0)).2)) := ⟨rfl⟩
     refine (kind_Find.calls _ c0 l0 x.f0 _ _ w1 (Kd.C_below HR0.out (below_step HB.out HW0.out)) HC0.out HF.out).mono ?_
     rintro e w2 ⟨rfl, hb2⟩
     have HBB := Aside0.mk (below_step HW0.out hb2)
     have hx := pw_cell_below hb2 HX0.out
     have HX := Aside0.mk hx
     have HT2 := Aside0.mk (Kd.R_below HT.out HBB.out)
     have HS2 := Aside0.mk (SetAt.below HS.out HBB.out)
     have HB2 := Aside0.mk (below_step HB.out HBB.out)
     clear hb2 HW0 HX0 HF hx0 hx1 HT HS HB hx HBB
     have hnm : x.f0.size ≤ maxLen := by
      have h := HG.out.2
      rw [List.all_eq_true] at h
      have := h x (by rw [EX.out, getD_at l0 _ hlt]; exact List.getElem_mem hlt)
      simpa using this
     have hlk : (Instr.lookup 60 (.map (some w.heap.size)) (.string x.f0) false).run Try.prog w2 = .ok (.bool (hasB x.f0 sn)) w2 := by
      rw [← sk_has]
      exact SetAt.lookup HS2.out (Go.Maps.string_keyed Try.underlying9) Try.underlying60 Try.underlying4 (zeroB w2) (Go.WideMaps.keyOf_string_mk Try.underlying9 hnm) trivial
     have HO : Aside0 (reachOut l0 sn (i + 1) = reachOut l0 sn i ++ (if hasB x.f0 sn && decide ((placeOf (findR (nameIs x.f0) l0)).1 = (i : Int)) then [x.f0] else [])) := ⟨by
      unfold reachOut
      rw [List.range_succ, List.filter_append, List.map_append]
      congr 1
      simp only [List.filter_cons, List.filter_nil]
      rw [← EX.out]
      split
      ·show [(l0.getD i z43).f0] = [x.f0]
       rw [← EX.out]
      ·rfl⟩
     have HLEN : Aside0 ((reachOut l0 sn i).length < LIMS) := ⟨by
      have h1 : (reachOut l0 sn i).length ≤ i := by
       unfold reachOut
       rw [List.length_map]
       have := List.length_filter_le (fun j => hasB (l0.getD j z43).f0 sn && decide ((placeOf (findR (nameIs (l0.getD j z43).f0) l0)).1 = (j : Int))) (List.range i)
       simpa using this
      have := HG.out.1
      omega⟩
     clear hnm
     obtain ⟨pm, hpm⟩ : ∃ pm, pm = (placeOf (findR (nameIs x.f0) l0)).1 := ⟨_, rfl⟩
     obtain ⟨hb, hhb⟩ : ∃ hb, hb = hasB x.f0 sn := ⟨_, rfl⟩
     have hlo : 0 ≤ pm := by rw [hpm]; unfold placeOf; split <;> simp <;> omega
     obtain ⟨pn, rfl⟩ : ∃ pn : Nat, pm = pn := ⟨pm.toNat, by omega⟩
     rw [← hpm, ← hhb] at HO
     rw [← hpm]
     rw [← hhb] at hlk
     clear hpm hhb hlo
     by_cases hyes : hb = true ∧ pn = i
     ·obtain ⟨rfl, rfl⟩ := hyes
      have HO2 : Aside0 (reachOut l0 sn (pn + 1) = reachOut l0 sn pn ++ [x.f0]) := ⟨by rw [HO.out]; simp⟩
      clear HO
      have hx := HX.out
      go_wp2_with (at_builtin; refine Kd.R_append Kd.string (w0 := w) w.heap.size rfl (.tmp 98) (.tmp 101) 37 9 (.string ⟨#[]⟩) 16 rfl Try.underlying37 strInfo rfl (by decide) (by decide) _ (reachOut l0 sn pn) x.f0 [.string x.f0] (fun _ => True) (fun _ => False) rfl rfl ?aP (fun _ hk => hk.elim) ?aF HT2.out HB2.out HB2.out.size ?aL ?_)
      case aP => exact rfl
      case aF => exact fun _ _ => trivial
      case aL => have := HLEN.out; unfold LIMS at this; omega
      intro v1 w8 hq8 hb8 hg8 hat8
      have HT9 : Aside0 (Kd.R Kd.string 9 w8 w.heap.size (fun _ => True) v1 (reachOut l0 sn (pn + 1))) := ⟨by rw [HO2.out]; exact hq8⟩
      have HS9 := Aside0.mk (SetAt.kept HS2.out hg8 (SetAt.ne_own HS2.out (Kd.Q_of_R HT2.out)))
      have HB9 := Aside0.mk hb8
      clear hq8 hb8 hg8 hat8 HT2 HS2 HB2 hx HX hlk
      go_wp2
      go_roundw
      case rel => exact ⟨pn + 1, by go_num, by omega, HT9, HS9, HB9⟩
      case measure => simp [intOf]; omega
     ·have HO2 : Aside0 (reachOut l0 sn (i + 1) = reachOut l0 sn i) := ⟨by
       rw [HO.out]
       have : (hb && decide ((pn : Int) = (i : Int))) = false := by
        cases hb
        ·rfl
        ·simp only [Bool.true_and, decide_eq_false_iff_not]
         intro e; exact hyes ⟨rfl, by omega⟩
       rw [this]; simp⟩
      have HT9 : Aside0 (Kd.R Kd.string 9 w2 w.heap.size (fun _ => True) _ (reachOut l0 sn (i + 1))) := ⟨by rw [HO2.out]; exact HT2.out⟩
      clear HO HT2
      have hx := HX.out
      cases hb with
      | false =>
       clear hyes
       go_wp2
       go_roundw
       case rel => exact ⟨i + 1, by go_num, by omega, HT9, HS2, HB2⟩
       case measure => simp [intOf]; omega
      | true =>
       have hne : ((pn : Int) == (i : Int)) = false := beq_eq_false_iff_ne.mpr (fun e => hyes ⟨rfl, by omega⟩)
       clear hyes
       go_wp2
       go_roundw
       case rel => exact ⟨i + 1, by go_num, by omega, HT9, HS2, HB2⟩
       case measure => simp [intOf]; omega
    ·have hie : i = l0.length := by omega
     have HT3 : Aside0 (Kd.R Kd.string 9 wr w.heap.size (fun _ => True) _ r) := ⟨by have h := HT.out; rw [hie, HRES.out] at h; exact h⟩
     clear hie HT
     go_wp2
     go_ret
     exact ⟨_, rfl, HT3.out, HB.out⟩
  | cons t todo =>
   obtain ⟨ad, ea, hC0⟩ := at_str hC 0 (by simp)
   cases ea
   have HQ1 := HQ.out
   unfold kind_Reach.q at HQ1
   replace HQ1 := Option.bind_eq_some_iff.mp HQ1
   obtain ⟨⟨nm, is⟩, hel, HQ1⟩ := HQ1
   by_cases hg1 : nm.size ≤ maxLen ∧ sn.length < maxLen
   case neg => rw [if_neg hg1] at HQ1; cases HQ1
   rw [if_pos hg1] at HQ1
   have HEL := Aside0.mk hel; clear hel
   have HG1 := Aside0.mk hg1; clear hg1
   have hC1 : wr.cell? ad = some (.string t) := by rw [Addr.add_zero'] at hC0; exact hC0
   have HC1 := Aside0.mk hc
   clear hC hC0 hc
   go_wp2_with fail
   refine (kind_Elem.calls k t nm is wr HEL.out).mono ?_
   rintro e w2 ⟨rfl, hb2⟩
   clear hC1
   have HT2 := Aside0.mk (Kd.Q_below HT.out hb2)
   have HS2 := Aside0.mk (SetAt.below HS.out hb2)
   have HB2 := Aside0.mk (below_step HB.out hb2)
   clear hb2 HT HS HB
   obtain ⟨A2, c2, hcut, hq2⟩ := cut_queue (P := Try.prog) (t := 37) (e := 9) Try.underlying37 (by kernel_rfl) HT2.out
   have HT3 := Aside0.mk hq2; clear hq2 HT2 HC1
   go_wp2_with fail
   have HF : Aside0 (kind_Find.f l0 nm = some ((placeOf (findR (nameIs nm) l0)).1, (placeOf (findR (nameIs nm) l0)).2)) := ⟨rfl⟩
   refine (kind_Find.calls A0 c0 l0 nm _ _ w2 (Kd.C_below HR0.out HB2.out) HC0.out HF.out).mono ?_
   rintro e w3 ⟨rfl, hb3⟩
   have HT4 := Aside0.mk (Kd.Q_below HT3.out hb3)
   have HS4 := Aside0.mk (SetAt.below HS2.out hb3)
   have HB4 := Aside0.mk (below_step HB2.out hb3)
   clear hb3 HT3 HS2 HB2 HF hcut
   have hlk : (Instr.lookup 60 (.map (some w.heap.size)) (.string nm) false).run Try.prog w3 = .ok (.bool (hasB nm sn)) w3 := by
    rw [← sk_has]
    exact SetAt.lookup HS4.out (Go.Maps.string_keyed Try.underlying9) Try.underlying60 Try.underlying4 (zeroB w3) (Go.WideMaps.keyOf_string_mk Try.underlying9 HG1.out.1) trivial
   by_cases hyes : is = true ∧ 0 ≤ findR (nameIs nm) l0 ∧ hasB nm sn = false
   ·rw [if_pos hyes] at HQ1
    replace HQ1 := Option.bind_eq_some_iff.mp HQ1
    obtain ⟨ks, hks, HQ1⟩ := HQ1
    by_cases hg2 : linksIn (l0.getD (findR (nameIs nm) l0).toNat z43).f1 ks = true ∧ todo.length + ks.length < LIMS
    case neg => rw [if_neg hg2] at HQ1; cases HQ1
    rw [if_pos hg2] at HQ1
    have HKS := Aside0.mk hks; have HG2 := Aside0.mk hg2; have HQ2 := Aside0.mk HQ1; clear hks hg2 HQ1 HQ
    obtain ⟨his, hm0, hh⟩ := hyes
    rw [hh] at hlk
    subst his
    obtain ⟨m, hm⟩ : ∃ m : Nat, findR (nameIs nm) l0 = m := ⟨(findR (nameIs nm) l0).toNat, by omega⟩
    have hml : m < l0.length := find_lt hm
    have hpl : placeOf (findR (nameIs nm) l0) = ((m : Int), true) := by rw [hm]; unfold placeOf; rw [if_neg (by omega)]
    rw [hpl]
    rw [hm, Int.toNat_natCast] at HKS HG2 HQ2
    have HH := Aside0.mk hh
    clear hpl hm0 hm hh
    have hkey : keyOf Try.prog 9 (.string nm) = some (sk nm) := Go.WideMaps.keyOf_string_mk Try.underlying9 HG1.out.1
    have HKEY := Aside0.mk hkey; clear hkey
    go_wp2_with (at_mapUpdate; refine SetAt.update_op HS4.out rfl (.tmp 50) (.tmp 51) (.const (.bool true)) rfl (Go.Maps.string_keyed Try.underlying9) Try.underlying60 Try.underlying4 rfl ?hn (.string nm) (sk nm) rfl rfl HKEY.out trivial ?_)
    case hn => rw [List.length_map]; exact HG1.out.2
    intro w4 hs4 hg4
    have HS5 : Aside0 (SetAt w4 Try.prog 9 4 w.heap.size ((nm :: sn).map sk)) := ⟨hs4⟩
    have HT5 : Aside0 (Kd.Q Kd.string 9 w4 w.heap.size (fun j => j ≠ w.heap.size) (.slice A2 todo.length c2) todo) := ⟨Kd.Q_step HT4.out (fun j hj hlt => hg4.block j hlt (fun e => hj (by injection e)))⟩
    have HB5 : Aside0 (Below w.heap.size w w4) := ⟨HB4.out.grown hg4 HB4.out.size (fun j hj => by injection hj with hj; omega)⟩
    clear hs4 hg4 hlk HS4 HT4 HB4 HKEY
    obtain ⟨bd, B1, d1, e2, hx0, hx1, hl1, hi1⟩ := atN_T43 (Kd.C_below HR0.out HB5.out) m hml
    cases e2
    obtain ⟨x, ex⟩ : ∃ x, x = l0.getD m z43 := ⟨_, rfl⟩
    rw [← ex] at hx0 hx1 hl1 hi1 HKS HG2 HQ2
    have EX := Aside0.mk ex; clear ex
    have HI := Aside0.mk hi1; have HL := Aside0.mk hl1; clear hi1 hl1
    go_wp2_with fail
    refine (kind_Links.calls k x.f0 B1 d1 x.f1 ks w4 HI.out HL.out HKS.out).mono ?_
    rintro e w5 ⟨v0, rfl, hv0, hb5⟩
    have HS6 := Aside0.mk (SetAt.below HS5.out hb5)
    have HT6 := Aside0.mk (Kd.Q_below HT5.out hb5)
    have HB6 := Aside0.mk (below_step HB5.out hb5)
    obtain ⟨A3, c3, rfl, hkl, hkC⟩ := Kd.R_reads hv0
    have HK6 := Aside0.mk hv0
    have HKM := Aside0.mk (Kd.C_max hkC)
    have hkm := HKM.out
    clear hb5 hkl hkC hv0 HS5 HT5 HB5 HI HL HKS hx0 hx1
    go_wp2_with fail
    go_loopw [6, 12, 58] (fun v6 _ v58 wr => ∃ i : Nat, v58 = .int .i64 i ∧ i ≤ ks.length ∧ Aside0 (Kd.Q Kd.string 9 wr w.heap.size (fun j => j ≠ w.heap.size) v6 (todo ++ (typesAt x.f1 ks).take i)) ∧ Aside0 (SetAt wr Try.prog 9 4 w.heap.size ((nm :: sn).map sk)) ∧ Aside0 (Kd.R (Kd.int .i64) 3 wr w4.heap.size (fun _ => True) (.slice A3 ks.length c3) ks) ∧ Aside0 (Below w.heap.size w wr)) (fun _ _ v58 _ => ks.length - (intOf v58).toNat)
    case atStart => exact ⟨0, rfl, Nat.zero_le _, ⟨by simpa using HT6.out⟩, HS6, HK6, HB6⟩
    case round =>
     clear HS6 HT6 HK6 HB6
     obtain ⟨i, rfl, hi, HT7, HS7, HK7, HB7⟩ := hrel
     by_cases hlt : i < ks.length
     ·obtain ⟨q, hq⟩ : ∃ q, q = ks.getD i 0 := ⟨_, rfl⟩
      have hqr := links_at HG2.out.1 hlt
      rw [← hq] at hqr
      obtain ⟨qn, rfl⟩ : ∃ qn : Nat, q = qn := ⟨q.toNat, by omega⟩
      have hqn : qn < x.f1.length := by omega
      obtain ⟨ak, ea, hkc⟩ := at_int (Kd.R_reads' HK7.out).2.2 i hlt
      cases ea
      rw [← hq] at hkc
      obtain ⟨bd2, B2, d2, e2, hx0, hx1, hl1, hi1⟩ := atN_T43 (Kd.C_below HR0.out HB7.out) m hml
      cases e2
      rw [← EX.out] at hx0 hx1 hl1 hi1
      obtain ⟨fd, e3, hf0, hf1⟩ := atN_F' hi1 qn hqn
      cases e3
      obtain ⟨y, ey⟩ : ∃ y, y = x.f1.getD qn z48 := ⟨_, rfl⟩
      rw [← ey] at hf0 hf1
      have hty : (typesAt x.f1 ks).take (i + 1) = (typesAt x.f1 ks).take i ++ [y.f1] := by
       rw [List.take_succ_eq_append_getElem (by simpa [typesAt] using hlt)]
       have e : (typesAt x.f1 ks)[i]'(by simpa [typesAt] using hlt) = y.f1 := by
        simp only [typesAt, List.getElem_map]
        rw [← getD_at ks 0 hlt, ← hq, ey]
        rfl
       rw [e]
      have HTY := Aside0.mk hty
      clear hty hi1 hl1 ey hq hqr
      have hlen2 : (todo ++ (typesAt x.f1 ks).take i).length < LIMS := by
       have := HG2.out.2
       simp only [List.length_append, List.length_take]
       have : min i (typesAt x.f1 ks).length ≤ ks.length := by simp [typesAt]; omega
       omega
      have HLEN := Aside0.mk hlen2; clear hlen2
      go_wp2_with (at_builtin; refine Kd.Q_append Kd.string (w0 := w) w.heap.size rfl (.tmp 62) (.tmp 72) 37 9 (.string ⟨#[]⟩) 16 rfl Try.underlying37 strInfo rfl (by decide) (by decide) _ (todo ++ (typesAt x.f1 ks).take i) y.f1 [.string y.f1] (fun j => j ≠ w.heap.size) (fun _ => False) rfl rfl ?aP (fun _ hk => hk.elim) ?aF HT7.out HB7.out HB7.out.size ?aL ?_)
      case aP => exact rfl
      case aF => intro j hj e; have := SetAt.lt HS7.out; omega
      case aL => have := HLEN.out; unfold LIMS at this; omega
      intro v1 w8 hq8 hb8 hg8 hat8
      have HT9 : Aside0 (Kd.Q Kd.string 9 w8 w.heap.size (fun j => j ≠ w.heap.size) v1 (todo ++ (typesAt x.f1 ks).take (i + 1))) := ⟨by rw [HTY.out]; simpa using hq8⟩
      have HS9 := Aside0.mk (SetAt.kept HS7.out hg8 (SetAt.ne_own HS7.out HT7.out))
      have HK9 := Aside0.mk (Kd.R_over' HK7.out (Kd.Q_typed HT7.out) (by decide) hg8)
      have HB9 := Aside0.mk hb8
      clear hq8 hb8 hg8 hat8 HT7 HS7 HK7 HB7 hx0 hx1 hf0 hf1 hkc
      go_wp2
      go_roundw
      case rel => exact ⟨i + 1, by go_num, by omega, HT9, HS9, HK9, HB9⟩
      case measure => simp [intOf]; omega
     ·have hie : i = ks.length := by omega
      have HT8 : Aside0 (Kd.Q Kd.string 9 wr w.heap.size (fun j => j ≠ w.heap.size) u6 (todo ++ typesAt x.f1 ks)) := ⟨by have h := HT7.out; rw [hie, List.take_of_length_le (by simp [typesAt])] at h; exact h⟩
      clear hie HT7
      go_wp2
      go_roundg kq
      case rel => exact ⟨todo ++ typesAt x.f1 ks, nm :: sn, HQ2, HT8, HS7, HB7⟩
      case measure => omega
   ·rw [if_neg hyes] at HQ1
    have HQ2 := Aside0.mk HQ1; clear HQ1 HQ
    have hstop : (!is || !(placeOf (findR (nameIs nm) l0)).2 || hasB nm sn) = true := by
     unfold placeOf
     by_cases h1 : findR (nameIs nm) l0 < 0
     ·rw [if_pos h1]; simp
     ·rw [if_neg h1]
      cases his : is
      ·simp
      ·have : hasB nm sn = true := by
        cases hh : hasB nm sn
        ·exact absurd ⟨his, by omega, hh⟩ hyes
        ·rfl
       rw [this]; simp
    clear hyes
    obtain ⟨pl, hpl⟩ : ∃ pl, pl = (placeOf (findR (nameIs nm) l0)).2 := ⟨_, rfl⟩
    obtain ⟨pm, hpm⟩ : ∃ pm, pm = (placeOf (findR (nameIs nm) l0)).1 := ⟨_, rfl⟩
    obtain ⟨hb, hhb⟩ : ∃ hb, hb = hasB nm sn := ⟨_, rfl⟩
    rw [← hpl, ← hhb] at hstop
    rw [← hpl, ← hpm]
    rw [← hhb] at hlk
    clear hpl hpm hhb
    cases is <;> cases pl <;> cases hb <;> first | (simp at hstop; done) | skip
    all_goals
     clear hstop
     go_wp2
     go_roundg kq
     case rel => exact ⟨todo, sn, HQ2, HT4, HS4, HB4⟩
     case measure => omega
end Go.Proofs.Ythpglaekdadehaa.Q
