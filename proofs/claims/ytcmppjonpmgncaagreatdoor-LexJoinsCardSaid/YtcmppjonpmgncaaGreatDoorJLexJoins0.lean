/- What the row of LexJoins rests on, part 0: contracts of the functions that it reaches, and the plain law. -/
import Derived.Test.YtcmppjonpmgncaaGreatDoorProg
import Derived.Below
import Derived.Deep.Draws
import Derived.Deep.AppendLies
import Derived.Maps.AppendAt
import Derived.OwnWalk
import Derived.Laws.BytesArg
import Derived.Laws.MakeOwn
import Derived.Laws.OwnMore
import Derived.Deep.OwnRows
import Derived.Tactics
import Derived.Lib.ConvBytes
import Derived.Laws.Slices
import Derived.WalkKit
import Derived.KernelRfl
import Derived.RowKit3
import Derived.Deep.LoopGhost
import Derived.Deep.QuietTactic
import Derived.BigQuiet
import Derived.WideLaws
import Derived.Deep.DeepCutAuto
import Derived.Deep.CutBlock
import Derived.Deep.RegionHeld3
import Derived.Laws.Rows
import Derived.Lib.AppendStr
import Derived.ArgAppend
import Derived.Laws.IdiomCopy
import Derived.OrdersHeld
import Derived.Laws.BitsLemmas
import Derived.RowKit
import Derived.Test.YtcmppjonpmgncaaGreatDoorWWords
import Derived.Test.YtcmppjonpmgncaaGreatDoorWLast
import Derived.Test.YtcmppjonpmgncaaGreatDoorWTab
import Derived.Test.YtcmppjonpmgncaaGreatDoorWQPut
import Derived.Test.YtcmppjonpmgncaaGreatDoorWApart
import Derived.Test.YtcmppjonpmgncaaGreatDoorWArr
import Derived.Test.YtcmppjonpmgncaaGreatDoorWZeros
import Derived.Test.YtcmppjonpmgncaaGreatDoorWFoot
import Derived.Test.YtcmppjonpmgncaaGreatDoorWKept
import Derived.Test.YtcmppjonpmgncaaGreatDoorWShare
import Derived.Test.YtcmppjonpmgncaaGreatDoorWN
import Derived.Test.YtcmppjonpmgncaaGreatDoorWEqStruct
import Derived.Test.YtcmppjonpmgncaaGreatDoorWRepsOne
import Derived.Test.YtcmppjonpmgncaaGreatDoorWInv
import Derived.Test.YtcmppjonpmgncaaGreatDoorWGuard
import Derived.Test.YtcmppjonpmgncaaGreatDoorWNEv
import Derived.Test.YtcmppjonpmgncaaGreatDoorWMore
import Derived.Shelf.Strings.Builder1
import Derived.Shelf.Strings.Builder2
import Derived.Shelf.Strings.OnBuilder
import Derived.Shelf.Strings.Trim
import Derived.Shelf.Small.Utf8
import Derived.Shelf.Small.Strs
import Derived.Shelf.Utf8.RuneCount
import Derived.Shelf.Strconv.Atoi
import Derived.Shelf.Strconv.Itoa0
import Derived.Shelf.Strconv.Itoa1
import Derived.Shelf.LaysM
import Derived.Shelf.Strconv.Itoa2
import Derived.Shelf.Strconv.Itoa3
import Derived.Shelf.Strconv.AtoiErrFast
import Derived.Shelf.Strconv.ParseIntEmpty
import Derived.Shelf.Strconv.AtoiFail
import Derived.Shelf.Strconv.Clone
import Derived.Shelf.Strconv.SyntaxError
import Derived.Shelf.LaysC
import Derived.Shelf.Strconv.ToError
import Derived.Shelf.Strconv.Lower
import Derived.Shelf.Strconv.ParseUint10
import Derived.Shelf.Strconv.ParseUint10Empty
import Derived.Shelf.Strconv.ParseUint10Any
import Derived.Shelf.Strconv.ParseInt10
import Derived.Shelf.Strconv.AtoiLong
import Derived.Shelf.Strconv.AtoiInnerAll
import Derived.Shelf.Strconv.RangeError
import Derived.Shelf.Strconv.ToErrorRange
import Derived.Shelf.Strconv.AtoiAll
import Derived.Shelf.Strconv.ErrVarAll
import Derived.Shelf.Strings.Search1
import Derived.Shelf.Strings.Search2
import Derived.Shelf.Strings.Search3
import Derived.Shelf.Strings.Count
import Derived.Shelf.Strings.Shaped
import Derived.Shelf.Strings.LastIndex
import Derived.Shelf.Strings.Split
import Derived.Shelf.Unicode.Decode
import Derived.Shelf.Strings.Runes
import Derived.Shelf.Strings.RuneCount
import Derived.Shelf.Strings.AsciiSet
import Derived.Shelf.Unicode.DecodeSlow
import Derived.Shelf.Unicode.DecodeAny
import Derived.Shelf.Unicode.DecodeLast
import Derived.Shelf.Slices.Turned
import Derived.Ground.SlgfProg
import Derived.Shelf.SlicesE.IndexFunc
import Derived.Lib.AppendIntMem
import Derived.Shelf.Strings.SlTrimAscii
import Derived.Deep.Slices
import Derived.SizedLaws
import Derived.OpenShut
import Derived.ProofKit
import Derived.ShutString
import Derived.ChangeOld
import Derived.Test.YtcmppjonpmgncaaGreatDoorCards
import Derived.Test.YtcmppjonpmgncaaGreatDoorTie
import Derived.Stop.LaidErr
import Derived.Stop.Joined
import Derived.Lib.LaidTab
import Derived.LaidMore
import Derived.Lay
import Derived.SevenTiedAt
namespace Go.Proofs.YtcmppjonpmgncaaGreatDoor.Q
open Go.RowKit Go.Proofs.YtcmppjonpmgncaaGreatDoorW.PrintWords Go.Proofs.YtcmppjonpmgncaaGreatDoorW.PrintLast Go.Proofs.YtcmppjonpmgncaaGreatDoorW.PrintMore
attribute [local go_sem] max2_int min2_int max_two min_two max_three min_three max_four min_four   -- for this text's walks alone
set_option linter.unusedVariables false
set_option linter.unusedSimpArgs false



def errW : Option Int → Value
 | none => .nilIface
 | some c => .iface 86 (.int .i64 c)
theorem errW_none : errW none = .nilIface := rfl
theorem errW_some (c : Int) : errW (some c) = .iface 86 (.int .i64 c) := rfl

theorem info9 : (Tryz.prog.info? 9).map (fun i => (i.zero, i.size, i.bytes)) = some (some (.string ⟨#[]⟩), 1, 16) := by kernel_rfl
theorem info32 : (Tryz.prog.info? 32).map (fun i => (i.zero, i.size, i.bytes)) = some (some (.agg #[(.int .i64 0), (.string ⟨#[]⟩), (.int .i64 0)]), 3, 32) := by kernel_rfl
/-! #### struct type 32 -/
structure S32 where
 f0 : Int
 f1 : ByteArray
 f2 : Int
def z32 : S32 := ⟨(0 : Int), (⟨#[]⟩ : ByteArray), (0 : Int)⟩
def k32 : Kd S32 := Kd.iso (Kd.pair (Kd.int .i64) (Kd.pair Kd.string (Kd.int .i64))) (fun x : S32 => (x.f0, x.f1, x.f2))
theorem k32_open {w : World} {x : S32} {cs : List Value} (h : k32.K w x cs) : cs = [.int .i64 x.f0, .string x.f1, .int .i64 x.f2] := by
 obtain ⟨_, _, rfl, rfl, ⟨_, _, rfl, rfl, rfl⟩⟩ := h
 exact rfl
theorem k32_mkM (w : World) (base : Nat) (ok : Nat → Prop) (x : S32)  : k32.M w base ok x [.int .i64 x.f0, .string x.f1, .int .i64 x.f2] := ⟨[.int .i64 x.f0], [.string x.f1, .int .i64 x.f2], rfl, rfl, ⟨[.string x.f1], [.int .i64 x.f2], rfl, rfl, rfl⟩⟩
def rd_T32 (xs : List S32) (i : Int) : S32 := xs.getD i.toNat z32
theorem at_T32 {w : World} {A : Option Addr} {n : Nat} {xs : List S32} (h : Kd.C k32 w A n xs) (i : Int) (h0 : 0 ≤ i) (h1 : i < n) : ∃ ad , A = some ad ∧ w.cell? (ad.add (i.toNat * 3)) = some (.int .i64 (rd_T32 xs i).f0) ∧ w.cell? ⟨(ad.add (i.toNat * 3)).block, (ad.add (i.toNat * 3)).off + 1, none⟩ = some (.string (rd_T32 xs i).f1) ∧ w.cell? ⟨(ad.add (i.toNat * 3)).block, (ad.add (i.toNat * 3)).off + 2, none⟩ = some (.int .i64 (rd_T32 xs i).f2) := by
 obtain ⟨ad, c, e, _, hK, hc0⟩ := Kd.C_get h z32 i h0 h1
 have hc : ∀ j u, c[j]? = some u → w.cell? (ad.add (i.toNat * 3 + j)) = some u := hc0
 obtain rfl := k32_open hK
 exact ⟨ad, e, hc 0 _ rfl, by rw [← add_field _ _ 1 (by omega)]; exact hc 1 _ rfl, by rw [← add_field _ _ 2 (by omega)]; exact hc 2 _ rfl⟩

end Go.Proofs.YtcmppjonpmgncaaGreatDoor.Q

namespace Go.Proofs.YtcmppjonpmgncaaGreatDoor.Q
open Go.RowKit Go.Proofs.YtcmppjonpmgncaaGreatDoorW.PrintWords Go.Proofs.YtcmppjonpmgncaaGreatDoorW.PrintLast Go.Proofs.YtcmppjonpmgncaaGreatDoorW.PrintMore
attribute [local go_sem] max2_int min2_int max_two min_two max_three min_three max_four min_four   -- for this text's walks alone
set_option linter.unusedVariables false
set_option linter.unusedSimpArgs false

theorem eqA32 (d : Nat) (w : World) (x0 y0 : Int) (x1 y1 : ByteArray) (x2 y2 : Int) :
  (Op.equalIn (d + 2) 32 (.agg #[.int .i64 x0, .string x1, .int .i64 x2]) (.agg #[.int .i64 y0, .string y1, .int .i64 y2])).run Tryz.prog w = .ok (x0 == y0 && (x1.toList == y1.toList && (x2 == y2))) w := by
 refine eqA_of Tryz.underlying32 (by kernel_rfl) ?_
 refine eqf_cons (by rfl) (by go_simp; rfl) (by go_simp; rfl) (by go_simp) ?_
 refine eqf_cons (by rfl) (by go_simp; rfl) (by go_simp; rfl) (by go_simp) ?_
 exact eqf_last (by rfl) (by go_simp; rfl) (by go_simp; rfl) (by go_simp)
end Go.Proofs.YtcmppjonpmgncaaGreatDoor.Q

namespace Go.Proofs.YtcmppjonpmgncaaGreatDoor.Q
open Go.RowKit Go.Proofs.YtcmppjonpmgncaaGreatDoorW.PrintWords Go.Proofs.YtcmppjonpmgncaaGreatDoorW.PrintLast Go.Proofs.YtcmppjonpmgncaaGreatDoorW.PrintMore
attribute [local go_sem] max2_int min2_int max_two min_two max_three min_three max_four min_four   -- for this text's walks alone
set_option linter.unusedVariables false
set_option linter.unusedSimpArgs false

/-! ### lex_isLetter: function 33 -/
def lex_isLetter.f (a0 : Int) : Option (Bool) := if a0 ≥ 97 then (if a0 ≤ 122 then (some true) else (if a0 ≥ 65 then (if a0 ≤ 90 then (some true) else (some (a0 == 95))) else (some (a0 == 95)))) else (if a0 ≥ 65 then (if a0 ≤ 90 then (some true) else (some (a0 == 95))) else (some (a0 == 95)))
set_option maxHeartbeats 8000000 in
set_option maxRecDepth 100000 in
theorem lex_isLetter.calls (a0 : Int) (r : Bool) (w : World) (h : lex_isLetter.f a0 = some r) :
  Calls Tryz.prog 33 #[.int .u8 a0] w fun e w' => e = .returned (.bool r) ∧ Drawn0 w w' := by
 have H : (if a0 ≥ 97 then (if a0 ≤ 122 then (some true) else (if a0 ≥ 65 then (if a0 ≤ 90 then (some true) else (some (a0 == 95))) else (some (a0 == 95)))) else (if a0 ≥ 65 then (if a0 ≤ 90 then (some true) else (some (a0 == 95))) else (some (a0 == 95)))) = some r := h
 clear h
 by_cases c2 : a0 ≥ 97
 ·rw [if_pos c2] at H
  have c2b0 : decide (97 ≤ a0) = true := decide_eq_true c2
  clear c2
  by_cases c3 : a0 ≤ 122
  ·rw [if_pos c3] at H
   have c3b0 : decide (a0 ≤ 122) = true := decide_eq_true c3
   clear c3
   obtain rfl := Option.some.inj H
   go_enter Tryz.func33, Tryz.ntmps33
   go_wp2
   go_ret
   exact ⟨by first | rfl | (simp; done) | (simp [*]; done), by repeat (first | exact Drawn0.refl _ | apply Drawn0.step)⟩
  ·rw [if_neg c3] at H
   have c3b0 : decide (a0 ≤ 122) = false := decide_eq_false c3
   clear c3
   by_cases c4 : a0 ≥ 65
   ·rw [if_pos c4] at H
    have c4b0 : decide (65 ≤ a0) = true := decide_eq_true c4
    clear c4
    by_cases c5 : a0 ≤ 90
    ·rw [if_pos c5] at H
     have c5b0 : decide (a0 ≤ 90) = true := decide_eq_true c5
     clear c5
     obtain rfl := Option.some.inj H
     go_enter Tryz.func33, Tryz.ntmps33
     go_wp2
     go_ret
     exact ⟨by first | rfl | (simp; done) | (simp [*]; done), by repeat (first | exact Drawn0.refl _ | apply Drawn0.step)⟩
    ·rw [if_neg c5] at H
     have c5b0 : decide (a0 ≤ 90) = false := decide_eq_false c5
     clear c5
     obtain rfl := Option.some.inj H
     go_enter Tryz.func33, Tryz.ntmps33
     go_wp2
     go_ret
     exact ⟨by first | rfl | (simp; done) | (simp [*]; done), by repeat (first | exact Drawn0.refl _ | apply Drawn0.step)⟩
   ·rw [if_neg c4] at H
    have c4b0 : decide (65 ≤ a0) = false := decide_eq_false c4
    clear c4
    obtain rfl := Option.some.inj H
    go_enter Tryz.func33, Tryz.ntmps33
    go_wp2
    go_ret
    exact ⟨by first | rfl | (simp; done) | (simp [*]; done), by repeat (first | exact Drawn0.refl _ | apply Drawn0.step)⟩
 ·rw [if_neg c2] at H
  have c2b0 : decide (97 ≤ a0) = false := decide_eq_false c2
  clear c2
  by_cases c6 : a0 ≥ 65
  ·rw [if_pos c6] at H
   have c6b0 : decide (65 ≤ a0) = true := decide_eq_true c6
   clear c6
   by_cases c7 : a0 ≤ 90
   ·rw [if_pos c7] at H
    have c7b0 : decide (a0 ≤ 90) = true := decide_eq_true c7
    clear c7
    obtain rfl := Option.some.inj H
    go_enter Tryz.func33, Tryz.ntmps33
    go_wp2
    go_ret
    exact ⟨by first | rfl | (simp; done) | (simp [*]; done), by repeat (first | exact Drawn0.refl _ | apply Drawn0.step)⟩
   ·rw [if_neg c7] at H
    have c7b0 : decide (a0 ≤ 90) = false := decide_eq_false c7
    clear c7
    obtain rfl := Option.some.inj H
    go_enter Tryz.func33, Tryz.ntmps33
    go_wp2
    go_ret
    exact ⟨by first | rfl | (simp; done) | (simp [*]; done), by repeat (first | exact Drawn0.refl _ | apply Drawn0.step)⟩
  ·rw [if_neg c6] at H
   have c6b0 : decide (65 ≤ a0) = false := decide_eq_false c6
   clear c6
   obtain rfl := Option.some.inj H
   go_enter Tryz.func33, Tryz.ntmps33
   go_wp2
   go_ret
   exact ⟨by first | rfl | (simp; done) | (simp [*]; done), by repeat (first | exact Drawn0.refl _ | apply Drawn0.step)⟩

end Go.Proofs.YtcmppjonpmgncaaGreatDoor.Q

namespace Go.Proofs.YtcmppjonpmgncaaGreatDoor.Q
open Go.RowKit Go.Proofs.YtcmppjonpmgncaaGreatDoorW.PrintWords Go.Proofs.YtcmppjonpmgncaaGreatDoorW.PrintLast Go.Proofs.YtcmppjonpmgncaaGreatDoorW.PrintMore
attribute [local go_sem] max2_int min2_int max_two min_two max_three min_three max_four min_four   -- for this text's walks alone
set_option linter.unusedVariables false
set_option linter.unusedSimpArgs false

/-! ### lex_isDigit: function 35 -/
def lex_isDigit.f (a0 : Int) : Option (Bool) := if a0 ≥ 48 then (some (decide (a0 ≤ 57))) else (some false)
set_option maxHeartbeats 8000000 in
set_option maxRecDepth 100000 in
theorem lex_isDigit.calls (a0 : Int) (r : Bool) (w : World) (h : lex_isDigit.f a0 = some r) :
  Calls Tryz.prog 35 #[.int .u8 a0] w fun e w' => e = .returned (.bool r) ∧ Drawn0 w w' := by
 have H : (if a0 ≥ 48 then (some (decide (a0 ≤ 57))) else (some false)) = some r := h
 clear h
 by_cases c2 : a0 ≥ 48
 ·rw [if_pos c2] at H
  have c2b0 : decide (48 ≤ a0) = true := decide_eq_true c2
  clear c2
  obtain rfl := Option.some.inj H
  go_enter Tryz.func35, Tryz.ntmps35
  go_wp2
  go_ret
  exact ⟨by first | rfl | (simp; done) | (simp [*]; done), by repeat (first | exact Drawn0.refl _ | apply Drawn0.step)⟩
 ·rw [if_neg c2] at H
  have c2b0 : decide (48 ≤ a0) = false := decide_eq_false c2
  clear c2
  obtain rfl := Option.some.inj H
  go_enter Tryz.func35, Tryz.ntmps35
  go_wp2
  go_ret
  exact ⟨by first | rfl | (simp; done) | (simp [*]; done), by repeat (first | exact Drawn0.refl _ | apply Drawn0.step)⟩

end Go.Proofs.YtcmppjonpmgncaaGreatDoor.Q

namespace Go.Proofs.YtcmppjonpmgncaaGreatDoor.Q
open Go.RowKit Go.Proofs.YtcmppjonpmgncaaGreatDoorW.PrintWords Go.Proofs.YtcmppjonpmgncaaGreatDoorW.PrintLast Go.Proofs.YtcmppjonpmgncaaGreatDoorW.PrintMore
attribute [local go_sem] max2_int min2_int max_two min_two max_three min_three max_four min_four   -- for this text's walks alone
set_option linter.unusedVariables false
set_option linter.unusedSimpArgs false

/-! ### slices_Index_string_string: function 39 -/
def slices_Index_string_string.l0 : Nat → List ByteArray → ByteArray → Int → Int → Option (Int)
 | 0, _, _, _, _ => none
 | k + 1, x0, x1, x7, x8 => if x8 < x7 then (if 0 ≤ x8 then (if x8 < (x0.length : Int) then (if x1.toList = (rdOf ByteArray.empty x0 x8).toList then (some x8) else (slices_Index_string_string.l0 k x0 x1 x7 (wrap64 (x8 + 1)))) else (none)) else (none)) else (some (-1))
def slices_Index_string_string.f (k : Nat) (l0 : List ByteArray) (a1 : ByteArray) : Option (Int) := slices_Index_string_string.l0 k l0 a1 (l0.length : Int) 0
theorem slices_Index_string_string.mono_l : ∀ k, (∀ y0 y1 y2 y3, LeO (slices_Index_string_string.l0 k y0 y1 y2 y3) (slices_Index_string_string.l0 (k + 1) y0 y1 y2 y3))
 | 0 => fun _ _ _ _ r h => by simp [slices_Index_string_string.l0] at h
 | k + 1 => by
  have ih0 := slices_Index_string_string.mono_l k
  ·intro y0 y1 y2 y3
   unfold slices_Index_string_string.l0
   repeat' first
   | (with_reducible exact ih0 _ _ _ _)
   | (with_reducible exact LeO.refl _)
   | (with_reducible exact LeO.none _)
   | (with_reducible refine LeO.ite ?_ ?_)
   | (with_reducible refine LeO.bind ?_ (fun _ => ?_))
   | exact ih0 _ _ _ _
   | exact LeO.none _
   | refine LeO.ite ?_ ?_
   | refine LeO.bind ?_ (fun _ => ?_)
theorem slices_Index_string_string.mono : ∀ a0 a1 k, LeO (slices_Index_string_string.f k a0 a1) (slices_Index_string_string.f (k + 1) a0 a1) := by
 intro a0 a1 k
 have ih0 := slices_Index_string_string.mono_l k
 unfold slices_Index_string_string.f
 repeat' first
   | (with_reducible exact ih0 _ _ _ _)
   | (with_reducible exact LeO.refl _)
   | (with_reducible exact LeO.none _)
   | (with_reducible refine LeO.ite ?_ ?_)
   | (with_reducible refine LeO.bind ?_ (fun _ => ?_))
   | exact ih0 _ _ _ _
   | exact LeO.none _
   | refine LeO.ite ?_ ?_
   | refine LeO.bind ?_ (fun _ => ?_)
set_option maxHeartbeats 8000000 in
set_option maxRecDepth 100000 in
theorem slices_Index_string_string.calls (k : Nat) (A0 : Option Addr) (c0 : Nat) (l0 : List ByteArray) (a1 : ByteArray) (r : Int) (w : World) (hr0 : Kd.C Kd.string w A0 l0.length l0) (hc0 : l0.length ≤ c0) (h : slices_Index_string_string.f k l0 a1 = some r) :
  Calls Tryz.prog 39 #[.slice A0 l0.length c0, .string a1] w fun e w' => e = .returned (.int .i64 r) ∧ Drawn0 w w' := by
 have HR0 := Aside0.mk hr0
 have HC0 := Aside0.mk hc0
 clear hr0 hc0
 have H : (slices_Index_string_string.l0 k l0 a1 (l0.length : Int) 0) = some r := h
 clear h
 have H' := Aside0.mk H
 clear H
 go_enter Tryz.func39, Tryz.ntmps39
 go_wp2
 go_loopg [8] k (fun kq v8 w' => ∃ (x8_1 : Int), v8 = .int .i64 x8_1 ∧ Aside0 (slices_Index_string_string.l0 kq l0 a1 (l0.length : Int) x8_1 = some r) ∧ Aside0 (kq ≤ k) ∧ Drawn0 w w')
 case atStart => exact ⟨(0), (by first | rfl | (simp; done) | (simp [*]; done)), H', ⟨Nat.le_refl _⟩, by repeat (first | exact Drawn0.refl _ | apply Drawn0.step)⟩
 case round =>
  clear H'
  try clear p2
  obtain ⟨x8_1, rfl, HA, HK1, ⟨m1, rfl⟩⟩ := hrel
  cases gk with
  | zero => exact absurd HA.out (by simp [slices_Index_string_string.l0])
  | succ k1 =>
   have H := HA.out
   clear HA
   simp only [slices_Index_string_string.l0] at H
   by_cases c3 : x8_1 < (l0.length : Int)
   ·rw [if_pos c3] at H
    have c3b0 : decide (x8_1 < (l0.length : Int)) = true := decide_eq_true c3
    clear c3
    by_cases c4 : 0 ≤ x8_1
    ·rw [if_pos c4] at H
     have c4b0 : decide (0 ≤ x8_1) = true := decide_eq_true c4
     clear c4
     by_cases c5 : x8_1 < (l0.length : Int)
     ·rw [if_pos c5] at H
      have c5b0 : decide (x8_1 < (l0.length : Int)) = true := decide_eq_true c5
      clear c5
      by_cases c6 : a1.toList = (rdOf ByteArray.empty l0 x8_1).toList
      ·rw [if_pos c6] at H
       have c6b0 : (a1.toList == (rdOf ByteArray.empty l0 x8_1).toList) = true := beq_iff_eq.mpr c6
       have c6b1 : (a1.toList != (rdOf ByteArray.empty l0 x8_1).toList) = false := bne_eq_false_iff_eq.mpr c6
       clear c6
       obtain rfl := Option.some.inj H
       have p102 : 0 ≤ (x8_1 : Int) := of_decide_eq_true (by first | (with_reducible assumption) | assumption)
       have q102 : x8_1 < (l0.length : Int) := of_decide_eq_true (by first | (with_reducible assumption) | assumption)
       obtain ⟨ad102, e102, hx102_0⟩ := Kd.at_string HR0.out x8_1 p102 q102
       cases e102
       replace p102 := eq_true p102
       replace q102 := eq_true q102
       go_wp2
       go_ret
       exact ⟨by first | rfl | (simp; done) | (simp [*]; done), by repeat (first | exact Drawn0.refl _ | apply Drawn0.step)⟩
      ·rw [if_neg c6] at H
       have c6b0 : (a1.toList == (rdOf ByteArray.empty l0 x8_1).toList) = false := beq_eq_false_iff_ne.mpr c6
       have c6b1 : (a1.toList != (rdOf ByteArray.empty l0 x8_1).toList) = true := bne_iff_ne.mpr c6
       have H' := Aside0.mk H
       clear H
       have p102 : 0 ≤ (x8_1 : Int) := of_decide_eq_true (by first | (with_reducible assumption) | assumption)
       have q102 : x8_1 < (l0.length : Int) := of_decide_eq_true (by first | (with_reducible assumption) | assumption)
       obtain ⟨ad102, e102, hx102_0⟩ := Kd.at_string HR0.out x8_1 p102 q102
       cases e102
       replace p102 := eq_true p102
       replace q102 := eq_true q102
       go_wp2
       go_roundg k1
       case measure => have := HK1.out; omega
       case rel => exact ⟨(wrap64 (x8_1 + 1)), (by first | rfl | (simp; done) | (simp [*]; done)), H', ⟨by have := HK1.out; omega⟩, by repeat (first | exact Drawn0.refl _ | apply Drawn0.step)⟩
     ·rw [if_neg c5] at H
      exact absurd H (by simp)
    ·rw [if_neg c4] at H
     exact absurd H (by simp)
   ·rw [if_neg c3] at H
    have c3b0 : decide (x8_1 < (l0.length : Int)) = false := decide_eq_false c3
    clear c3
    obtain rfl := Option.some.inj H
    go_wp2
    go_ret
    exact ⟨by first | rfl | (simp; done) | (simp [*]; done), by repeat (first | exact Drawn0.refl _ | apply Drawn0.step)⟩

end Go.Proofs.YtcmppjonpmgncaaGreatDoor.Q

namespace Go.Proofs.YtcmppjonpmgncaaGreatDoor.Q
open Go.RowKit Go.Proofs.YtcmppjonpmgncaaGreatDoorW.PrintWords Go.Proofs.YtcmppjonpmgncaaGreatDoorW.PrintLast Go.Proofs.YtcmppjonpmgncaaGreatDoorW.PrintMore
attribute [local go_sem] max2_int min2_int max_two min_two max_three min_three max_four min_four   -- for this text's walks alone
set_option linter.unusedVariables false
set_option linter.unusedSimpArgs false

/-! ### slices_Contains_string_string: function 24 -/
def slices_Contains_string_string.f (k : Nat) (l0 : List ByteArray) (a1 : ByteArray) : Option (Bool) := (slices_Index_string_string.f k l0 a1).bind fun t103 => (some (decide (t103 ≥ 0)))
theorem slices_Contains_string_string.mono : ∀ a0 a1 k, LeO (slices_Contains_string_string.f k a0 a1) (slices_Contains_string_string.f (k + 1) a0 a1) := by
 intro a0 a1 k
 unfold slices_Contains_string_string.f
 repeat' first
   | (with_reducible exact slices_Index_string_string.mono _ _ _)
   | (with_reducible exact LeO.refl _)
   | (with_reducible exact LeO.none _)
   | (with_reducible refine LeO.ite ?_ ?_)
   | (with_reducible refine LeO.bind ?_ (fun _ => ?_))
   | exact slices_Index_string_string.mono _ _ _
   | exact LeO.none _
   | refine LeO.ite ?_ ?_
   | refine LeO.bind ?_ (fun _ => ?_)
set_option maxHeartbeats 8000000 in
set_option maxRecDepth 100000 in
theorem slices_Contains_string_string.calls (k : Nat) (A0 : Option Addr) (c0 : Nat) (l0 : List ByteArray) (a1 : ByteArray) (r : Bool) (w : World) (hr0 : Kd.C Kd.string w A0 l0.length l0) (hc0 : l0.length ≤ c0) (h : slices_Contains_string_string.f k l0 a1 = some r) :
  Calls Tryz.prog 24 #[.slice A0 l0.length c0, .string a1] w fun e w' => e = .returned (.bool r) ∧ Drawn0 w w' := by
 have HR0 := Aside0.mk hr0
 have HC0 := Aside0.mk hc0
 clear hr0 hc0
 have H : ((slices_Index_string_string.f k l0 a1).bind fun t103 => (some (decide (t103 ≥ 0)))) = some r := h
 clear h
 replace H := Option.bind_eq_some_iff.mp H
 obtain ⟨t103, A30, H⟩ := H
 replace H : (some (decide (t103 ≥ 0))) = some r := H
 have A3 := Aside0.mk A30
 clear A30
 obtain rfl := Option.some.inj H
 go_enter Tryz.func24, Tryz.ntmps24
 go_wp2_with (first | ((with_reducible refine gate_callee (f := 39) rfl ?_); refine goesL_ (some 7) rfl rfl Tryz.func39 (by kernel_rfl) rfl #[.slice A0 l0.length c0, .string a1] rfl (by (try simp only [List.map_toArray, List.map_cons, List.map_nil]); first | done | rfl | (simp only [List.length_drop, List.length_take]; rfl)) ?_; (with_reducible refine (slices_Index_string_string.calls k _ _ l0 a1 t103 _ ?side1 ?side2 A3.out).mono ?_); (case side1 => repeat (first | exact HR0.out | (with_reducible refine Kd.C_alloc ?_ _) | (with_reducible refine Kd.C_drewN ?_ _) | (with_reducible refine Kd.C_drew ?_))); (case side2 => exact HC0.out); rintro e w' ⟨rfl, ⟨nd, rfl⟩⟩; refine ⟨_, rfl, ?_⟩))
 go_ret
 exact ⟨by first | rfl | (simp; done) | (simp [*]; done), by repeat (first | exact Drawn0.refl _ | apply Drawn0.step)⟩

end Go.Proofs.YtcmppjonpmgncaaGreatDoor.Q

namespace Go.Proofs.YtcmppjonpmgncaaGreatDoor.Q
open Go.RowKit Go.Proofs.YtcmppjonpmgncaaGreatDoorW.PrintWords Go.Proofs.YtcmppjonpmgncaaGreatDoorW.PrintLast Go.Proofs.YtcmppjonpmgncaaGreatDoorW.PrintMore
attribute [local go_sem] max2_int min2_int max_two min_two max_three min_three max_four min_four   -- for this text's walks alone
set_option linter.unusedVariables false
set_option linter.unusedSimpArgs false

/-! ### lex_keys: function 25 -/
def lex_keys.f  : Option (List ByteArray) := some (([(⟨#[116, 121, 112, 101]⟩ : ByteArray), (⟨#[115, 116, 114, 117, 99, 116]⟩ : ByteArray), (⟨#[102, 117, 110, 99]⟩ : ByteArray), (⟨#[118, 97, 114]⟩ : ByteArray), (⟨#[105, 102]⟩ : ByteArray), (⟨#[101, 108, 115, 101]⟩ : ByteArray), (⟨#[102, 111, 114]⟩ : ByteArray), (⟨#[114, 101, 116, 117, 114, 110]⟩ : ByteArray), (⟨#[112, 114, 105, 110, 116]⟩ : ByteArray), (⟨#[110, 101, 119]⟩ : ByteArray), (⟨#[110, 105, 108]⟩ : ByteArray), (⟨#[116, 114, 117, 101]⟩ : ByteArray), (⟨#[102, 97, 108, 115, 101]⟩ : ByteArray), (⟨#[105, 110, 116]⟩ : ByteArray), (⟨#[98, 111, 111, 108]⟩ : ByteArray), (⟨#[114, 101, 97, 100]⟩ : ByteArray)] : List ByteArray))
set_option maxHeartbeats 8000000 in
set_option maxRecDepth 100000 in
theorem lex_keys.calls  (r : List ByteArray) (w : World) (h : lex_keys.f  = some r) :
  Calls Tryz.prog 25 #[] w fun e w' => ∃ v0_ : Value, e = .returned (v0_) ∧ Kd.R Kd.string 9 w' w.heap.size (fun _ => True) v0_ r ∧ Below w.heap.size w w' := by
 have HB := Aside0.mk (Below.refl w.heap.size w)
 have H : (some (([(⟨#[116, 121, 112, 101]⟩ : ByteArray), (⟨#[115, 116, 114, 117, 99, 116]⟩ : ByteArray), (⟨#[102, 117, 110, 99]⟩ : ByteArray), (⟨#[118, 97, 114]⟩ : ByteArray), (⟨#[105, 102]⟩ : ByteArray), (⟨#[101, 108, 115, 101]⟩ : ByteArray), (⟨#[102, 111, 114]⟩ : ByteArray), (⟨#[114, 101, 116, 117, 114, 110]⟩ : ByteArray), (⟨#[112, 114, 105, 110, 116]⟩ : ByteArray), (⟨#[110, 101, 119]⟩ : ByteArray), (⟨#[110, 105, 108]⟩ : ByteArray), (⟨#[116, 114, 117, 101]⟩ : ByteArray), (⟨#[102, 97, 108, 115, 101]⟩ : ByteArray), (⟨#[105, 110, 116]⟩ : ByteArray), (⟨#[98, 111, 111, 108]⟩ : ByteArray), (⟨#[114, 101, 97, 100]⟩ : ByteArray)] : List ByteArray))) = some r := h
 clear h
 obtain ⟨y104, hy104⟩ : ∃ y_ : List ByteArray, y_ = (([(⟨#[116, 121, 112, 101]⟩ : ByteArray), (⟨#[115, 116, 114, 117, 99, 116]⟩ : ByteArray), (⟨#[102, 117, 110, 99]⟩ : ByteArray), (⟨#[118, 97, 114]⟩ : ByteArray), (⟨#[105, 102]⟩ : ByteArray), (⟨#[101, 108, 115, 101]⟩ : ByteArray), (⟨#[102, 111, 114]⟩ : ByteArray), (⟨#[114, 101, 116, 117, 114, 110]⟩ : ByteArray), (⟨#[112, 114, 105, 110, 116]⟩ : ByteArray), (⟨#[110, 101, 119]⟩ : ByteArray), (⟨#[110, 105, 108]⟩ : ByteArray), (⟨#[116, 114, 117, 101]⟩ : ByteArray), (⟨#[102, 97, 108, 115, 101]⟩ : ByteArray), (⟨#[105, 110, 116]⟩ : ByteArray), (⟨#[98, 111, 111, 108]⟩ : ByteArray), (⟨#[114, 101, 97, 100]⟩ : ByteArray)] : List ByteArray)) := ⟨_, rfl⟩
 replace H : (some y104) = some r := by first | (rw [hy104]; with_reducible exact H) | (have H2_ := (Option.bind_some _ _).symm.trans H; rw [hy104]; with_reducible exact H2_) | (have H2_ := (Option.bind_some _ _).symm.trans H; with_reducible exact H2_) | with_reducible exact H | (rw [hy104]; exact H) | exact H
 have Ny104 := Aside0.mk hy104
 clear hy104
 obtain rfl := Option.some.inj H
 go_enter Tryz.func25, Tryz.ntmps25
 go_wp2_with (first | ((with_reducible refine gate_dst (N := 1) rfl ?_); refine Kd.R_lit Kd.string _ 9 ?hg (N := 1) ?hd (xs := ([(⟨#[116, 121, 112, 101]⟩ : ByteArray), (⟨#[115, 116, 114, 117, 99, 116]⟩ : ByteArray), (⟨#[102, 117, 110, 99]⟩ : ByteArray), (⟨#[118, 97, 114]⟩ : ByteArray), (⟨#[105, 102]⟩ : ByteArray), (⟨#[101, 108, 115, 101]⟩ : ByteArray), (⟨#[102, 111, 114]⟩ : ByteArray), (⟨#[114, 101, 116, 117, 114, 110]⟩ : ByteArray), (⟨#[112, 114, 105, 110, 116]⟩ : ByteArray), (⟨#[110, 101, 119]⟩ : ByteArray), (⟨#[110, 105, 108]⟩ : ByteArray), (⟨#[116, 114, 117, 101]⟩ : ByteArray), (⟨#[102, 97, 108, 115, 101]⟩ : ByteArray), (⟨#[105, 110, 116]⟩ : ByteArray), (⟨#[98, 111, 111, 108]⟩ : ByteArray), (⟨#[114, 101, 97, 100]⟩ : ByteArray)] : List ByteArray)) (inner := [.string (⟨#[116, 121, 112, 101]⟩ : ByteArray), .string (⟨#[115, 116, 114, 117, 99, 116]⟩ : ByteArray), .string (⟨#[102, 117, 110, 99]⟩ : ByteArray), .string (⟨#[118, 97, 114]⟩ : ByteArray), .string (⟨#[105, 102]⟩ : ByteArray), .string (⟨#[101, 108, 115, 101]⟩ : ByteArray), .string (⟨#[102, 111, 114]⟩ : ByteArray), .string (⟨#[114, 101, 116, 117, 114, 110]⟩ : ByteArray), .string (⟨#[112, 114, 105, 110, 116]⟩ : ByteArray), .string (⟨#[110, 101, 119]⟩ : ByteArray), .string (⟨#[110, 105, 108]⟩ : ByteArray), .string (⟨#[116, 114, 117, 101]⟩ : ByteArray), .string (⟨#[102, 97, 108, 115, 101]⟩ : ByteArray), .string (⟨#[105, 110, 116]⟩ : ByteArray), .string (⟨#[98, 111, 111, 108]⟩ : ByteArray), .string (⟨#[114, 101, 97, 100]⟩ : ByteArray)]) (ok := fun _ => True) (okp := fun _ => True) ?hr ?hp (fun _ hk => hk) trivial (Below.refl _ _) (Nat.le_refl _) (by simp) ?_; (case hd => rfl); (case hg => rfl); (case hr => first | (go_simp; done) | (go_simp; rfl)); (case hp => exact (Reps.one (show Kd.M Kd.string _ _ _ (⟨#[116, 121, 112, 101]⟩ : ByteArray) [.string (⟨#[116, 121, 112, 101]⟩ : ByteArray)] from rfl) (Reps.one (show Kd.M Kd.string _ _ _ (⟨#[115, 116, 114, 117, 99, 116]⟩ : ByteArray) [.string (⟨#[115, 116, 114, 117, 99, 116]⟩ : ByteArray)] from rfl) (Reps.one (show Kd.M Kd.string _ _ _ (⟨#[102, 117, 110, 99]⟩ : ByteArray) [.string (⟨#[102, 117, 110, 99]⟩ : ByteArray)] from rfl) (Reps.one (show Kd.M Kd.string _ _ _ (⟨#[118, 97, 114]⟩ : ByteArray) [.string (⟨#[118, 97, 114]⟩ : ByteArray)] from rfl) (Reps.one (show Kd.M Kd.string _ _ _ (⟨#[105, 102]⟩ : ByteArray) [.string (⟨#[105, 102]⟩ : ByteArray)] from rfl) (Reps.one (show Kd.M Kd.string _ _ _ (⟨#[101, 108, 115, 101]⟩ : ByteArray) [.string (⟨#[101, 108, 115, 101]⟩ : ByteArray)] from rfl) (Reps.one (show Kd.M Kd.string _ _ _ (⟨#[102, 111, 114]⟩ : ByteArray) [.string (⟨#[102, 111, 114]⟩ : ByteArray)] from rfl) (Reps.one (show Kd.M Kd.string _ _ _ (⟨#[114, 101, 116, 117, 114, 110]⟩ : ByteArray) [.string (⟨#[114, 101, 116, 117, 114, 110]⟩ : ByteArray)] from rfl) (Reps.one (show Kd.M Kd.string _ _ _ (⟨#[112, 114, 105, 110, 116]⟩ : ByteArray) [.string (⟨#[112, 114, 105, 110, 116]⟩ : ByteArray)] from rfl) (Reps.one (show Kd.M Kd.string _ _ _ (⟨#[110, 101, 119]⟩ : ByteArray) [.string (⟨#[110, 101, 119]⟩ : ByteArray)] from rfl) (Reps.one (show Kd.M Kd.string _ _ _ (⟨#[110, 105, 108]⟩ : ByteArray) [.string (⟨#[110, 105, 108]⟩ : ByteArray)] from rfl) (Reps.one (show Kd.M Kd.string _ _ _ (⟨#[116, 114, 117, 101]⟩ : ByteArray) [.string (⟨#[116, 114, 117, 101]⟩ : ByteArray)] from rfl) (Reps.one (show Kd.M Kd.string _ _ _ (⟨#[102, 97, 108, 115, 101]⟩ : ByteArray) [.string (⟨#[102, 97, 108, 115, 101]⟩ : ByteArray)] from rfl) (Reps.one (show Kd.M Kd.string _ _ _ (⟨#[105, 110, 116]⟩ : ByteArray) [.string (⟨#[105, 110, 116]⟩ : ByteArray)] from rfl) (Reps.one (show Kd.M Kd.string _ _ _ (⟨#[98, 111, 111, 108]⟩ : ByteArray) [.string (⟨#[98, 111, 111, 108]⟩ : ByteArray)] from rfl) (Reps.one (show Kd.M Kd.string _ _ _ (⟨#[114, 101, 97, 100]⟩ : ByteArray) [.string (⟨#[114, 101, 97, 100]⟩ : ByteArray)] from rfl) (Reps.none _ _)))))))))))))))))); intro v105 w1 ho2 hb hg_ hnew_; clear hg_ hnew_; (first | rw [← Ny104.out] at ho2 | (simp only [Int.reduceToNat] at ho2; rw [← Ny104.out] at ho2)); have n0_ := Aside0.mk (Kd.R_lower ho2 (below_size (by repeat (first | (with_reducible first | exact HB.out | apply below_alloc | apply pw_below_drewN | apply below_drew1) | exact HB.out)))); have n1_ := Aside0.mk (below_step (by repeat (first | (with_reducible first | exact HB.out | apply below_alloc | apply pw_below_drewN | apply below_drew1) | exact HB.out)) hb); clear HB; have HO106 := n0_; have HB := n1_; clear n0_ n1_; clear hb ho2))
 go_ret
 exact ⟨_, by first | rfl | (simp [errW_none, errW_some] <;> rfl) | (simp [*, errW_none, errW_some] <;> rfl), by (with_reducible repeat (first | apply Kd.R_alloc | apply Kd.R_drewN | apply Kd.R_drew)); exact HO106.out, by repeat (first | (with_reducible first | exact HB.out | apply below_alloc | apply pw_below_drewN | apply below_drew1) | exact HB.out)⟩

end Go.Proofs.YtcmppjonpmgncaaGreatDoor.Q

namespace Go.Proofs.YtcmppjonpmgncaaGreatDoor.Q
open Go.RowKit Go.Proofs.YtcmppjonpmgncaaGreatDoorW.PrintWords Go.Proofs.YtcmppjonpmgncaaGreatDoorW.PrintLast Go.Proofs.YtcmppjonpmgncaaGreatDoorW.PrintMore
attribute [local go_sem] max2_int min2_int max_two min_two max_three min_three max_four min_four   -- for this text's walks alone
set_option linter.unusedVariables false
set_option linter.unusedSimpArgs false

/-! ### lex_IsKey: function 12 -/
def lex_IsKey.f (k : Nat) (a0 : ByteArray) : Option (Bool) := (lex_keys.f).bind fun t107 => ((slices_Contains_string_string.f k t107 a0).bind fun t110 => (some t110))
theorem lex_IsKey.mono : ∀ a0 k, LeO (lex_IsKey.f k a0) (lex_IsKey.f (k + 1) a0) := by
 intro a0 k
 unfold lex_IsKey.f
 repeat' first
   | (with_reducible exact slices_Contains_string_string.mono _ _ _)
   | (with_reducible exact LeO.refl _)
   | (with_reducible exact LeO.none _)
   | (with_reducible refine LeO.ite ?_ ?_)
   | (with_reducible refine LeO.bind ?_ (fun _ => ?_))
   | exact slices_Contains_string_string.mono _ _ _
   | exact LeO.none _
   | refine LeO.ite ?_ ?_
   | refine LeO.bind ?_ (fun _ => ?_)
set_option maxHeartbeats 8000000 in
set_option maxRecDepth 100000 in
theorem lex_IsKey.calls (k : Nat) (a0 : ByteArray) (r : Bool) (w : World) (h : lex_IsKey.f k a0 = some r) :
  Calls Tryz.prog 12 #[.string a0] w fun e w' => e = .returned (.bool r) ∧ Below w.heap.size w w' := by
 have HB := Aside0.mk (Below.refl w.heap.size w)
 have H : ((lex_keys.f).bind fun t107 => ((slices_Contains_string_string.f k t107 a0).bind fun t110 => (some t110))) = some r := h
 clear h
 replace H := Option.bind_eq_some_iff.mp H
 obtain ⟨t107, A20, H⟩ := H
 replace H : ((slices_Contains_string_string.f k t107 a0).bind fun t110 => (some t110)) = some r := H
 have A2 := Aside0.mk A20
 clear A20
 replace H := Option.bind_eq_some_iff.mp H
 obtain ⟨t110, A30, H⟩ := H
 replace H : (some t110) = some r := H
 have A3 := Aside0.mk A30
 clear A30
 obtain rfl := Option.some.inj H
 go_enter Tryz.func12, Tryz.ntmps12
 go_wp2_with (first | ((with_reducible refine gate_callee (f := 25) rfl ?_); refine goesL_ (some 3) rfl rfl Tryz.func25 (by kernel_rfl) rfl #[] rfl (by (try simp only [List.map_toArray, List.map_cons, List.map_nil]); first | done | rfl | (simp only [List.length_drop, List.length_take]; rfl)) ?_; (with_reducible refine (lex_keys.calls  t107 _ A2.out).mono ?_); rintro e w4 ⟨v108, rfl, ho0, hb⟩; refine ⟨_, rfl, ?_⟩; have n0_ := Aside0.mk (Kd.R_lower ho0 (below_size (by repeat (first | (with_reducible first | exact HB.out | apply below_alloc | apply pw_below_drewN | apply below_drew1) | exact HB.out)))); have n1_ := Aside0.mk (below_step (by repeat (first | (with_reducible first | exact HB.out | apply below_alloc | apply pw_below_drewN | apply below_drew1) | exact HB.out)) hb); clear HB; have HO109 := n0_; have HB := n1_; clear n0_ n1_; (try clear hb); (try clear hb2); (try clear hk); (try clear hi); (try clear ho0); obtain ⟨Ao5, co5, eo5⟩ := Kd.R_slice HO109.out; subst eo5) | ((with_reducible refine gate_callee (f := 24) rfl ?_); refine goesL_ (some 5) rfl rfl Tryz.func24 (by kernel_rfl) rfl #[.slice Ao5 t107.length co5, .string a0] rfl (by (try simp only [List.map_toArray, List.map_cons, List.map_nil]); first | done | rfl | (simp only [List.length_drop, List.length_take]; rfl)) ?_; (with_reducible refine (slices_Contains_string_string.calls k _ _ t107 a0 t110 _ ?side1 ?side2 A3.out).mono ?_); (case side1 => repeat (first | exact (Kd.R_reads' HO109.out).2.2 | (with_reducible refine Kd.C_alloc ?_ _) | (with_reducible refine Kd.C_drewN ?_ _) | (with_reducible refine Kd.C_drew ?_))); (case side2 => exact (Kd.R_reads' HO109.out).2.1); rintro e w' ⟨rfl, ⟨nd, rfl⟩⟩; refine ⟨_, rfl, ?_⟩))
 go_ret
 exact ⟨by first | rfl | (simp [errW_none, errW_some] <;> rfl) | (simp [*, errW_none, errW_some] <;> rfl), by repeat (first | (with_reducible first | exact HB.out | apply below_alloc | apply pw_below_drewN | apply below_drew1) | exact HB.out)⟩

end Go.Proofs.YtcmppjonpmgncaaGreatDoor.Q

namespace Go.Proofs.YtcmppjonpmgncaaGreatDoor.Q
open Go.RowKit Go.Proofs.YtcmppjonpmgncaaGreatDoorW.PrintWords Go.Proofs.YtcmppjonpmgncaaGreatDoorW.PrintLast Go.Proofs.YtcmppjonpmgncaaGreatDoorW.PrintMore
attribute [local go_sem] max2_int min2_int max_two min_two max_three min_three max_four min_four   -- for this text's walks alone
set_option linter.unusedVariables false
set_option linter.unusedSimpArgs false

/-! ### lex_isBlank: function 30 -/
def lex_isBlank.f (a0 : Int) : Option (Bool) := if a0 = 32 then (some true) else (if a0 = 9 then (some true) else (if a0 = 10 then (some true) else (some (a0 == 13))))
set_option maxHeartbeats 8000000 in
set_option maxRecDepth 100000 in
theorem lex_isBlank.calls (a0 : Int) (r : Bool) (w : World) (h : lex_isBlank.f a0 = some r) :
  Calls Tryz.prog 30 #[.int .u8 a0] w fun e w' => e = .returned (.bool r) ∧ Drawn0 w w' := by
 have H : (if a0 = 32 then (some true) else (if a0 = 9 then (some true) else (if a0 = 10 then (some true) else (some (a0 == 13))))) = some r := h
 clear h
 by_cases c2 : a0 = 32
 ·rw [if_pos c2] at H
  have c2b0 : (a0 == 32) = true := beq_iff_eq.mpr c2
  have c2b1 : (a0 != 32) = false := bne_eq_false_iff_eq.mpr c2
  clear c2
  obtain rfl := Option.some.inj H
  go_enter Tryz.func30, Tryz.ntmps30
  go_wp2
  go_ret
  exact ⟨by first | rfl | (simp; done) | (simp [*]; done), by repeat (first | exact Drawn0.refl _ | apply Drawn0.step)⟩
 ·rw [if_neg c2] at H
  have c2b0 : (a0 == 32) = false := beq_eq_false_iff_ne.mpr c2
  have c2b1 : (a0 != 32) = true := bne_iff_ne.mpr c2
  by_cases c3 : a0 = 9
  ·rw [if_pos c3] at H
   have c3b0 : (a0 == 9) = true := beq_iff_eq.mpr c3
   have c3b1 : (a0 != 9) = false := bne_eq_false_iff_eq.mpr c3
   clear c3
   obtain rfl := Option.some.inj H
   go_enter Tryz.func30, Tryz.ntmps30
   go_wp2
   go_ret
   exact ⟨by first | rfl | (simp; done) | (simp [*]; done), by repeat (first | exact Drawn0.refl _ | apply Drawn0.step)⟩
  ·rw [if_neg c3] at H
   have c3b0 : (a0 == 9) = false := beq_eq_false_iff_ne.mpr c3
   have c3b1 : (a0 != 9) = true := bne_iff_ne.mpr c3
   by_cases c4 : a0 = 10
   ·rw [if_pos c4] at H
    have c4b0 : (a0 == 10) = true := beq_iff_eq.mpr c4
    have c4b1 : (a0 != 10) = false := bne_eq_false_iff_eq.mpr c4
    clear c4
    obtain rfl := Option.some.inj H
    go_enter Tryz.func30, Tryz.ntmps30
    go_wp2
    go_ret
    exact ⟨by first | rfl | (simp; done) | (simp [*]; done), by repeat (first | exact Drawn0.refl _ | apply Drawn0.step)⟩
   ·rw [if_neg c4] at H
    have c4b0 : (a0 == 10) = false := beq_eq_false_iff_ne.mpr c4
    have c4b1 : (a0 != 10) = true := bne_iff_ne.mpr c4
    obtain rfl := Option.some.inj H
    go_enter Tryz.func30, Tryz.ntmps30
    go_wp2
    go_ret
    exact ⟨by first | rfl | (simp; done) | (simp [*]; done), by repeat (first | exact Drawn0.refl _ | apply Drawn0.step)⟩

end Go.Proofs.YtcmppjonpmgncaaGreatDoor.Q

namespace Go.Proofs.YtcmppjonpmgncaaGreatDoor.Q
open Go.RowKit Go.Proofs.YtcmppjonpmgncaaGreatDoorW.PrintWords Go.Proofs.YtcmppjonpmgncaaGreatDoorW.PrintLast Go.Proofs.YtcmppjonpmgncaaGreatDoorW.PrintMore
attribute [local go_sem] max2_int min2_int max_two min_two max_three min_three max_four min_four   -- for this text's walks alone
set_option linter.unusedVariables false
set_option linter.unusedSimpArgs false

/-! ### stringslite_HasPrefix: function 47 -/
def stringslite_HasPrefix.f (a0 : ByteArray) (a1 : ByteArray) : Option (Bool) := if (a0.size : Int) ≥ (a1.size : Int) then (if 0 ≤ (a1.size : Int) then (if (a1.size : Int) ≤ (a0.size : Int) then (some ((a0.extract 0 ((a1.size : Int) : Int).toNat).toList == a1.toList)) else (none)) else (none)) else (some false)
set_option maxHeartbeats 8000000 in
set_option maxRecDepth 100000 in
theorem stringslite_HasPrefix.calls (a0 : ByteArray) (a1 : ByteArray) (r : Bool) (w : World) (h : stringslite_HasPrefix.f a0 a1 = some r) :
  Calls Tryz.prog 47 #[.string a0, .string a1] w fun e w' => e = .returned (.bool r) ∧ Drawn0 w w' := by
 have H : (if (a0.size : Int) ≥ (a1.size : Int) then (if 0 ≤ (a1.size : Int) then (if (a1.size : Int) ≤ (a0.size : Int) then (some ((a0.extract 0 ((a1.size : Int) : Int).toNat).toList == a1.toList)) else (none)) else (none)) else (some false)) = some r := h
 clear h
 by_cases c3 : (a0.size : Int) ≥ (a1.size : Int)
 ·rw [if_pos c3] at H
  have c3b0 : decide ((a1.size : Int) ≤ (a0.size : Int)) = true := decide_eq_true c3
  have c3b1 : decide (a1.size ≤ a0.size) = true := decide_eq_true (Int.ofNat_le.mp c3)
  clear c3
  by_cases c4 : 0 ≤ (a1.size : Int)
  ·rw [if_pos c4] at H
   have c4b0 := eq_true c4
   have c4b1 : decide (0 ≤ (a1.size : Int)) = true := decide_eq_true c4
   clear c4
   by_cases c5 : (a1.size : Int) ≤ (a0.size : Int)
   ·rw [if_pos c5] at H
    have c5b0 := eq_true c5
    have c5b1 : decide ((a1.size : Int) ≤ (a0.size : Int)) = true := decide_eq_true c5
    clear c5
    obtain rfl := Option.some.inj H
    go_enter Tryz.func47, Tryz.ntmps47
    go_wp2
    go_ret
    exact ⟨by first | rfl | (simp; done) | (simp [*]; done), by repeat (first | exact Drawn0.refl _ | apply Drawn0.step)⟩
   ·rw [if_neg c5] at H
    exact absurd H (by simp)
  ·rw [if_neg c4] at H
   exact absurd H (by simp)
 ·rw [if_neg c3] at H
  have c3b0 : decide ((a1.size : Int) ≤ (a0.size : Int)) = false := decide_eq_false c3
  have c3b1 : decide (a1.size ≤ a0.size) = false := decide_eq_false (fun h => c3 (Int.ofNat_le.mpr h))
  clear c3
  obtain rfl := Option.some.inj H
  go_enter Tryz.func47, Tryz.ntmps47
  go_wp2
  go_ret
  exact ⟨by first | rfl | (simp; done) | (simp [*]; done), by repeat (first | exact Drawn0.refl _ | apply Drawn0.step)⟩

end Go.Proofs.YtcmppjonpmgncaaGreatDoor.Q

namespace Go.Proofs.YtcmppjonpmgncaaGreatDoor.Q
open Go.RowKit Go.Proofs.YtcmppjonpmgncaaGreatDoorW.PrintWords Go.Proofs.YtcmppjonpmgncaaGreatDoorW.PrintLast Go.Proofs.YtcmppjonpmgncaaGreatDoorW.PrintMore
attribute [local go_sem] max2_int min2_int max_two min_two max_three min_three max_four min_four   -- for this text's walks alone
set_option linter.unusedVariables false
set_option linter.unusedSimpArgs false

/-! ### strings_HasPrefix: function 31 -/
def strings_HasPrefix.f (a0 : ByteArray) (a1 : ByteArray) : Option (Bool) := (stringslite_HasPrefix.f a0 a1).bind fun t101 => (some t101)
set_option maxHeartbeats 8000000 in
set_option maxRecDepth 100000 in
theorem strings_HasPrefix.calls (a0 : ByteArray) (a1 : ByteArray) (r : Bool) (w : World) (h : strings_HasPrefix.f a0 a1 = some r) :
  Calls Tryz.prog 31 #[.string a0, .string a1] w fun e w' => e = .returned (.bool r) ∧ Drawn0 w w' := by
 have H : ((stringslite_HasPrefix.f a0 a1).bind fun t101 => (some t101)) = some r := h
 clear h
 replace H := Option.bind_eq_some_iff.mp H
 obtain ⟨t101, A30, H⟩ := H
 replace H : (some t101) = some r := H
 have A3 := Aside0.mk A30
 clear A30
 obtain rfl := Option.some.inj H
 go_enter Tryz.func31, Tryz.ntmps31
 go_wp2_with (first | ((with_reducible refine gate_callee (f := 47) rfl ?_); refine goesL_ (some 7) rfl rfl Tryz.func47 (by kernel_rfl) rfl #[.string a0, .string a1] rfl (by (try simp only [List.map_toArray, List.map_cons, List.map_nil]); first | done | rfl | (simp only [List.length_drop, List.length_take]; rfl)) ?_; (with_reducible refine (stringslite_HasPrefix.calls a0 a1 t101 _ A3.out).mono ?_); rintro e w' ⟨rfl, ⟨nd, rfl⟩⟩; refine ⟨_, rfl, ?_⟩))
 go_ret
 exact ⟨by first | rfl | (simp; done) | (simp [*]; done), by repeat (first | exact Drawn0.refl _ | apply Drawn0.step)⟩

end Go.Proofs.YtcmppjonpmgncaaGreatDoor.Q

namespace Go.Proofs.YtcmppjonpmgncaaGreatDoor.Q
open Go.RowKit Go.Proofs.YtcmppjonpmgncaaGreatDoorW.PrintWords Go.Proofs.YtcmppjonpmgncaaGreatDoorW.PrintLast Go.Proofs.YtcmppjonpmgncaaGreatDoorW.PrintMore
attribute [local go_sem] max2_int min2_int max_two min_two max_three min_three max_four min_four   -- for this text's walks alone
set_option linter.unusedVariables false
set_option linter.unusedSimpArgs false

/-! ### lex_skip_1: function 32 -/
def lex_skip_1.f (a0 : Int) : Option (Bool) := some (a0 != 10)
set_option maxHeartbeats 8000000 in
set_option maxRecDepth 100000 in
theorem lex_skip_1.calls (a0 : Int) (r : Bool) (w : World) (h : lex_skip_1.f a0 = some r) :
  Calls Tryz.prog 32 #[.int .u8 a0] w fun e w' => e = .returned (.bool r) ∧ Drawn0 w w' := by
 have H : (some (a0 != 10)) = some r := h
 clear h
 obtain rfl := Option.some.inj H
 go_enter Tryz.func32, Tryz.ntmps32
 go_wp2
 go_ret
 exact ⟨by first | rfl | (simp; done) | (simp [*]; done), by repeat (first | exact Drawn0.refl _ | apply Drawn0.step)⟩

end Go.Proofs.YtcmppjonpmgncaaGreatDoor.Q

namespace Go.Proofs.YtcmppjonpmgncaaGreatDoor.Q
open Go.RowKit Go.Proofs.YtcmppjonpmgncaaGreatDoorW.PrintWords Go.Proofs.YtcmppjonpmgncaaGreatDoorW.PrintLast Go.Proofs.YtcmppjonpmgncaaGreatDoorW.PrintMore
attribute [local go_sem] max2_int min2_int max_two min_two max_three min_three max_four min_four   -- for this text's walks alone
set_option linter.unusedVariables false
set_option linter.unusedSimpArgs false

/-! ### lex_word_1: function 48 -/
def lex_word_1.f (a0 : Int) : Option (Bool) := (lex_isLetter.f a0).bind fun t111 => (if t111 = true then (some true) else ((lex_isDigit.f a0).bind fun t112 => (some t112)))
set_option maxHeartbeats 8000000 in
set_option maxRecDepth 100000 in
theorem lex_word_1.calls (a0 : Int) (r : Bool) (w : World) (h : lex_word_1.f a0 = some r) :
  Calls Tryz.prog 48 #[.int .u8 a0] w fun e w' => e = .returned (.bool r) ∧ Drawn0 w w' := by
 have H : ((lex_isLetter.f a0).bind fun t111 => (if t111 = true then (some true) else ((lex_isDigit.f a0).bind fun t112 => (some t112)))) = some r := h
 clear h
 replace H := Option.bind_eq_some_iff.mp H
 obtain ⟨t111, A20, H⟩ := H
 replace H : (if t111 = true then (some true) else ((lex_isDigit.f a0).bind fun t112 => (some t112))) = some r := H
 have A2 := Aside0.mk A20
 clear A20
 by_cases c3 : t111 = true
 ·subst c3
  have H1 : (some true) = some r := by rw [if_pos rfl] at H; exact H
  clear H
  have H := H1
  clear H1
  obtain rfl := Option.some.inj H
  go_enter Tryz.func48, Tryz.ntmps48
  go_wp2_with (first | ((with_reducible refine gate_callee (f := 33) rfl ?_); refine goesL_ (some 4) rfl rfl Tryz.func33 (by kernel_rfl) rfl #[.int .u8 a0] rfl (by (try simp only [List.map_toArray, List.map_cons, List.map_nil]); first | done | rfl | (simp only [List.length_drop, List.length_take]; rfl)) ?_; (with_reducible refine (lex_isLetter.calls a0 true _ A2.out).mono ?_); rintro e w' ⟨rfl, ⟨nd, rfl⟩⟩; refine ⟨_, rfl, ?_⟩))
  go_ret
  exact ⟨by first | rfl | (simp; done) | (simp [*]; done), by repeat (first | exact Drawn0.refl _ | apply Drawn0.step)⟩
 ·replace c3 := Bool.eq_false_iff.mpr c3
  subst c3
  have H1 : ((lex_isDigit.f a0).bind fun t112 => (some t112)) = some r := by rw [if_neg (show ¬ (false = true) by decide)] at H; exact H
  clear H
  have H := H1
  clear H1
  replace H := Option.bind_eq_some_iff.mp H
  obtain ⟨t112, A40, H⟩ := H
  replace H : (some t112) = some r := H
  have A4 := Aside0.mk A40
  clear A40
  obtain rfl := Option.some.inj H
  go_enter Tryz.func48, Tryz.ntmps48
  go_wp2_with (first | ((with_reducible refine gate_callee (f := 33) rfl ?_); refine goesL_ (some 4) rfl rfl Tryz.func33 (by kernel_rfl) rfl #[.int .u8 a0] rfl (by (try simp only [List.map_toArray, List.map_cons, List.map_nil]); first | done | rfl | (simp only [List.length_drop, List.length_take]; rfl)) ?_; (with_reducible refine (lex_isLetter.calls a0 false _ A2.out).mono ?_); rintro e w' ⟨rfl, ⟨nd, rfl⟩⟩; refine ⟨_, rfl, ?_⟩) | (go_at_call 35; (with_reducible refine (lex_isDigit.calls a0 t112 _ A4.out).mono ?_); rintro e w' ⟨rfl, ⟨nd, rfl⟩⟩))
  go_ret
  exact ⟨by first | rfl | (simp; done) | (simp [*]; done), by repeat (first | exact Drawn0.refl _ | apply Drawn0.step)⟩

end Go.Proofs.YtcmppjonpmgncaaGreatDoor.Q

/- Small lemmas that the hand-proved contracts of this seat use. -/

namespace Go.Proofs.YtcmppjonpmgncaaGreatDoor.Q
open Go.RowKit Go.Proofs.YtcmppjonpmgncaaGreatDoorW.PrintWords Go.Proofs.YtcmppjonpmgncaaGreatDoorW.PrintLast Go.Proofs.YtcmppjonpmgncaaGreatDoorW.PrintMore
set_option linter.unusedVariables false
set_option linter.unusedSimpArgs false
theorem Drawn0.trans {w w1 w2 : World} (h : Drawn0 w w1) (k : Drawn0 w1 w2) : Drawn0 w w2 := by
 obtain ⟨n, rfl⟩ := k
 exact h.step n
theorem tl_len (s : ByteArray) : s.toList.length = s.size := by rw [ByteArray.toList_eq, Array.length_toList]; rfl
theorem all_succ {P : Nat → Prop} {k : Nat} (h : ∀ i, i < k → P i) (hk : P k) : ∀ i, i < k + 1 → P i := fun i hi => by
 by_cases e : i = k
 ·subst e; exact hk
 ·exact h i (by omega)
theorem getD_at {α : Type} (l : List α) (z : α) {k : Nat} (hk : k < l.length) : l.getD k z = l[k] := by simp [List.getD, List.getElem?_eq_getElem hk]
/-- Where the first stands of which p holds; -1: there is none. -/
def findR {α : Type} (p : α → Bool) (l : List α) : Int := if l.findIdx p < l.length then (l.findIdx p : Int) else -1
theorem find_last {α : Type} {p : α → Bool} {l : List α} {z : α} {k : Nat} (hk : k < l.length) (h : ∀ i : Nat, i < k → p (l.getD i z) = false) (h2 : p (l.getD k z) = true) : findR p l = k := by
 have e : l.findIdx p = k := by
  rw [List.findIdx_eq hk]
  refine ⟨by rw [← getD_at l z hk]; exact h2, fun j hj => by rw [← getD_at l z (by omega)]; exact h j hj⟩
 unfold findR; rw [e, if_pos hk]
theorem find_none {α : Type} {p : α → Bool} {l : List α} {z : α} (h : ∀ i : Nat, i < l.length → p (l.getD i z) = false) : findR p l = -1 := by
 unfold findR
 rw [if_neg]
 intro hlt
 have := List.findIdx_getElem (w := hlt)
 rw [← getD_at l z hlt, h _ hlt] at this
 cases this
theorem wrap_succ {i : Int} (h0 : 0 ≤ i) (h : i < 9223372036854775807) : wrap64 (i + 1) = i + 1 := by unfold wrap64; omega
end Go.Proofs.YtcmppjonpmgncaaGreatDoor.Q

namespace Go.Proofs.YtcmppjonpmgncaaGreatDoor.Q
open Go.RowKit Go.Proofs.YtcmppjonpmgncaaGreatDoorW.PrintWords Go.Proofs.YtcmppjonpmgncaaGreatDoorW.PrintLast Go.Proofs.YtcmppjonpmgncaaGreatDoorW.PrintMore
attribute [local go_sem] max2_int min2_int max_two min_two max_three min_three max_four min_four   -- for this text's walks alone
set_option linter.unusedVariables false
set_option linter.unusedSimpArgs false

/-! ### lex_isName_1: function 38 -/
def lex_isName_1.f (a0 : Int) : Option (Bool) := (lex_isLetter.f a0).bind fun t192 => (if t192 = true then (some true) else ((lex_isDigit.f a0).bind fun t193 => (some t193)))
set_option maxHeartbeats 8000000 in
set_option maxRecDepth 100000 in
theorem lex_isName_1.calls (a0 : Int) (r : Bool) (w : World) (h : lex_isName_1.f a0 = some r) :
  Calls Tryz.prog 38 #[.int .u8 a0] w fun e w' => e = .returned (.bool r) ∧ Drawn0 w w' := by
 have H : ((lex_isLetter.f a0).bind fun t192 => (if t192 = true then (some true) else ((lex_isDigit.f a0).bind fun t193 => (some t193)))) = some r := h
 clear h
 replace H := Option.bind_eq_some_iff.mp H
 obtain ⟨t192, A20, H⟩ := H
 replace H : (if t192 = true then (some true) else ((lex_isDigit.f a0).bind fun t193 => (some t193))) = some r := H
 have A2 := Aside0.mk A20
 clear A20
 by_cases c3 : t192 = true
 ·subst c3
  have H1 : (some true) = some r := by rw [if_pos rfl] at H; exact H
  clear H
  have H := H1
  clear H1
  obtain rfl := Option.some.inj H
  go_enter Tryz.func38, Tryz.ntmps38
  go_wp2_with (first | ((with_reducible refine gate_callee (f := 33) rfl ?_); refine goesL_ (some 4) rfl rfl Tryz.func33 (by kernel_rfl) rfl #[.int .u8 a0] rfl (by (try simp only [List.map_toArray, List.map_cons, List.map_nil]); first | done | rfl | (simp only [List.length_drop, List.length_take]; rfl)) ?_; (with_reducible refine (lex_isLetter.calls a0 true _ A2.out).mono ?_); rintro e w' ⟨rfl, ⟨nd, rfl⟩⟩; refine ⟨_, rfl, ?_⟩))
  go_ret
  exact ⟨by first | rfl | (simp; done) | (simp [*]; done), by repeat (first | exact Drawn0.refl _ | apply Drawn0.step)⟩
 ·replace c3 := Bool.eq_false_iff.mpr c3
  subst c3
  have H1 : ((lex_isDigit.f a0).bind fun t193 => (some t193)) = some r := by rw [if_neg (show ¬ (false = true) by decide)] at H; exact H
  clear H
  have H := H1
  clear H1
  replace H := Option.bind_eq_some_iff.mp H
  obtain ⟨t193, A40, H⟩ := H
  replace H : (some t193) = some r := H
  have A4 := Aside0.mk A40
  clear A40
  obtain rfl := Option.some.inj H
  go_enter Tryz.func38, Tryz.ntmps38
  go_wp2_with (first | ((with_reducible refine gate_callee (f := 33) rfl ?_); refine goesL_ (some 4) rfl rfl Tryz.func33 (by kernel_rfl) rfl #[.int .u8 a0] rfl (by (try simp only [List.map_toArray, List.map_cons, List.map_nil]); first | done | rfl | (simp only [List.length_drop, List.length_take]; rfl)) ?_; (with_reducible refine (lex_isLetter.calls a0 false _ A2.out).mono ?_); rintro e w' ⟨rfl, ⟨nd, rfl⟩⟩; refine ⟨_, rfl, ?_⟩) | (go_at_call 35; (with_reducible refine (lex_isDigit.calls a0 t193 _ A4.out).mono ?_); rintro e w' ⟨rfl, ⟨nd, rfl⟩⟩))
  go_ret
  exact ⟨by first | rfl | (simp; done) | (simp [*]; done), by repeat (first | exact Drawn0.refl _ | apply Drawn0.step)⟩

end Go.Proofs.YtcmppjonpmgncaaGreatDoor.Q

/- 'lex.isName', and the run of a name's bytes: by hand. -/

namespace Go.Proofs.YtcmppjonpmgncaaGreatDoor.Q
open Go.RowKit Go.Proofs.YtcmppjonpmgncaaGreatDoorW.PrintWords Go.Proofs.YtcmppjonpmgncaaGreatDoorW.PrintLast Go.Proofs.YtcmppjonpmgncaaGreatDoorW.PrintMore
set_option linter.unusedVariables false
set_option linter.unusedSimpArgs false
def letB (a : Int) : Bool := decide (97 ≤ a ∧ a ≤ 122 ∨ 65 ≤ a ∧ a ≤ 90 ∨ a = 95)
def digB (a : Int) : Bool := decide (48 ≤ a ∧ a ≤ 57)
def lodB (a : Int) : Bool := letB a || digB a
theorem letB_some (a : Int) : lex_isLetter.f a = some (letB a) := by
 unfold lex_isLetter.f letB
 by_cases h1 : a ≥ 97 <;> by_cases h2 : a ≤ 122 <;> by_cases h3 : a ≥ 65 <;> by_cases h4 : a ≤ 90 <;> by_cases h5 : a = 95 <;> simp [h1, h2, h3, h4, h5] <;> omega
theorem digB_some (a : Int) : lex_isDigit.f a = some (digB a) := by
 unfold lex_isDigit.f digB
 by_cases h1 : a ≥ 48 <;> by_cases h2 : a ≤ 57 <;> simp [h1, h2] <;> omega
theorem lodB_some (a : Int) : lex_isName_1.f a = some (lodB a) := by
 unfold lex_isName_1.f lodB
 rw [letB_some, digB_some]
 cases letB a <;> simp
theorem lod_any (a : Int) (w : World) : Calls Tryz.prog 38 #[.int .u8 a] w fun e w' => e = .returned (.bool (lodB a)) ∧ Drawn0 w w' :=
 lex_isName_1.calls a _ w (lodB_some a)
set_option maxHeartbeats 400000 in
theorem run_name (s : ByteArray) (w : World) (hs : s.size ≤ 9223372036854775807) :
  Calls Tryz.prog 29 #[.string s, .func (.func 38) #[] #[]] w fun e w' => ∃ k : Nat, e = .returned (.int .i64 k) ∧ k ≤ s.size ∧ (∀ i : Nat, i < k → lodB (bt s i) = true) ∧ (k < s.size → lodB (bt s k) = false) ∧ Drawn0 w w' := by
 go_enter Tryz.func29, Tryz.ntmps29
 go_wp2
 go_loopw [5] (fun v wr => ∃ k : Nat, v = .int .i64 k ∧ k ≤ s.size ∧ Aside0 (∀ i : Nat, i < k → lodB (bt s i) = true) ∧ Drawn0 w wr) (fun v _ => s.size - (intOf v).toNat)
 case atStart => exact ⟨0, rfl, Nat.zero_le _, ⟨fun i h => absurd h (Nat.not_lt_zero _)⟩, Drawn0.refl _⟩
 case round =>
  obtain ⟨k, rfl, hk, HA, HD⟩ := hrel
  by_cases hlt : k < s.size
  ·have hb : ((s[k].toNat : Int)) = bt s k := bt_at s k (by simpa using hlt)
   have HB := Aside0.mk hb; clear hb
   go_wp2_with fail
   rw [HB.out]
   refine (lod_any (bt s k) wr).mono ?_
   rintro e w1 ⟨rfl, hd⟩
   have HD1 : Drawn0 w w1 := by obtain ⟨m, rfl⟩ := hd; exact HD.step m
   clear hd HD
   rcases hl : lodB (bt s k) with _ | _
   ·go_wp2
    go_ret
    exact ⟨k, rfl, hk, HA.out, fun _ => hl, HD1⟩
   ·have HL := Aside0.mk hl; clear hl
    go_wp2
    go_roundw
    case rel => exact ⟨k + 1, by go_num, by omega, ⟨all_succ (P := fun i => lodB (bt s (i : Nat)) = true) HA.out HL.out⟩, HD1⟩
    case measure => simp [intOf]; omega
  ·go_wp2
   go_ret
   exact ⟨k, rfl, hk, HA.out, fun h => absurd h hlt, HD⟩

def nameB (s : ByteArray) : Bool := decide (0 < s.size) && letB (bt s 0) && (List.range s.size).all (fun i => lodB (bt s (i : Nat)))
def lex_isName.f (a0 : ByteArray) : Option (Bool) := if a0.size ≤ 9223372036854775807 then some (nameB a0) else none
theorem run_all {s : ByteArray} {k : Nat} (hk : k ≤ s.size) (h : ∀ i : Nat, i < k → lodB (bt s i) = true) (h2 : k < s.size → lodB (bt s k) = false) :
  (List.range s.size).all (fun i => lodB (bt s (i : Nat))) = ((k : Int) == (s.size : Int)) := by
 by_cases e : k = s.size
 ·subst e; simp; exact h
 ·have := h2 (by omega)
  rw [beq_eq_false_iff_ne.mpr (by omega)]
  simp only [List.all_eq_false, List.mem_range]
  exact ⟨k, by omega, by simp [this]⟩
set_option maxHeartbeats 800000 in
theorem lex_isName.calls (a0 : ByteArray) (r : Bool) (w : World) (h : lex_isName.f a0 = some r) :
  Calls Tryz.prog 23 #[.string a0] w fun e w' => e = .returned (.bool r) ∧ Drawn0 w w' := by
 unfold lex_isName.f at h
 by_cases hs : a0.size ≤ 9223372036854775807
 ·rw [if_pos hs] at h
  obtain rfl := Option.some.inj h
  clear h
  by_cases hz : 0 < a0.size
  ·have hne : ¬ a0.toList = [] := fun e => by have := tl_len a0; rw [e] at this; simp at this; omega
   have hne2 : (!a0.toList.isEmpty) = true := by simpa using hne
   have hb : ((a0[0].toNat : Int)) = bt a0 0 := bt_at a0 0 (by simpa using hz)
   have HB := Aside0.mk hb; clear hb
   go_enter Tryz.func23, Tryz.ntmps23
   go_wp2_with fail
   rw [HB.out]
   refine (lex_isLetter.calls (bt a0 0) _ w (letB_some _)).mono ?_
   rintro e w1 ⟨rfl, hd⟩
   rcases hl : letB (bt a0 0) with _ | _
   ·have HN : Aside0 (nameB a0 = false) := ⟨by simp [nameB, hl]⟩
    clear hl
    go_wp2
    go_ret
    exact ⟨by rw [HN.out]; rfl, hd⟩
   ·have HL := Aside0.mk hl; clear hl
    go_wp2_with fail
    refine (run_name a0 w1 hs).mono ?_
    rintro e w2 ⟨k, rfl, hk, h1, h2, hd2⟩
    have HN : Aside0 (nameB a0 = ((k : Int) == (a0.size : Int))) := ⟨by unfold nameB; rw [HL.out, run_all hk h1 h2]; simp [hz]⟩
    clear h1 h2
    go_wp2
    go_ret
    exact ⟨by rw [HN.out]; rfl, Drawn0.trans hd hd2⟩
  ·have hne : a0.toList = [] := List.eq_nil_of_length_eq_zero (by rw [tl_len]; omega)
   have hne2 : (!a0.toList.isEmpty) = false := by simpa using hne
   have HN : Aside0 (nameB a0 = false) := ⟨by simp [nameB, hz]⟩
   clear hz
   go_enter Tryz.func23, Tryz.ntmps23
   go_wp2
   go_ret
   exact ⟨by rw [HN.out]; rfl, Drawn0.refl _⟩
 ·rw [if_neg hs] at h
  cases h
end Go.Proofs.YtcmppjonpmgncaaGreatDoor.Q

/- 'truantref02.Key': by hand. -/

namespace Go.Proofs.YtcmppjonpmgncaaGreatDoor.Q
open Go.RowKit Go.Proofs.YtcmppjonpmgncaaGreatDoorW.PrintWords Go.Proofs.YtcmppjonpmgncaaGreatDoorW.PrintLast Go.Proofs.YtcmppjonpmgncaaGreatDoorW.PrintMore
set_option linter.unusedVariables false
set_option linter.unusedSimpArgs false
def keyList : List ByteArray := [⟨#[116, 121, 112, 101]⟩, ⟨#[115, 116, 114, 117, 99, 116]⟩, ⟨#[102, 117, 110, 99]⟩, ⟨#[118, 97, 114]⟩, ⟨#[105, 102]⟩, ⟨#[101, 108, 115, 101]⟩, ⟨#[102, 111, 114]⟩, ⟨#[114, 101, 116, 117, 114, 110]⟩, ⟨#[112, 114, 105, 110, 116]⟩, ⟨#[110, 101, 119]⟩, ⟨#[110, 105, 108]⟩, ⟨#[116, 114, 117, 101]⟩, ⟨#[102, 97, 108, 115, 101]⟩, ⟨#[105, 110, 116]⟩, ⟨#[98, 111, 111, 108]⟩, ⟨#[114, 101, 97, 100]⟩]
def keyIs (s k : ByteArray) : Bool := k.toList == s.toList
def truantref02_Key.f (a0 : ByteArray) : Option (Bool) := some (decide (0 ≤ findR (keyIs a0) keyList))
set_option maxHeartbeats 800000 in
theorem truantref02_Key.calls (a0 : ByteArray) (r : Bool) (w : World) (h : truantref02_Key.f a0 = some r) :
  Calls Tryz.prog 13 #[.string a0] w fun e w' => e = .returned (.bool r) ∧ Below w.heap.size w w' := by
 unfold truantref02_Key.f at h
 have hr := Option.some.inj h
 have HRR := Aside0.mk hr
 clear h hr
 go_enter Tryz.func13, Tryz.ntmps13
 go_wp2_with fail
 have HC : Aside0 (∀ k : Nat, k < 16 → (w.alloc (.cells (keyList.map Value.string).toArray 49)).cell? ⟨w.heap.size, k, none⟩ = some (.string (keyList.getD k ⟨#[]⟩))) := ⟨fun k hk => by
  rw [World.cell?_alloc_at _ _ _ _ rfl]
  have h16 : k < keyList.length := hk
  simp [List.getD, List.getElem?_eq_getElem h16]⟩
 have HW : Aside0 (Below w.heap.size w (w.alloc (.cells (keyList.map Value.string).toArray 49))) := ⟨below_alloc (Below.refl _ _) _⟩
 have he : (keyList.map Value.string).toArray = #[.string ⟨#[116, 121, 112, 101]⟩, .string ⟨#[115, 116, 114, 117, 99, 116]⟩, .string ⟨#[102, 117, 110, 99]⟩, .string ⟨#[118, 97, 114]⟩, .string ⟨#[105, 102]⟩, .string ⟨#[101, 108, 115, 101]⟩, .string ⟨#[102, 111, 114]⟩, .string ⟨#[114, 101, 116, 117, 114, 110]⟩, .string ⟨#[112, 114, 105, 110, 116]⟩, .string ⟨#[110, 101, 119]⟩, .string ⟨#[110, 105, 108]⟩, .string ⟨#[116, 114, 117, 101]⟩, .string ⟨#[102, 97, 108, 115, 101]⟩, .string ⟨#[105, 110, 116]⟩, .string ⟨#[98, 111, 111, 108]⟩, .string ⟨#[114, 101, 97, 100]⟩] := rfl
 rw [he] at HC HW
 clear he
 generalize w.alloc _ = W1 at HC HW ⊢
 go_loopw [4] (fun v wr => ∃ k : Nat, v = .int .i64 k ∧ k ≤ 16 ∧ Aside0 (∀ i : Nat, i < k → keyIs a0 (keyList.getD i ⟨#[]⟩) = false) ∧ wr = W1) (fun v _ => 16 - (intOf v).toNat)
 case atStart => exact ⟨0, rfl, by omega, ⟨fun i h => absurd h (Nat.not_lt_zero _)⟩, rfl⟩
 case round =>
  obtain ⟨k, rfl, hk, HA, rfl⟩ := hrel
  by_cases hlt : k < 16
  ·have hc := HC.out k hlt
   obtain ⟨x, ex⟩ : ∃ x, x = keyList.getD k ⟨#[]⟩ := ⟨_, rfl⟩
   rw [← ex] at hc
   have EX := Aside0.mk ex; clear ex
   rcases he : (x.toList == a0.toList) with _ | _
   ·have he2 : ¬ x.toList = a0.toList := beq_eq_false_iff_ne.mp he
    have HA1 : Aside0 (∀ i : Nat, i < k + 1 → keyIs a0 (keyList.getD i ⟨#[]⟩) = false) := ⟨all_succ (P := fun i => keyIs a0 (keyList.getD i ⟨#[]⟩) = false) HA.out (by unfold keyIs; rw [← EX.out]; exact he)⟩
    clear HA EX
    go_wp2
    go_roundw
    case rel => exact ⟨k + 1, by go_num, by omega, HA1, by first | rfl | trivial⟩
    case measure => simp [intOf]; omega
   ·have HF : Aside0 (r = true) := ⟨by rw [← HRR.out, find_last (l := keyList) (z := ⟨#[]⟩) (k := k) hlt HA.out (by unfold keyIs; rw [← EX.out]; exact he)]; exact decide_eq_true (by omega)⟩
    have he2 : x.toList = a0.toList := beq_iff_eq.mp he
    clear EX HA
    go_wp2
    go_ret
    exact ⟨by rw [HF.out]; rfl, HW.out⟩
  ·have HF : Aside0 (r = false) := ⟨by rw [← HRR.out, find_none (l := keyList) (z := ⟨#[]⟩) (fun i hi => HA.out i (by have : keyList.length = 16 := rfl; omega))]; rfl⟩
   go_wp2
   go_ret
   exact ⟨by rw [HF.out]; rfl, HW.out⟩
end Go.Proofs.YtcmppjonpmgncaaGreatDoor.Q

namespace Go.Proofs.YtcmppjonpmgncaaGreatDoor.Q
open Go.RowKit Go.Proofs.YtcmppjonpmgncaaGreatDoorW.PrintWords Go.Proofs.YtcmppjonpmgncaaGreatDoorW.PrintLast Go.Proofs.YtcmppjonpmgncaaGreatDoorW.PrintMore
attribute [local go_sem] max2_int min2_int max_two min_two max_three min_three max_four min_four   -- for this text's walks alone
set_option linter.unusedVariables false
set_option linter.unusedSimpArgs false

/-! ### stringslite_TrimPrefix: function 65 -/
def stringslite_TrimPrefix.f (a0 : ByteArray) (a1 : ByteArray) : Option (ByteArray) := (stringslite_HasPrefix.f a0 a1).bind fun t117 => (if t117 = true then (if 0 ≤ (a1.size : Int) then (if (a1.size : Int) ≤ (a0.size : Int) then (some (a0.extract ((a1.size : Int) : Int).toNat a0.size)) else (none)) else (none)) else (some a0))
set_option maxHeartbeats 8000000 in
set_option maxRecDepth 100000 in
theorem stringslite_TrimPrefix.calls (a0 : ByteArray) (a1 : ByteArray) (r : ByteArray) (w : World) (h : stringslite_TrimPrefix.f a0 a1 = some r) :
  Calls Tryz.prog 65 #[.string a0, .string a1] w fun e w' => e = .returned (.string r) ∧ Drawn0 w w' := by
 have H : ((stringslite_HasPrefix.f a0 a1).bind fun t117 => (if t117 = true then (if 0 ≤ (a1.size : Int) then (if (a1.size : Int) ≤ (a0.size : Int) then (some (a0.extract ((a1.size : Int) : Int).toNat a0.size)) else (none)) else (none)) else (some a0))) = some r := h
 clear h
 replace H := Option.bind_eq_some_iff.mp H
 obtain ⟨t117, A30, H⟩ := H
 replace H : (if t117 = true then (if 0 ≤ (a1.size : Int) then (if (a1.size : Int) ≤ (a0.size : Int) then (some (a0.extract ((a1.size : Int) : Int).toNat a0.size)) else (none)) else (none)) else (some a0)) = some r := H
 have A3 := Aside0.mk A30
 clear A30
 by_cases c4 : t117 = true
 ·subst c4
  have H1 : (if 0 ≤ (a1.size : Int) then (if (a1.size : Int) ≤ (a0.size : Int) then (some (a0.extract ((a1.size : Int) : Int).toNat a0.size)) else (none)) else (none)) = some r := by rw [if_pos rfl] at H; exact H
  clear H
  have H := H1
  clear H1
  by_cases c5 : 0 ≤ (a1.size : Int)
  ·rw [if_pos c5] at H
   have c5b0 := eq_true c5
   have c5b1 : decide (0 ≤ (a1.size : Int)) = true := decide_eq_true c5
   clear c5
   by_cases c6 : (a1.size : Int) ≤ (a0.size : Int)
   ·rw [if_pos c6] at H
    have c6b0 := eq_true c6
    have c6b1 : decide ((a1.size : Int) ≤ (a0.size : Int)) = true := decide_eq_true c6
    clear c6
    obtain rfl := Option.some.inj H
    go_enter Tryz.func65, Tryz.ntmps65
    go_wp2_with (first | ((with_reducible refine gate_callee (f := 47) rfl ?_); refine goesL_ (some 7) rfl rfl Tryz.func47 (by kernel_rfl) rfl #[.string a0, .string a1] rfl (by (try simp only [List.map_toArray, List.map_cons, List.map_nil]); first | done | rfl | (simp only [List.length_drop, List.length_take]; rfl)) ?_; (with_reducible refine (stringslite_HasPrefix.calls a0 a1 true _ A3.out).mono ?_); rintro e w' ⟨rfl, ⟨nd, rfl⟩⟩; refine ⟨_, rfl, ?_⟩))
    go_ret
    exact ⟨by first | rfl | (simp; done) | (simp [*]; done), by repeat (first | exact Drawn0.refl _ | apply Drawn0.step)⟩
   ·rw [if_neg c6] at H
    exact absurd H (by simp)
  ·rw [if_neg c5] at H
   exact absurd H (by simp)
 ·replace c4 := Bool.eq_false_iff.mpr c4
  subst c4
  have H1 : (some a0) = some r := by rw [if_neg (show ¬ (false = true) by decide)] at H; exact H
  clear H
  have H := H1
  clear H1
  obtain rfl := Option.some.inj H
  go_enter Tryz.func65, Tryz.ntmps65
  go_wp2_with (first | ((with_reducible refine gate_callee (f := 47) rfl ?_); refine goesL_ (some 7) rfl rfl Tryz.func47 (by kernel_rfl) rfl #[.string a0, .string a1] rfl (by (try simp only [List.map_toArray, List.map_cons, List.map_nil]); first | done | rfl | (simp only [List.length_drop, List.length_take]; rfl)) ?_; (with_reducible refine (stringslite_HasPrefix.calls a0 a1 false _ A3.out).mono ?_); rintro e w' ⟨rfl, ⟨nd, rfl⟩⟩; refine ⟨_, rfl, ?_⟩))
  go_ret
  exact ⟨by first | rfl | (simp; done) | (simp [*]; done), by repeat (first | exact Drawn0.refl _ | apply Drawn0.step)⟩

end Go.Proofs.YtcmppjonpmgncaaGreatDoor.Q

namespace Go.Proofs.YtcmppjonpmgncaaGreatDoor.Q
open Go.RowKit Go.Proofs.YtcmppjonpmgncaaGreatDoorW.PrintWords Go.Proofs.YtcmppjonpmgncaaGreatDoorW.PrintLast Go.Proofs.YtcmppjonpmgncaaGreatDoorW.PrintMore
attribute [local go_sem] max2_int min2_int max_two min_two max_three min_three max_four min_four   -- for this text's walks alone
set_option linter.unusedVariables false
set_option linter.unusedSimpArgs false

/-! ### strings_TrimPrefix: function 56 -/
def strings_TrimPrefix.f (a0 : ByteArray) (a1 : ByteArray) : Option (ByteArray) := (stringslite_TrimPrefix.f a0 a1).bind fun t118 => (some t118)
set_option maxHeartbeats 8000000 in
set_option maxRecDepth 100000 in
theorem strings_TrimPrefix.calls (a0 : ByteArray) (a1 : ByteArray) (r : ByteArray) (w : World) (h : strings_TrimPrefix.f a0 a1 = some r) :
  Calls Tryz.prog 56 #[.string a0, .string a1] w fun e w' => e = .returned (.string r) ∧ Drawn0 w w' := by
 have H : ((stringslite_TrimPrefix.f a0 a1).bind fun t118 => (some t118)) = some r := h
 clear h
 replace H := Option.bind_eq_some_iff.mp H
 obtain ⟨t118, A30, H⟩ := H
 replace H : (some t118) = some r := H
 have A3 := Aside0.mk A30
 clear A30
 obtain rfl := Option.some.inj H
 go_enter Tryz.func56, Tryz.ntmps56
 go_wp2_with (first | ((with_reducible refine gate_callee (f := 65) rfl ?_); refine goesL_ (some 7) rfl rfl Tryz.func65 (by kernel_rfl) rfl #[.string a0, .string a1] rfl (by (try simp only [List.map_toArray, List.map_cons, List.map_nil]); first | done | rfl | (simp only [List.length_drop, List.length_take]; rfl)) ?_; (with_reducible refine (stringslite_TrimPrefix.calls a0 a1 t118 _ A3.out).mono ?_); rintro e w' ⟨rfl, ⟨nd, rfl⟩⟩; refine ⟨_, rfl, ?_⟩))
 go_ret
 exact ⟨by first | rfl | (simp; done) | (simp [*]; done), by repeat (first | exact Drawn0.refl _ | apply Drawn0.step)⟩

end Go.Proofs.YtcmppjonpmgncaaGreatDoor.Q

-- (laid by the kit's lay-shelf and lay-plain at this seat's dump)
/- The library's contracts at this program. -/

namespace Go.Proofs
open Go.Shelf
def Tryz.lays156_ren : Go.Shelf.Ren := ⟨fun | 156 => 28 | 165 => 44 | 166 => 45 | 169 => 46 | 240 => 54 | 241 => 55 | 276 => 63 | 277 => 64 | n => n, fun | 31 => 47 | 9 => 9 | 3 => 3 | 4 => 4 | 0 => 0 | 20 => 20 | 72 => 59 | 76 => 63 | 70 => 56 | 37 => 57 | 75 => 62 | 127 => 69 | 164 => 72 | 5 => 5 | 80 => 65 | n => n, fun | n => n⟩
theorem Tryz.lays156 : Go.Proofs.Lays.n156 Tryz.prog Tryz.lays156_ren := {
 mixed := by kernel_rfl
 f156 := Tryz.func28.trans (congrArg some (by kernel_rfl))
 f165 := Tryz.func44.trans (congrArg some (by kernel_rfl))
 f166 := Tryz.func45.trans (congrArg some (by kernel_rfl))
 f169 := Tryz.func46.trans (congrArg some (by kernel_rfl))
 f240 := Tryz.func54.trans (congrArg some (by kernel_rfl))
 f241 := Tryz.func55.trans (congrArg some (by kernel_rfl))
 f276 := Tryz.func63.trans (congrArg some (by kernel_rfl))
 f277 := Tryz.func64.trans (congrArg some (by kernel_rfl))
 t0 := Tryz.underlying0
 a0 := Tryz.isAgg0
 z0 := Tryz.sizeOf0
 v0 := Tryz.zeroValue0
 t3 := Tryz.underlying3
 a3 := Tryz.isAgg3
 z3 := Tryz.sizeOf3
 v3 := Tryz.zeroValue3
 t4 := Tryz.underlying4
 a4 := Tryz.isAgg4
 z4 := Tryz.sizeOf4
 v4 := Tryz.zeroValue4
 t9 := Tryz.underlying9
 a9 := Tryz.isAgg9
 z9 := Tryz.sizeOf9
 v9 := Tryz.zeroValue9
 t20 := Tryz.underlying20
 a20 := Tryz.isAgg20
 z20 := Tryz.sizeOf20
 v20 := Tryz.zeroValue20
 t31 := Tryz.underlying47
 a31 := Tryz.isAgg47
 z31 := Tryz.sizeOf47
 v31 := Tryz.zeroValue47
 t37 := Tryz.underlying57
 a37 := Tryz.isAgg57
 z37 := Tryz.sizeOf57
 v37 := Tryz.zeroValue57
 t70 := Tryz.underlying56
 a70 := Tryz.isAgg56
 z70 := Tryz.sizeOf56
 v70 := Tryz.zeroValue56
 t72 := Tryz.underlying59
 a72 := Tryz.isAgg59
 z72 := Tryz.sizeOf59
 v72 := Tryz.zeroValue59
 t75 := Tryz.underlying62
 a75 := Tryz.isAgg62
 z75 := Tryz.sizeOf62
 v75 := Tryz.zeroValue62
 t76 := Tryz.underlying63
 a76 := Tryz.isAgg63
 z76 := Tryz.sizeOf63
 v76 := Tryz.zeroValue63
 t127 := Tryz.underlying69
 a127 := Tryz.isAgg69
 z127 := Tryz.sizeOf69
 v127 := Tryz.zeroValue69
 t164 := Tryz.underlying72
 a164 := Tryz.isAgg72
 z164 := Tryz.sizeOf72
 v164 := Tryz.zeroValue72 }
theorem Tryz.Builder_Extra_156 : Builder.Extra Tryz.prog Tryz.lays156_ren := {
 sizeBuilder := by kernel_rfl
 liesBuilder := by kernel_rfl
 t5 := Tryz.underlying5
 a5 := Tryz.isAgg5
 z5 := Tryz.sizeOf5
 v5 := Tryz.zeroValue5
 infoByte := by kernel_rfl
 cellsByte := by kernel_rfl
 sizeByte := by kernel_rfl
 neB5 := by decide }
open Go.RowKit in
theorem Tryz.strings_Join_none (a : Option Addr) (c : Nat) (sep : ByteArray) (w : World) :
  Calls Tryz.prog 28 #[.slice a 0 c, .string sep] w fun e w' => e = .returned (.string ⟨#[]⟩) ∧ w' = w := Any.strings_Join_none Tryz.lays156 Tryz.Builder_Extra_156 a c sep w
open Go.RowKit in
theorem Tryz.strings_Join (bk o c : Nat) (xs : List ByteArray) (sep : ByteArray) (w : World) (hcells : ∀ (j : Nat) x, xs[j]? = some x → w.cell? ⟨bk, o + j, none⟩ = some (.string x)) (hbk : bk < w.heap.size) (hN : xs.length ≤ 140737488355328) (hcap : xs.length ≤ c) (hlen : (Lib.join (xs.map (·.data.toList)) sep.data.toList).length ≤ 140737488355328) :
  Calls Tryz.prog 28 #[.slice (some ⟨bk, o, none⟩) xs.length c, .string sep] w fun e w' => e = .returned (.string ⟨(Lib.join (xs.map (·.data.toList)) sep.data.toList).toArray⟩) ∧ Below w.heap.size w w' := Any.strings_Join Tryz.lays156 Tryz.Builder_Extra_156 bk o c xs sep w hcells hbk hN hcap hlen
def Tryz.lays160_ren : Go.Shelf.Ren := ⟨fun | 160 => 66 | 232 => 72 | 231 => 71 | 227 => 73 | 234 => 75 | 233 => 74 | 236 => 77 | 235 => 76 | 228 => 83 | 271 => 86 | 151 => 85 | 197 => 84 | 120 => 93 | 152 => 92 | 260 => 91 | 137 => 97 | 119 => 98 | 224 => 61 | 225 => 60 | 217 => 59 | 266 => 69 | n => n, fun | 9 => 9 | 4 => 4 | 3 => 3 | 5 => 5 | 117 => 82 | 116 => 81 | 0 => 0 | 124 => 85 | 21 => 21 | 105 => 92 | 46 => 39 | 119 => 107 | 139 => 110 | 138 => 109 | n => n, fun | 3 => 3 | 4 => 4 | n => n⟩
theorem Tryz.lays160 : Go.Proofs.Lays.n160 Tryz.prog Tryz.lays160_ren := {
 mixed := by kernel_rfl
 f119 := Tryz.func98.trans (congrArg some (by kernel_rfl))
 f120 := Tryz.func93.trans (congrArg some (by kernel_rfl))
 f137 := Tryz.func97.trans (congrArg some (by kernel_rfl))
 f151 := Tryz.func85.trans (congrArg some (by kernel_rfl))
 f152 := Tryz.func92.trans (congrArg some (by kernel_rfl))
 f160 := Tryz.func66.trans (congrArg some (by kernel_rfl))
 f197 := Tryz.func84.trans (congrArg some (by kernel_rfl))
 f217 := Tryz.func59.trans (congrArg some (by kernel_rfl))
 f224 := Tryz.func61.trans (congrArg some (by kernel_rfl))
 f225 := Tryz.func60.trans (congrArg some (by kernel_rfl))
 f227 := Tryz.func73.trans (congrArg some (by kernel_rfl))
 f228 := Tryz.func83.trans (congrArg some (by kernel_rfl))
 f231 := Tryz.func71.trans (congrArg some (by kernel_rfl))
 f232 := Tryz.func72.trans (congrArg some (by kernel_rfl))
 f233 := Tryz.func74.trans (congrArg some (by kernel_rfl))
 f234 := Tryz.func75.trans (congrArg some (by kernel_rfl))
 f235 := Tryz.func76.trans (congrArg some (by kernel_rfl))
 f236 := Tryz.func77.trans (congrArg some (by kernel_rfl))
 f260 := Tryz.func91.trans (congrArg some (by kernel_rfl))
 f266 := Tryz.func69.trans (congrArg some (by kernel_rfl))
 f271 := Tryz.func86.trans (congrArg some (by kernel_rfl))
 t0 := Tryz.underlying0
 a0 := Tryz.isAgg0
 z0 := Tryz.sizeOf0
 v0 := Tryz.zeroValue0
 t3 := Tryz.underlying3
 a3 := Tryz.isAgg3
 z3 := Tryz.sizeOf3
 v3 := Tryz.zeroValue3
 t4 := Tryz.underlying4
 a4 := Tryz.isAgg4
 z4 := Tryz.sizeOf4
 v4 := Tryz.zeroValue4
 t5 := Tryz.underlying5
 a5 := Tryz.isAgg5
 z5 := Tryz.sizeOf5
 v5 := Tryz.zeroValue5
 t9 := Tryz.underlying9
 a9 := Tryz.isAgg9
 z9 := Tryz.sizeOf9
 v9 := Tryz.zeroValue9
 t21 := Tryz.underlying21
 a21 := Tryz.isAgg21
 z21 := Tryz.sizeOf21
 v21 := Tryz.zeroValue21
 t46 := Tryz.underlying39
 a46 := Tryz.isAgg39
 z46 := Tryz.sizeOf39
 v46 := Tryz.zeroValue39
 t105 := Tryz.underlying92
 a105 := Tryz.isAgg92
 z105 := Tryz.sizeOf92
 v105 := Tryz.zeroValue92
 t116 := Tryz.underlying81
 a116 := Tryz.isAgg81
 z116 := Tryz.sizeOf81
 t117 := Tryz.underlying82
 a117 := Tryz.isAgg82
 z117 := Tryz.sizeOf82
 v117 := Tryz.zeroValue82
 t119 := Tryz.underlying107
 a119 := Tryz.isAgg107
 z119 := Tryz.sizeOf107
 t124 := Tryz.underlying85
 a124 := Tryz.isAgg85
 z124 := Tryz.sizeOf85
 v124 := Tryz.zeroValue85
 t138 := Tryz.underlying109
 a138 := Tryz.isAgg109
 z138 := Tryz.sizeOf109
 v138 := Tryz.zeroValue109
 t139 := Tryz.underlying110
 a139 := Tryz.isAgg110
 z139 := Tryz.sizeOf110
 v139 := Tryz.zeroValue110
 g3 := by kernel_rfl
 g4 := by kernel_rfl }
def Tryz.laysC172_ren : Go.Shelf.Ren := ⟨fun | 172 => 58 | 244 => 67 | 245 => 68 | 247 => 78 | 279 => 79 | 280 => 80 | 281 => 81 | 282 => 82 | 287 => 87 | 316 => 88 | 171 => 90 | 205 => 89 | 321 => 94 | 322 => 95 | 243 => 96 | 246 => 99 | 283 => 100 | 284 => 101 | 285 => 102 | 286 => 103 | 129 => 105 | 317 => 104 | 318 => 106 | 319 => 107 | 320 => 108 | 337 => 109 | 338 => 110 | n => n, fun | 9 => 9 | 3 => 3 | 75 => 62 | 76 => 63 | 4 => 4 | 5 => 5 | 167 => 86 | 37 => 57 | 0 => 0 | 85 => 87 | 2 => 2 | 168 => 89 | 53 => 54 | 175 => 95 | 46 => 39 | 210 => 99 | 127 => 69 | 145 => 106 | 143 => 104 | 21 => 21 | 171 => 113 | 173 => 116 | 212 => 119 | 51 => 76 | 20 => 20 | 213 => 120 | 232 => 124 | 233 => 125 | 80 => 65 | n => n, fun | 15 => 1 | 16 => 2 | 17 => 5 | 18 => 6 | 19 => 7 | n => n⟩
theorem Tryz.laysC172 : Go.Proofs.LaysC.n172 Tryz.prog Tryz.laysC172_ren := {
 mixed := by kernel_rfl
 f129 := Tryz.func105.trans (congrArg some (by kernel_rfl))
 f171 := Tryz.func90.trans (congrArg some (by kernel_rfl))
 f172 := Tryz.func58.trans (congrArg some (by kernel_rfl))
 f205 := Tryz.func89.trans (congrArg some (by kernel_rfl))
 f243 := Tryz.func96.trans (congrArg some (by kernel_rfl))
 f244 := Tryz.func67.trans (congrArg some (by kernel_rfl))
 f245 := Tryz.func68.trans (congrArg some (by kernel_rfl))
 f246 := Tryz.func99.trans (congrArg some (by kernel_rfl))
 f247 := Tryz.func78.trans (congrArg some (by kernel_rfl))
 f279 := Tryz.func79.trans (congrArg some (by kernel_rfl))
 f280 := Tryz.func80.trans (congrArg some (by kernel_rfl))
 f281 := Tryz.func81.trans (congrArg some (by kernel_rfl))
 f282 := Tryz.func82.trans (congrArg some (by kernel_rfl))
 f283 := Tryz.func100.trans (congrArg some (by kernel_rfl))
 f284 := Tryz.func101.trans (congrArg some (by kernel_rfl))
 f285 := Tryz.func102.trans (congrArg some (by kernel_rfl))
 f286 := Tryz.func103.trans (congrArg some (by kernel_rfl))
 f287 := Tryz.func87.trans (congrArg some (by kernel_rfl))
 f316 := Tryz.func88.trans (congrArg some (by kernel_rfl))
 f317 := Tryz.func104.trans (congrArg some (by kernel_rfl))
 f318 := Tryz.func106.trans (congrArg some (by kernel_rfl))
 f319 := Tryz.func107.trans (congrArg some (by kernel_rfl))
 f320 := Tryz.func108.trans (congrArg some (by kernel_rfl))
 f321 := Tryz.func94.trans (congrArg some (by kernel_rfl))
 f322 := Tryz.func95.trans (congrArg some (by kernel_rfl))
 f337 := Tryz.func109.trans (congrArg some (by kernel_rfl))
 f338 := Tryz.func110.trans (congrArg some (by kernel_rfl))
 t0 := Tryz.underlying0
 a0 := Tryz.isAgg0
 z0 := Tryz.sizeOf0
 v0 := Tryz.zeroValue0
 t2 := Tryz.underlying2
 a2 := Tryz.isAgg2
 z2 := Tryz.sizeOf2
 v2 := Tryz.zeroValue2
 t3 := Tryz.underlying3
 a3 := Tryz.isAgg3
 z3 := Tryz.sizeOf3
 v3 := Tryz.zeroValue3
 t4 := Tryz.underlying4
 a4 := Tryz.isAgg4
 z4 := Tryz.sizeOf4
 v4 := Tryz.zeroValue4
 t5 := Tryz.underlying5
 a5 := Tryz.isAgg5
 z5 := Tryz.sizeOf5
 v5 := Tryz.zeroValue5
 t9 := Tryz.underlying9
 a9 := Tryz.isAgg9
 z9 := Tryz.sizeOf9
 v9 := Tryz.zeroValue9
 t20 := Tryz.underlying20
 a20 := Tryz.isAgg20
 z20 := Tryz.sizeOf20
 v20 := Tryz.zeroValue20
 t21 := Tryz.underlying21
 a21 := Tryz.isAgg21
 z21 := Tryz.sizeOf21
 v21 := Tryz.zeroValue21
 t37 := Tryz.underlying57
 a37 := Tryz.isAgg57
 z37 := Tryz.sizeOf57
 v37 := Tryz.zeroValue57
 t46 := Tryz.underlying39
 a46 := Tryz.isAgg39
 z46 := Tryz.sizeOf39
 v46 := Tryz.zeroValue39
 t51 := Tryz.underlying76
 a51 := Tryz.isAgg76
 z51 := Tryz.sizeOf76
 v51 := Tryz.zeroValue76
 t53 := Tryz.underlying54
 a53 := Tryz.isAgg54
 z53 := Tryz.sizeOf54
 v53 := Tryz.zeroValue54
 t75 := Tryz.underlying62
 a75 := Tryz.isAgg62
 z75 := Tryz.sizeOf62
 v75 := Tryz.zeroValue62
 t76 := Tryz.underlying63
 a76 := Tryz.isAgg63
 z76 := Tryz.sizeOf63
 v76 := Tryz.zeroValue63
 t85 := Tryz.underlying87
 a85 := Tryz.isAgg87
 z85 := Tryz.sizeOf87
 v85 := Tryz.zeroValue87
 t127 := Tryz.underlying69
 a127 := Tryz.isAgg69
 z127 := Tryz.sizeOf69
 v127 := Tryz.zeroValue69
 t143 := Tryz.underlying104
 a143 := Tryz.isAgg104
 z143 := Tryz.sizeOf104
 v143 := Tryz.zeroValue104
 t145 := Tryz.underlying106
 a145 := Tryz.isAgg106
 z145 := Tryz.sizeOf106
 v145 := Tryz.zeroValue106
 t167 := Tryz.underlying86
 a167 := Tryz.isAgg86
 z167 := Tryz.sizeOf86
 v167 := Tryz.zeroValue86
 t168 := Tryz.underlying89
 a168 := Tryz.isAgg89
 z168 := Tryz.sizeOf89
 v168 := Tryz.zeroValue89
 t171 := Tryz.underlying113
 a171 := Tryz.isAgg113
 z171 := Tryz.sizeOf113
 v171 := Tryz.zeroValue113
 t173 := Tryz.underlying116
 a173 := Tryz.isAgg116
 z173 := Tryz.sizeOf116
 v173 := Tryz.zeroValue116
 t175 := Tryz.underlying95
 a175 := Tryz.isAgg95
 z175 := Tryz.sizeOf95
 v175 := Tryz.zeroValue95
 t210 := Tryz.underlying99
 a210 := Tryz.isAgg99
 z210 := Tryz.sizeOf99
 v210 := Tryz.zeroValue99
 t212 := Tryz.underlying119
 a212 := Tryz.isAgg119
 z212 := Tryz.sizeOf119
 v212 := Tryz.zeroValue119
 t213 := Tryz.underlying120
 a213 := Tryz.isAgg120
 z213 := Tryz.sizeOf120
 t232 := Tryz.underlying124
 a232 := Tryz.isAgg124
 z232 := Tryz.sizeOf124
 v232 := Tryz.zeroValue124
 t233 := Tryz.underlying125
 a233 := Tryz.isAgg125
 z233 := Tryz.sizeOf125
 v233 := Tryz.zeroValue125
 g15 := by kernel_rfl
 g16 := by kernel_rfl
 g17 := by kernel_rfl
 g18 := by kernel_rfl
 g19 := by kernel_rfl
 t80 := Tryz.underlying65
 a80 := Tryz.isAgg65
 z80 := Tryz.sizeOf65
 v80 := Tryz.zeroValue65
 i0 := by kernel_rfl
 i2 := by kernel_rfl
 i3 := by kernel_rfl
 i4 := by kernel_rfl
 i5 := by kernel_rfl
 i9 := by kernel_rfl
 i20 := by kernel_rfl
 i21 := by kernel_rfl
 i37 := by kernel_rfl
 i46 := by kernel_rfl
 i51 := by kernel_rfl
 i53 := by kernel_rfl
 i75 := by kernel_rfl
 i76 := by kernel_rfl
 i80 := by kernel_rfl
 i85 := by kernel_rfl
 i127 := by kernel_rfl
 i143 := by kernel_rfl
 i145 := by kernel_rfl
 i167 := by kernel_rfl
 i168 := by kernel_rfl
 i171 := by kernel_rfl
 i173 := by kernel_rfl
 i175 := by kernel_rfl
 i210 := by kernel_rfl
 i212 := by kernel_rfl
 i232 := by kernel_rfl
 i233 := by kernel_rfl
 m15 := by kernel_rfl
 m16 := by kernel_rfl
 m17 := by kernel_rfl
 m18 := by kernel_rfl
 m19 := by kernel_rfl
 c0 := by kernel_rfl
 c2 := by kernel_rfl
 c3 := by kernel_rfl
 c4 := by kernel_rfl
 c5 := by kernel_rfl
 c9 := by kernel_rfl
 c20 := by kernel_rfl
 c21 := by kernel_rfl
 c37 := by kernel_rfl
 c46 := by kernel_rfl
 c51 := by kernel_rfl
 c53 := by kernel_rfl
 c75 := by kernel_rfl
 c76 := by kernel_rfl
 c80 := by kernel_rfl
 c85 := by kernel_rfl
 c127 := by kernel_rfl
 c143 := by kernel_rfl
 c145 := by kernel_rfl
 c167 := by kernel_rfl
 c168 := by kernel_rfl
 c171 := by kernel_rfl
 c173 := by kernel_rfl
 c175 := by kernel_rfl
 c210 := by kernel_rfl
 c212 := by kernel_rfl
 c213 := by kernel_rfl
 c232 := by kernel_rfl
 c233 := by kernel_rfl }
open Go.RowKit in
theorem Tryz.strconv_Atoi_ok (s : ByteArray) (hmax : s.size ≤ 9223372036854775806) (v : Int) (h : Lib.atoiAll s.data.toList = .ok v) (w : World) :
  Calls Tryz.prog 58 #[.string s] w fun e w' => e = .returned (.tuple #[.int .i64 v, .nilIface]) ∧ (w' = w ∨ ∃ t, w' = Lib.bytesWorld w 5 t) := Any.strconv_Atoi_ok Tryz.laysC172 s hmax v h w
open Go.RowKit in
theorem Tryz.strconv_Atoi_syntax_var (s : ByteArray) (hlim : s.size ≤ 281474976710656) (h : Lib.atoiAll s.data.toList = .«syntax») (tp : TypeId) (p : Value) (w : World) (hvar : w.var? Tryz.prog "strconv.ErrSyntax" = some #[.iface tp p]) :
  Calls Tryz.prog 58 #[.string s] w fun e w' => ∃ N, e = .returned (.tuple #[.int .i64 0, .iface 89 (.pointer (some ⟨N, 0, none⟩))]) ∧ w.heap.size ≤ N ∧ w'.heap[N]? = some (.cells #[.string ⟨#[65, 116, 111, 105]⟩, .string s, .iface tp p] 99 (0, 0)) ∧ Below w.heap.size w w' := Any.strconv_Atoi_syntax_var Tryz.laysC172 s hlim h tp p w hvar
open Go.RowKit in
theorem Tryz.strconv_Atoi_range_var (s : ByteArray) (hlim : s.size ≤ 281474976710656) (h : Lib.atoiAll s.data.toList = .range) (tp : TypeId) (p : Value) (w : World) (hvar : w.var? Tryz.prog "strconv.ErrRange" = some #[.iface tp p]) :
  Calls Tryz.prog 58 #[.string s] w fun e w' => ∃ N, e = .returned (.tuple #[.int .i64 (Lib.atoiSat s.data.toList), .iface 89 (.pointer (some ⟨N, 0, none⟩))]) ∧ w.heap.size ≤ N ∧ w'.heap[N]? = some (.cells #[.string ⟨#[65, 116, 111, 105]⟩, .string s, .iface tp p] 99 (0, 0)) ∧ Below w.heap.size w w' := Any.strconv_Atoi_range_var Tryz.laysC172 s hlim h tp p w hvar
def Tryz.lays138_ren : Go.Shelf.Ren := ⟨fun | 138 => 26 | 195 => 40 | 218 => 41 | 143 => 42 | 219 => 53 | 217 => 59 | 225 => 60 | 224 => 61 | 267 => 62 | 266 => 69 | 314 => 70 | n => n, fun | 9 => 9 | 3 => 3 | 4 => 4 | 5 => 5 | 0 => 0 | 46 => 39 | 146 => 77 | 51 => 76 | n => n, fun | 1 => 0 | n => n⟩
theorem Tryz.lays138 : Go.Proofs.Lays.n138 Tryz.prog Tryz.lays138_ren := {
 mixed := by kernel_rfl
 f138 := Tryz.func26.trans (congrArg some (by kernel_rfl))
 f143 := Tryz.func42.trans (congrArg some (by kernel_rfl))
 f195 := Tryz.func40.trans (congrArg some (by kernel_rfl))
 f217 := Tryz.func59.trans (congrArg some (by kernel_rfl))
 f218 := Tryz.func41.trans (congrArg some (by kernel_rfl))
 f219 := Tryz.func53.trans (congrArg some (by kernel_rfl))
 f224 := Tryz.func61.trans (congrArg some (by kernel_rfl))
 f225 := Tryz.func60.trans (congrArg some (by kernel_rfl))
 f266 := Tryz.func69.trans (congrArg some (by kernel_rfl))
 f267 := Tryz.func62.trans (congrArg some (by kernel_rfl))
 f314 := Tryz.func70.trans (congrArg some (by kernel_rfl))
 t0 := Tryz.underlying0
 a0 := Tryz.isAgg0
 z0 := Tryz.sizeOf0
 v0 := Tryz.zeroValue0
 t3 := Tryz.underlying3
 a3 := Tryz.isAgg3
 z3 := Tryz.sizeOf3
 v3 := Tryz.zeroValue3
 t4 := Tryz.underlying4
 a4 := Tryz.isAgg4
 z4 := Tryz.sizeOf4
 v4 := Tryz.zeroValue4
 t5 := Tryz.underlying5
 a5 := Tryz.isAgg5
 z5 := Tryz.sizeOf5
 v5 := Tryz.zeroValue5
 t9 := Tryz.underlying9
 a9 := Tryz.isAgg9
 z9 := Tryz.sizeOf9
 v9 := Tryz.zeroValue9
 t46 := Tryz.underlying39
 a46 := Tryz.isAgg39
 z46 := Tryz.sizeOf39
 v46 := Tryz.zeroValue39
 t51 := Tryz.underlying76
 a51 := Tryz.isAgg76
 z51 := Tryz.sizeOf76
 v51 := Tryz.zeroValue76
 t146 := Tryz.underlying77
 a146 := Tryz.isAgg77
 z146 := Tryz.sizeOf77
 v146 := Tryz.zeroValue77
 g1 := by kernel_rfl }
open Go.RowKit Go.Lib in
theorem Tryz.strings_Count_one (s : ByteArray) (c : UInt8) (w : World) :
  Calls Tryz.prog 26 #[.string s, .string ⟨#[c]⟩] w fun e w' => e = .returned (.int .i64 (Lib.countByte s.data.toList c)) ∧ w' = w := Any.strings_Count_one Tryz.lays138 s c w
open Go.RowKit Go.Lib in
theorem Tryz.strings_Count (s sub : ByteArray) (m : Int) (w : World) (hs : s.size < 4294967281) (hm : w.cell? ⟨0, 0, none⟩ = some (.int .i64 m)) (h2 : 2 ≤ sub.size) :
  Calls Tryz.prog 26 #[.string s, .string sub] w fun e w' => e = .returned (.int .i64 (Lib.countB s sub)) ∧ w' = w := Any.strings_Count Tryz.lays138 s sub m w hs hm h2
def Tryz.lays149_ren : Go.Shelf.Ren := ⟨fun | 149 => 27 | 222 => 43 | n => n, fun | 9 => 9 | 5 => 5 | 3 => 3 | 4 => 4 | n => n, fun | n => n⟩
theorem Tryz.lays149 : Go.Proofs.Lays.n149 Tryz.prog Tryz.lays149_ren := {
 mixed := by kernel_rfl
 f149 := Tryz.func27.trans (congrArg some (by kernel_rfl))
 f222 := Tryz.func43.trans (congrArg some (by kernel_rfl))
 t3 := Tryz.underlying3
 a3 := Tryz.isAgg3
 z3 := Tryz.sizeOf3
 v3 := Tryz.zeroValue3
 t4 := Tryz.underlying4
 a4 := Tryz.isAgg4
 z4 := Tryz.sizeOf4
 v4 := Tryz.zeroValue4
 t5 := Tryz.underlying5
 a5 := Tryz.isAgg5
 z5 := Tryz.sizeOf5
 v5 := Tryz.zeroValue5
 t9 := Tryz.underlying9
 a9 := Tryz.isAgg9
 z9 := Tryz.sizeOf9
 v9 := Tryz.zeroValue9 }
open Go.RowKit Go.Lib in
theorem Tryz.strings_LastIndexByte (s : ByteArray) (c : Int) (hs : s.size < 4611686018427387904) (w : World) :
  Calls Tryz.prog 27 #[.string s, .int .u8 c] w fun e w' => e = .returned (.int .i64 (Lib.lastIndexByte s c)) ∧ w' = w := Any.strings_LastIndexByte Tryz.lays149 s c hs w
end Go.Proofs

/- num.isDigits, num.Parse, num.Text: by hand, over the shelf's contracts. -/
namespace Go.Proofs.YtcmppjonpmgncaaGreatDoor.Q
open Go.RowKit Go.Proofs.YtcmppjonpmgncaaGreatDoorW.PrintWords Go.Proofs.YtcmppjonpmgncaaGreatDoorW.PrintLast Go.Proofs.YtcmppjonpmgncaaGreatDoorW.PrintMore
set_option linter.unusedVariables false
set_option linter.unusedSimpArgs false
open Go.Shelf
theorem var_old {n : String} {w w' : World} {cs : Array Value} (h : w.var? Tryz.prog n = some cs) (hb : Below w.heap.size w w') : w'.var? Tryz.prog n = some cs := by
 unfold World.var? at h ⊢
 cases hg : Tryz.prog.globalNamed n with
 | none => simp [hg] at h
 | some g =>
  simp only [hg, Option.bind_some] at h ⊢
  have hlt : g < w.heap.size := by
   rcases Nat.lt_or_ge g w.heap.size with h1 | h1
   ·exact h1
   ·rw [Array.getElem?_eq_none h1] at h
    cases h
  rw [hb.block g hlt]
  exact h
/-- What a call reads of the package-level variables. -/
def Glob (w : World) : Prop := Lib.TabIs Tryz.prog w "internal/strconv.uint64pow10" .u64 Lib.pow10Tab ∧ (∃ tp p, w.var? Tryz.prog "strconv.ErrSyntax" = some #[.iface tp p]) ∧ (∃ tp p, w.var? Tryz.prog "strconv.ErrRange" = some #[.iface tp p])
theorem Glob.below {w w' : World} (h : Glob w) (hb : Below w.heap.size w w') : Glob w' := by
 obtain ⟨h1, ⟨t2, p2, h2⟩, ⟨t3, p3, h3⟩⟩ := h
 exact ⟨var_old h1 hb, ⟨t2, p2, var_old h2 hb⟩, ⟨t3, p3, var_old h3 hb⟩⟩

def cut09 : List UInt8 := [48, 49, 50, 51, 52, 53, 54, 55, 56, 57]
def isDigL (l : List UInt8) : Bool := !l.isEmpty && (Lib.trimS l cut09).isEmpty && (l.head? != some 48 || l == [48])
def num_isDigits.f (a0 : ByteArray) : Option Bool := if a0.size ≤ 9223372036854775807 then some (isDigL a0.data.toList) else none
theorem head_at (s : ByteArray) (h : 0 < s.size) : s.toList.head? = some s[0] := by
 rw [Lib.toList_data, List.head?_eq_getElem?, Array.getElem?_toList]
 exact Array.getElem?_eq_getElem h
theorem num_isDigits.calls (a0 : ByteArray) (r : Bool) (w : World) (h : num_isDigits.f a0 = some r) :
  Calls Tryz.prog 57 #[.string a0] w fun e w' => e = .returned (.bool r) ∧ Below w.heap.size w w' := by
 unfold num_isDigits.f at h
 split at h
 ·rename_i hs
  obtain rfl := Option.some.inj h
  clear h
  have hcon := Any.strings_Trim_laid Tryz.lays160 (by kernel_rfl) a0 ⟨#[48, 49, 50, 51, 52, 53, 54, 55, 56, 57]⟩ w hs (by decide) (ascii_of_all (by decide))
  change Calls Tryz.prog 66 _ _ (fun e w' => e = .returned (.string ⟨(Lib.trimS a0.data.toList cut09).toArray⟩) ∧ Below w.heap.size w w') at hcon
  obtain ⟨t, ht⟩ : ∃ t : ByteArray, t = (⟨(Lib.trimS a0.data.toList cut09).toArray⟩ : ByteArray) := ⟨_, rfl⟩
  rw [← ht] at hcon
  have hN : isDigL a0.data.toList = (!a0.toList.isEmpty && (Lib.trimS a0.data.toList cut09).isEmpty && (a0.toList.head? != some 48 || a0.toList == [48])) := by rw [isDigL, Lib.toList_data]
  rw [hN]
  clear hN
  by_cases he : a0.toList = []
  ·go_enter Tryz.func57, Tryz.ntmps57
   go_wp2_with (go_at_call 66; refine hcon.mono ?_; rintro e w' ⟨rfl, hB⟩)
   go_ret
   exact ⟨by simp [he], Below.refl _ _⟩
  ·have hp : 0 < a0.size := by
    rcases Nat.eq_zero_or_pos a0.size with h | h
    ·exact absurd (by rw [Lib.toList_data]; exact List.eq_nil_of_length_eq_zero (by rw [Array.length_toList]; exact h)) he
    ·exact h
   have h0 := head_at a0 hp
   have hn : (!a0.toList.isEmpty) = true := by cases hl : a0.toList with | nil => exact absurd hl he | cons _ _ => rfl
   have H0 := Aside0.mk h0
   clear h0
   rcases hT : Lib.trimS a0.data.toList cut09 with _ | ⟨x, y⟩
   ·rw [hT] at ht
    subst ht
    go_enter Tryz.func57, Tryz.ntmps57
    go_wp2_with (go_at_call 66; refine hcon.mono ?_; rintro e w' ⟨rfl, hB⟩)
    all_goals go_ret
    all_goals refine ⟨?_, by assumption⟩
    all_goals rw [H0.out]
    all_goals rename_i h_
    ·have h48 : a0[0].toNat = 48 := by omega
     have : a0[0] = 48 := UInt8.toNat_inj.mp (by rw [h48]; rfl)
     simp [hn, this]
    ·have : a0[0] ≠ 48 := fun e => h_ (by rw [e]; rfl)
     simp [hn, this]
   ·have hl : t.toList = x :: y := by rw [ht, hT, Lib.toList_data]
    have ht' : t ≠ ⟨#[]⟩ := fun e => by rw [e] at hl; rw [Lib.toList_data] at hl; simp at hl
    have hne : ¬ t.toList = [] := by rw [hl]; simp
    have HL := Aside0.mk hl
    clear hl ht
    go_enter Tryz.func57, Tryz.ntmps57
    go_wp2_with (go_at_call 66; refine hcon.mono ?_; rintro e w' ⟨rfl, hB⟩)
    go_ret
    exact ⟨by simp, hB⟩
 ·cases h

def trimP (s : ByteArray) : ByteArray := if s.toList.head? = some 45 then s.extract 1 s.size else s
theorem trimP_some (s : ByteArray) : strings_TrimPrefix.f s ⟨#[45]⟩ = some (trimP s) := by
 unfold strings_TrimPrefix.f stringslite_TrimPrefix.f stringslite_HasPrefix.f trimP
 have e1 : (⟨#[45]⟩ : ByteArray).size = 1 := rfl
 have e2 : (⟨#[45]⟩ : ByteArray).toList = [45] := by rw [Lib.toList_data]
 rw [e1, e2]
 by_cases hp : 0 < s.size
 ·have e3 : (s.extract 0 1).toList = s.toList.take 1 := by rw [Lib.toList_data, Lib.toList_data]; simp
  have e4 : s.toList.take 1 = [s[0]] := by
   have := head_at s hp
   cases hl : s.toList with
   | nil => rw [hl] at this; cases this
   | cons a b => rw [hl] at this; simp at this; simp [this]
  have e5 : (s.extract 0 ((1 : Nat) : Int).toNat).toList = [s[0]] := by rw [show ((1 : Nat) : Int).toNat = 1 from rfl, e3, e4]
  rw [e5, head_at s hp]
  simp [show (s.size : Int) ≥ 1 by omega, show (1 : Int) ≤ s.size by omega]
  by_cases h45 : s[0] = 45 <;> simp [h45]
 ·have hz : s.size = 0 := by omega
  have hl : s.toList = [] := by rw [Lib.toList_data]; exact List.eq_nil_of_length_eq_zero (by rw [Array.length_toList]; exact hz)
  simp [hz, hl]

/-- What Parse answers: the number, and the error's number. -/
def parseN (s : ByteArray) : Int × Int := if isDigL (trimP s).data.toList = false ∨ s.toList = [45, 48] then (0, 1) else match Lib.atoiAll s.data.toList with | .ok v => (v, 0) | _ => (0, 2)
def num_Parse.f (a0 : ByteArray) : Option (Int × Int) := if a0.size ≤ 140737488351232 then some (parseN a0) else none
theorem trimP_size (s : ByteArray) : (trimP s).size ≤ s.size := by
 unfold trimP
 split
 ·simp [ByteArray.size_extract]
 ·exact Nat.le_refl _
set_option maxHeartbeats 400000 in
theorem num_Parse.calls (a0 : ByteArray) (r1 : Int) (r2 : Int) (w : World) (h : num_Parse.f a0 = some (r1, r2)) (hG : Glob w := by first | assumption | (refine Glob.below (by assumption) ?_; repeat (first | exact (Aside0.out (by assumption)) | (refine below_set ?_ (Aside0.out (by assumption))) | (with_reducible first | apply below_alloc | apply pw_below_drewN | apply below_drew1)))) :
  Calls Tryz.prog 49 #[.string a0] w fun e w' => e = .returned (.tuple #[.int .i64 r1, .int .i64 r2]) ∧ Below w.heap.size w w' := by
 unfold num_Parse.f at h
 split at h
 ·rename_i hs
  have h := Option.some.inj h
  unfold parseN at h
  have hD0 : num_isDigits.f (trimP a0) = some (isDigL (trimP a0).data.toList) := by unfold num_isDigits.f; rw [if_pos (by have := trimP_size a0; omega)]
  have HD0 := Aside0.mk hD0
  clear hD0
  have HS := Aside0.mk hs
  clear hs
  go_enter Tryz.func49, Tryz.ntmps49
  go_wp2_with fail
  refine (strings_TrimPrefix.calls a0 ⟨#[45]⟩ (trimP a0) w (trimP_some a0)).mono ?_
  rintro e w1 ⟨rfl, hd⟩
  have HB1 := Aside0.mk hd.below
  clear hd
  go_wp2_with fail
  refine (num_isDigits.calls (trimP a0) _ _ HD0.out).mono ?_
  rintro e w2 ⟨rfl, hb2⟩
  have HB2 := Aside0.mk (HB1.out.trans (hb2.mono HB1.out.size))
  clear hb2
  rcases hD : isDigL (trimP a0).data.toList with _ | _
  ·rw [if_pos (Or.inl hD)] at h
   obtain ⟨rfl, rfl⟩ := Prod.mk.inj h
   go_wp2
   go_ret2
   exact ⟨rfl, HB2.out⟩
  ·by_cases h0 : a0.toList = [45, 48]
   ·rw [if_pos (Or.inr h0)] at h
    obtain ⟨rfl, rfl⟩ := Prod.mk.inj h
    go_wp2
    go_ret2
    exact ⟨rfl, HB2.out⟩
   ·rw [if_neg (by rw [hD]; simp [h0])] at h
    have hG2 := hG.below HB2.out
    have h0b : (a0.toList == [45, 48]) = false := beq_eq_false_iff_ne.mpr h0
    clear hD HD0 h0
    rcases hA : Lib.atoiAll a0.data.toList with v | _ | _
    ·rw [hA] at h
     obtain ⟨rfl, rfl⟩ := Prod.mk.inj h
     have hc := Tryz.strconv_Atoi_ok a0 (by have := HS.out; omega) v hA w2
     clear hA h
     go_wp2_with fail
     refine hc.mono ?_
     rintro e w3 ⟨rfl, hw⟩
     have HB3 : Aside0 (Below w.heap.size w w3) := ⟨HB2.out.trans ((show Below w2.heap.size w2 w3 by rcases hw with rfl | ⟨t, rfl⟩ <;> first | exact Below.refl _ _ | exact Lib.bytesWorld_below _ _ _).mono HB2.out.size)⟩
     clear hw
     go_wp2
     go_ret2
     exact ⟨rfl, HB3.out⟩
    ·rw [hA] at h
     obtain ⟨rfl, rfl⟩ := Prod.mk.inj h
     obtain ⟨_, ⟨tp, p, hv⟩, _⟩ := hG2
     have hc : Calls Tryz.prog 58 #[.string a0] w2 fun e w' => ∃ N, e = .returned (.tuple #[.int .i64 0, .iface 89 (.pointer (some ⟨N, 0, none⟩))]) ∧ w2.heap.size ≤ N ∧ w'.heap[N]? = some (.cells #[.string ⟨#[65, 116, 111, 105]⟩, .string a0, .iface tp p] 99 (0, 0)) ∧ Below w2.heap.size w2 w' := Any.strconv_Atoi_syntax_var Tryz.laysC172 a0 (by have := HS.out; omega) hA tp p w2 hv
     clear hA h hv
     go_wp2_with fail
     refine hc.mono ?_
     rintro e w3 ⟨N, rfl, h1, h2, h3⟩
     have HB3 : Aside0 (Below w.heap.size w w3) := ⟨HB2.out.trans (h3.mono HB2.out.size)⟩
     clear h1 h2 h3
     go_wp2
     go_ret2
     exact ⟨rfl, HB3.out⟩
    ·rw [hA] at h
     obtain ⟨rfl, rfl⟩ := Prod.mk.inj h
     obtain ⟨_, _, ⟨tp, p, hv⟩⟩ := hG2
     have hc := Tryz.strconv_Atoi_range_var a0 (by have := HS.out; omega) hA tp p w2 hv
     clear hA h hv
     go_wp2_with fail
     refine hc.mono ?_
     rintro e w3 ⟨N, rfl, h1, h2, h3⟩
     have HB3 : Aside0 (Below w.heap.size w w3) := ⟨HB2.out.trans (h3.mono HB2.out.size)⟩
     clear h1 h2 h3
     go_wp2
     go_ret2
     exact ⟨rfl, HB3.out⟩
 ·cases h
end Go.Proofs.YtcmppjonpmgncaaGreatDoor.Q

namespace Go.Proofs.YtcmppjonpmgncaaGreatDoor.Q
open Go.RowKit Go.Proofs.YtcmppjonpmgncaaGreatDoorW.PrintWords Go.Proofs.YtcmppjonpmgncaaGreatDoorW.PrintLast Go.Proofs.YtcmppjonpmgncaaGreatDoorW.PrintMore
attribute [local go_sem] max2_int min2_int max_two min_two max_three min_three max_four min_four   -- for this text's walks alone
set_option linter.unusedVariables false
set_option linter.unusedSimpArgs false

/-! ### lex_IsWord: function 10 -/
def lex_IsWord.f (k : Nat) (a0 : ByteArray) : Option (Bool) := (lex_isName.f a0).bind fun t194 => (if t194 = true then (if (a0.size : Int) ≤ 12 then ((lex_IsKey.f k a0).bind fun t195 => (some (!t195))) else (some false)) else (some false))
theorem lex_IsWord.mono : ∀ a0 k, LeO (lex_IsWord.f k a0) (lex_IsWord.f (k + 1) a0) := by
 intro a0 k
 unfold lex_IsWord.f
 repeat' first
   | (with_reducible exact lex_IsKey.mono _ _)
   | (with_reducible exact LeO.refl _)
   | (with_reducible exact LeO.none _)
   | (with_reducible refine LeO.ite ?_ ?_)
   | (with_reducible refine LeO.bind ?_ (fun _ => ?_))
   | exact lex_IsKey.mono _ _
   | exact LeO.none _
   | refine LeO.ite ?_ ?_
   | refine LeO.bind ?_ (fun _ => ?_)
set_option maxHeartbeats 8000000 in
set_option maxRecDepth 100000 in
theorem lex_IsWord.calls (k : Nat) (a0 : ByteArray) (r : Bool) (w : World) (h : lex_IsWord.f k a0 = some r) :
  Calls Tryz.prog 10 #[.string a0] w fun e w' => e = .returned (.bool r) ∧ Below w.heap.size w w' := by
 have HB := Aside0.mk (Below.refl w.heap.size w)
 have H : ((lex_isName.f a0).bind fun t194 => (if t194 = true then (if (a0.size : Int) ≤ 12 then ((lex_IsKey.f k a0).bind fun t195 => (some (!t195))) else (some false)) else (some false))) = some r := h
 clear h
 replace H := Option.bind_eq_some_iff.mp H
 obtain ⟨t194, A20, H⟩ := H
 replace H : (if t194 = true then (if (a0.size : Int) ≤ 12 then ((lex_IsKey.f k a0).bind fun t195 => (some (!t195))) else (some false)) else (some false)) = some r := H
 have A2 := Aside0.mk A20
 clear A20
 by_cases c3 : t194 = true
 ·subst c3
  have H1 : (if (a0.size : Int) ≤ 12 then ((lex_IsKey.f k a0).bind fun t195 => (some (!t195))) else (some false)) = some r := by rw [if_pos rfl] at H; exact H
  clear H
  have H := H1
  clear H1
  by_cases c4 : (a0.size : Int) ≤ 12
  ·rw [if_pos c4] at H
   have c4b0 : decide ((a0.size : Int) ≤ 12) = true := decide_eq_true c4
   have c4b1 : decide (a0.size ≤ 12) = true := decide_eq_true (by omega)
   clear c4
   replace H := Option.bind_eq_some_iff.mp H
   obtain ⟨t195, A50, H⟩ := H
   replace H : (some (!t195)) = some r := H
   have A5 := Aside0.mk A50
   clear A50
   obtain rfl := Option.some.inj H
   go_enter Tryz.func10, Tryz.ntmps10
   go_wp2_with (first | ((with_reducible refine gate_callee (f := 23) rfl ?_); refine goesL_ (some 4) rfl rfl Tryz.func23 (by kernel_rfl) rfl #[.string a0] rfl (by (try simp only [List.map_toArray, List.map_cons, List.map_nil]); first | done | rfl | (simp only [List.length_drop, List.length_take]; rfl)) ?_; (with_reducible refine (lex_isName.calls a0 true _ A2.out).mono ?_); rintro e w' ⟨rfl, ⟨nd, rfl⟩⟩; refine ⟨_, rfl, ?_⟩) | (go_at_call 12; (with_reducible refine (lex_IsKey.calls k a0 t195 _ A5.out).mono ?_); rintro e w6 ⟨rfl, hb⟩; have n0_ := Aside0.mk (below_step (by repeat (first | (with_reducible first | exact HB.out | apply below_alloc | apply pw_below_drewN | apply below_drew1) | exact HB.out)) hb); clear HB; have HB := n0_; clear n0_; (try clear hb); (try clear hb2); (try clear hk); (try clear hi)))
   go_ret
   exact ⟨by first | rfl | (simp [errW_none, errW_some] <;> rfl) | (simp [*, errW_none, errW_some] <;> rfl), by repeat (first | (with_reducible first | exact HB.out | apply below_alloc | apply pw_below_drewN | apply below_drew1) | exact HB.out)⟩
  ·rw [if_neg c4] at H
   have c4b0 : decide ((a0.size : Int) ≤ 12) = false := decide_eq_false c4
   have c4b1 : decide (a0.size ≤ 12) = false := decide_eq_false (by omega)
   clear c4
   obtain rfl := Option.some.inj H
   go_enter Tryz.func10, Tryz.ntmps10
   go_wp2_with (first | ((with_reducible refine gate_callee (f := 23) rfl ?_); refine goesL_ (some 4) rfl rfl Tryz.func23 (by kernel_rfl) rfl #[.string a0] rfl (by (try simp only [List.map_toArray, List.map_cons, List.map_nil]); first | done | rfl | (simp only [List.length_drop, List.length_take]; rfl)) ?_; (with_reducible refine (lex_isName.calls a0 true _ A2.out).mono ?_); rintro e w' ⟨rfl, ⟨nd, rfl⟩⟩; refine ⟨_, rfl, ?_⟩))
   go_ret
   exact ⟨by first | rfl | (simp [errW_none, errW_some] <;> rfl) | (simp [*, errW_none, errW_some] <;> rfl), by repeat (first | (with_reducible first | exact HB.out | apply below_alloc | apply pw_below_drewN | apply below_drew1) | exact HB.out)⟩
 ·replace c3 := Bool.eq_false_iff.mpr c3
  subst c3
  have H1 : (some false) = some r := by rw [if_neg (show ¬ (false = true) by decide)] at H; exact H
  clear H
  have H := H1
  clear H1
  obtain rfl := Option.some.inj H
  go_enter Tryz.func10, Tryz.ntmps10
  go_wp2_with (first | ((with_reducible refine gate_callee (f := 23) rfl ?_); refine goesL_ (some 4) rfl rfl Tryz.func23 (by kernel_rfl) rfl #[.string a0] rfl (by (try simp only [List.map_toArray, List.map_cons, List.map_nil]); first | done | rfl | (simp only [List.length_drop, List.length_take]; rfl)) ?_; (with_reducible refine (lex_isName.calls a0 false _ A2.out).mono ?_); rintro e w' ⟨rfl, ⟨nd, rfl⟩⟩; refine ⟨_, rfl, ?_⟩))
  go_ret
  exact ⟨by first | rfl | (simp [errW_none, errW_some] <;> rfl) | (simp [*, errW_none, errW_some] <;> rfl), by repeat (first | (with_reducible first | exact HB.out | apply below_alloc | apply pw_below_drewN | apply below_drew1) | exact HB.out)⟩

end Go.Proofs.YtcmppjonpmgncaaGreatDoor.Q

namespace Go.Proofs.YtcmppjonpmgncaaGreatDoor.Q
open Go.RowKit Go.Proofs.YtcmppjonpmgncaaGreatDoorW.PrintWords Go.Proofs.YtcmppjonpmgncaaGreatDoorW.PrintLast Go.Proofs.YtcmppjonpmgncaaGreatDoorW.PrintMore
attribute [local go_sem] max2_int min2_int max_two min_two max_three min_three max_four min_four   -- for this text's walks alone
set_option linter.unusedVariables false
set_option linter.unusedSimpArgs false

/-! ### truantref02_letter: function 19 -/
def truantref02_letter.f (a0 : Int) : Option (Bool) := if a0 ≥ 97 then (if a0 ≤ 122 then (some true) else (if a0 ≥ 65 then (if a0 ≤ 90 then (some true) else (some (a0 == 95))) else (some (a0 == 95)))) else (if a0 ≥ 65 then (if a0 ≤ 90 then (some true) else (some (a0 == 95))) else (some (a0 == 95)))
set_option maxHeartbeats 8000000 in
set_option maxRecDepth 100000 in
theorem truantref02_letter.calls (a0 : Int) (r : Bool) (w : World) (h : truantref02_letter.f a0 = some r) :
  Calls Tryz.prog 19 #[.int .u8 a0] w fun e w' => e = .returned (.bool r) ∧ Drawn0 w w' := by
 have H : (if a0 ≥ 97 then (if a0 ≤ 122 then (some true) else (if a0 ≥ 65 then (if a0 ≤ 90 then (some true) else (some (a0 == 95))) else (some (a0 == 95)))) else (if a0 ≥ 65 then (if a0 ≤ 90 then (some true) else (some (a0 == 95))) else (some (a0 == 95)))) = some r := h
 clear h
 by_cases c2 : a0 ≥ 97
 ·rw [if_pos c2] at H
  have c2b0 : decide (97 ≤ a0) = true := decide_eq_true c2
  clear c2
  by_cases c3 : a0 ≤ 122
  ·rw [if_pos c3] at H
   have c3b0 : decide (a0 ≤ 122) = true := decide_eq_true c3
   clear c3
   obtain rfl := Option.some.inj H
   go_enter Tryz.func19, Tryz.ntmps19
   go_wp2
   go_ret
   exact ⟨by first | rfl | (simp; done) | (simp [*]; done), by repeat (first | exact Drawn0.refl _ | apply Drawn0.step)⟩
  ·rw [if_neg c3] at H
   have c3b0 : decide (a0 ≤ 122) = false := decide_eq_false c3
   clear c3
   by_cases c4 : a0 ≥ 65
   ·rw [if_pos c4] at H
    have c4b0 : decide (65 ≤ a0) = true := decide_eq_true c4
    clear c4
    by_cases c5 : a0 ≤ 90
    ·rw [if_pos c5] at H
     have c5b0 : decide (a0 ≤ 90) = true := decide_eq_true c5
     clear c5
     obtain rfl := Option.some.inj H
     go_enter Tryz.func19, Tryz.ntmps19
     go_wp2
     go_ret
     exact ⟨by first | rfl | (simp; done) | (simp [*]; done), by repeat (first | exact Drawn0.refl _ | apply Drawn0.step)⟩
    ·rw [if_neg c5] at H
     have c5b0 : decide (a0 ≤ 90) = false := decide_eq_false c5
     clear c5
     obtain rfl := Option.some.inj H
     go_enter Tryz.func19, Tryz.ntmps19
     go_wp2
     go_ret
     exact ⟨by first | rfl | (simp; done) | (simp [*]; done), by repeat (first | exact Drawn0.refl _ | apply Drawn0.step)⟩
   ·rw [if_neg c4] at H
    have c4b0 : decide (65 ≤ a0) = false := decide_eq_false c4
    clear c4
    obtain rfl := Option.some.inj H
    go_enter Tryz.func19, Tryz.ntmps19
    go_wp2
    go_ret
    exact ⟨by first | rfl | (simp; done) | (simp [*]; done), by repeat (first | exact Drawn0.refl _ | apply Drawn0.step)⟩
 ·rw [if_neg c2] at H
  have c2b0 : decide (97 ≤ a0) = false := decide_eq_false c2
  clear c2
  by_cases c6 : a0 ≥ 65
  ·rw [if_pos c6] at H
   have c6b0 : decide (65 ≤ a0) = true := decide_eq_true c6
   clear c6
   by_cases c7 : a0 ≤ 90
   ·rw [if_pos c7] at H
    have c7b0 : decide (a0 ≤ 90) = true := decide_eq_true c7
    clear c7
    obtain rfl := Option.some.inj H
    go_enter Tryz.func19, Tryz.ntmps19
    go_wp2
    go_ret
    exact ⟨by first | rfl | (simp; done) | (simp [*]; done), by repeat (first | exact Drawn0.refl _ | apply Drawn0.step)⟩
   ·rw [if_neg c7] at H
    have c7b0 : decide (a0 ≤ 90) = false := decide_eq_false c7
    clear c7
    obtain rfl := Option.some.inj H
    go_enter Tryz.func19, Tryz.ntmps19
    go_wp2
    go_ret
    exact ⟨by first | rfl | (simp; done) | (simp [*]; done), by repeat (first | exact Drawn0.refl _ | apply Drawn0.step)⟩
  ·rw [if_neg c6] at H
   have c6b0 : decide (65 ≤ a0) = false := decide_eq_false c6
   clear c6
   obtain rfl := Option.some.inj H
   go_enter Tryz.func19, Tryz.ntmps19
   go_wp2
   go_ret
   exact ⟨by first | rfl | (simp; done) | (simp [*]; done), by repeat (first | exact Drawn0.refl _ | apply Drawn0.step)⟩

end Go.Proofs.YtcmppjonpmgncaaGreatDoor.Q

namespace Go.Proofs.YtcmppjonpmgncaaGreatDoor.Q
open Go.RowKit Go.Proofs.YtcmppjonpmgncaaGreatDoorW.PrintWords Go.Proofs.YtcmppjonpmgncaaGreatDoorW.PrintLast Go.Proofs.YtcmppjonpmgncaaGreatDoorW.PrintMore
attribute [local go_sem] max2_int min2_int max_two min_two max_three min_three max_four min_four   -- for this text's walks alone
set_option linter.unusedVariables false
set_option linter.unusedSimpArgs false

/-! ### truantref02_digit: function 20 -/
def truantref02_digit.f (a0 : Int) : Option (Bool) := if a0 ≥ 48 then (some (decide (a0 ≤ 57))) else (some false)
set_option maxHeartbeats 8000000 in
set_option maxRecDepth 100000 in
theorem truantref02_digit.calls (a0 : Int) (r : Bool) (w : World) (h : truantref02_digit.f a0 = some r) :
  Calls Tryz.prog 20 #[.int .u8 a0] w fun e w' => e = .returned (.bool r) ∧ Drawn0 w w' := by
 have H : (if a0 ≥ 48 then (some (decide (a0 ≤ 57))) else (some false)) = some r := h
 clear h
 by_cases c2 : a0 ≥ 48
 ·rw [if_pos c2] at H
  have c2b0 : decide (48 ≤ a0) = true := decide_eq_true c2
  clear c2
  obtain rfl := Option.some.inj H
  go_enter Tryz.func20, Tryz.ntmps20
  go_wp2
  go_ret
  exact ⟨by first | rfl | (simp; done) | (simp [*]; done), by repeat (first | exact Drawn0.refl _ | apply Drawn0.step)⟩
 ·rw [if_neg c2] at H
  have c2b0 : decide (48 ≤ a0) = false := decide_eq_false c2
  clear c2
  obtain rfl := Option.some.inj H
  go_enter Tryz.func20, Tryz.ntmps20
  go_wp2
  go_ret
  exact ⟨by first | rfl | (simp; done) | (simp [*]; done), by repeat (first | exact Drawn0.refl _ | apply Drawn0.step)⟩

end Go.Proofs.YtcmppjonpmgncaaGreatDoor.Q

namespace Go.Proofs.YtcmppjonpmgncaaGreatDoor.Q
open Go.RowKit Go.Proofs.YtcmppjonpmgncaaGreatDoorW.PrintWords Go.Proofs.YtcmppjonpmgncaaGreatDoorW.PrintLast Go.Proofs.YtcmppjonpmgncaaGreatDoorW.PrintMore
attribute [local go_sem] max2_int min2_int max_two min_two max_three min_three max_four min_four   -- for this text's walks alone
set_option linter.unusedVariables false
set_option linter.unusedSimpArgs false

/-! ### truantref02_Word: function 11 -/
mutual
def truantref02_Word.j0 : Nat → ByteArray → Bool → Option (Bool)
 | 0, _, _ => none
 | k + 1, x0, x21 => if x21 = true then (some false) else (truantref02_Word.l0 k x0 0)
def truantref02_Word.l0 : Nat → ByteArray → Int → Option (Bool)
 | 0, _, _ => none
 | k + 1, x0, x3 => if x3 < (x0.size : Int) then (if 0 ≤ x3 then ((truantref02_letter.f (bt x0 x3)).bind fun t263 => (if t263 = true then (truantref02_Word.l0 k x0 (wrap64 (x3 + 1))) else ((truantref02_digit.f (bt x0 x3)).bind fun t264 => (if t264 = true then (truantref02_Word.l0 k x0 (wrap64 (x3 + 1))) else (some false))))) else (none)) else (some true)
end
def truantref02_Word.f (k : Nat) (a0 : ByteArray) : Option (Bool) := if (a0.size : Int) = 0 then (truantref02_Word.j0 k a0 true) else (if (a0.size : Int) > 12 then (truantref02_Word.j0 k a0 true) else (if 0 < (a0.size : Int) then ((truantref02_letter.f (bt a0 0)).bind fun t261 => (if t261 = true then ((truantref02_Key.f a0).bind fun t262 => (truantref02_Word.j0 k a0 t262)) else (truantref02_Word.j0 k a0 true))) else (none)))
theorem truantref02_Word.mono_l : ∀ k, (∀ y0 y1, LeO (truantref02_Word.j0 k y0 y1) (truantref02_Word.j0 (k + 1) y0 y1)) ∧ (∀ y0 y1, LeO (truantref02_Word.l0 k y0 y1) (truantref02_Word.l0 (k + 1) y0 y1))
 | 0 => ⟨fun _ _ r h => by simp [truantref02_Word.j0] at h, fun _ _ r h => by simp [truantref02_Word.l0] at h⟩
 | k + 1 => by
  obtain ⟨ih0, ih1⟩ := truantref02_Word.mono_l k
  refine ⟨?_, ?_⟩
  ·intro y0 y1
   unfold truantref02_Word.j0
   repeat' first
   | (with_reducible exact ih0 _ _)
   | (with_reducible exact ih1 _ _)
   | (with_reducible exact LeO.refl _)
   | (with_reducible exact LeO.none _)
   | (with_reducible refine LeO.ite ?_ ?_)
   | (with_reducible refine LeO.bind ?_ (fun _ => ?_))
   | exact ih0 _ _
   | exact ih1 _ _
   | exact LeO.none _
   | refine LeO.ite ?_ ?_
   | refine LeO.bind ?_ (fun _ => ?_)
  ·intro y0 y1
   unfold truantref02_Word.l0
   repeat' first
   | (with_reducible exact ih0 _ _)
   | (with_reducible exact ih1 _ _)
   | (with_reducible exact LeO.refl _)
   | (with_reducible exact LeO.none _)
   | (with_reducible refine LeO.ite ?_ ?_)
   | (with_reducible refine LeO.bind ?_ (fun _ => ?_))
   | exact ih0 _ _
   | exact ih1 _ _
   | exact LeO.none _
   | refine LeO.ite ?_ ?_
   | refine LeO.bind ?_ (fun _ => ?_)
theorem truantref02_Word.mono : ∀ a0 k, LeO (truantref02_Word.f k a0) (truantref02_Word.f (k + 1) a0) := by
 intro a0 k
 obtain ⟨ih0, ih1⟩ := truantref02_Word.mono_l k
 unfold truantref02_Word.f
 repeat' first
   | (with_reducible exact ih0 _ _)
   | (with_reducible exact ih1 _ _)
   | (with_reducible exact LeO.refl _)
   | (with_reducible exact LeO.none _)
   | (with_reducible refine LeO.ite ?_ ?_)
   | (with_reducible refine LeO.bind ?_ (fun _ => ?_))
   | exact ih0 _ _
   | exact ih1 _ _
   | exact LeO.none _
   | refine LeO.ite ?_ ?_
   | refine LeO.bind ?_ (fun _ => ?_)
set_option maxHeartbeats 8000000 in
set_option maxRecDepth 100000 in
theorem truantref02_Word.calls (k : Nat) (a0 : ByteArray) (r : Bool) (w : World) (h : truantref02_Word.f k a0 = some r) :
  Calls Tryz.prog 11 #[.string a0] w fun e w' => e = .returned (.bool r) ∧ Below w.heap.size w w' := by
 have HB := Aside0.mk (Below.refl w.heap.size w)
 have H : (if (a0.size : Int) = 0 then (truantref02_Word.j0 k a0 true) else (if (a0.size : Int) > 12 then (truantref02_Word.j0 k a0 true) else (if 0 < (a0.size : Int) then ((truantref02_letter.f (bt a0 0)).bind fun t261 => (if t261 = true then ((truantref02_Key.f a0).bind fun t262 => (truantref02_Word.j0 k a0 t262)) else (truantref02_Word.j0 k a0 true))) else (none)))) = some r := h
 clear h
 have HC2 := Aside0.mk H
 clear H
 go_enter Tryz.func11, Tryz.ntmps11
 go_upto_region 1 with (fail)
 go_cut [21] (fun v21 wc => ∃ (kq : Nat) (x21_1 : Bool), v21 = .bool x21_1 ∧ Aside0 (truantref02_Word.j0 kq a0 x21_1 = some r) ∧ Aside0 (kq ≤ k) ∧ Aside0 (Below w.heap.size w wc))
 case first =>
  have H := HC2.out
  clear HC2
  by_cases c3 : (a0.size : Int) = 0
  ·rw [if_pos c3] at H
   have c3b0 : ((a0.size : Int) == 0) = true := beq_iff_eq.mpr c3
   have c3b1 : ((a0.size : Int) != 0) = false := bne_eq_false_iff_eq.mpr c3
   clear c3
   (first | rw [c3b0] | (simp only [i64_w, i32_w]; rw [c3b0]) | skip)
   have H' := Aside0.mk H
   clear H
   go_wp2
   go_meet
   case rel => exact ⟨_, (true), (by first | rfl | (simp; done) | (simp [*]; done)), H', ⟨by first | omega | exact Nat.le_refl _⟩, ⟨by repeat (first | (with_reducible first | exact HB.out | apply below_alloc | apply pw_below_drewN | apply below_drew1) | exact HB.out)⟩⟩
  ·rw [if_neg c3] at H
   have c3b0 : ((a0.size : Int) == 0) = false := beq_eq_false_iff_ne.mpr c3
   have c3b1 : ((a0.size : Int) != 0) = true := bne_iff_ne.mpr c3
   (first | rw [c3b0] | (simp only [i64_w, i32_w]; rw [c3b0]) | skip)
   by_cases c4 : (a0.size : Int) > 12
   ·rw [if_pos c4] at H
    have c4b0 : decide (12 < (a0.size : Int)) = true := decide_eq_true c4
    have c4b1 : decide (12 < a0.size) = true := decide_eq_true (by omega)
    clear c4
    have H' := Aside0.mk H
    clear H
    go_wp2
    go_meet
    case rel => exact ⟨_, (true), (by first | rfl | (simp; done) | (simp [*]; done)), H', ⟨by first | omega | exact Nat.le_refl _⟩, ⟨by repeat (first | (with_reducible first | exact HB.out | apply below_alloc | apply pw_below_drewN | apply below_drew1) | exact HB.out)⟩⟩
   ·rw [if_neg c4] at H
    have c4b0 : decide (12 < (a0.size : Int)) = false := decide_eq_false c4
    have c4b1 : decide (12 < a0.size) = false := decide_eq_false (by omega)
    clear c4
    by_cases c5 : 0 < (a0.size : Int)
    ·rw [if_pos c5] at H
     have c5b0 : decide (0 < (a0.size : Int)) = true := decide_eq_true c5
     have c5b1 : decide (0 < a0.size) = true := decide_eq_true (by omega)
     clear c5
     replace H := Option.bind_eq_some_iff.mp H
     obtain ⟨t261, A70, H⟩ := H
     replace H : (if t261 = true then ((truantref02_Key.f a0).bind fun t262 => (truantref02_Word.j0 k a0 t262)) else (truantref02_Word.j0 k a0 true)) = some r := H
     have A7 := Aside0.mk A70
     clear A70
     by_cases c8 : t261 = true
     ·subst c8
      have H1 : ((truantref02_Key.f a0).bind fun t262 => (truantref02_Word.j0 k a0 t262)) = some r := by rw [if_pos rfl] at H; exact H
      clear H
      have H := H1
      clear H1
      replace H := Option.bind_eq_some_iff.mp H
      obtain ⟨t262, A90, H⟩ := H
      replace H : (truantref02_Word.j0 k a0 t262) = some r := H
      have A9 := Aside0.mk A90
      clear A90
      have H' := Aside0.mk H
      clear H
      have p6 : 0 ≤ (0 : Int) := (by omega)
      have q6 : 0 < a0.size := (by have : (0 : Int) < (a0.size : Int) := of_decide_eq_true (by first | (with_reducible assumption) | assumption); omega)
      have hx6 : ∀ h : 0 < a0.size, ((a0[0]'h).toNat : Int) = bt a0 0 := bt_at a0 0
      clear p6
      have qi6 : (0 < (a0.size : Int)) = True := eq_true (of_decide_eq_true (by first | (with_reducible assumption) | assumption))
      replace q6 := eq_true q6
      go_wp2_with (first | (go_at_call 19; (with_reducible refine (truantref02_letter.calls (bt a0 0) true _ A7.out).mono ?_); rintro e w' ⟨rfl, ⟨nd, rfl⟩⟩) | (go_at_call 13; (with_reducible refine (truantref02_Key.calls a0 t262 _ A9.out).mono ?_); rintro e w10 ⟨rfl, hb⟩; have n0_ := Aside0.mk (below_step (by repeat (first | (with_reducible first | exact HB.out | apply below_alloc | apply pw_below_drewN | apply below_drew1) | exact HB.out)) hb); clear HB; have HB := n0_; clear n0_; (try clear hb); (try clear hb2); (try clear hk); (try clear hi)))
      go_meet
      case rel => exact ⟨_, (t262), (by first | rfl | (simp; done) | (simp [*]; done)), H', ⟨by first | omega | exact Nat.le_refl _⟩, ⟨by repeat (first | (with_reducible first | exact HB.out | apply below_alloc | apply pw_below_drewN | apply below_drew1) | exact HB.out)⟩⟩
     ·replace c8 := Bool.eq_false_iff.mpr c8
      subst c8
      have H1 : (truantref02_Word.j0 k a0 true) = some r := by rw [if_neg (show ¬ (false = true) by decide)] at H; exact H
      clear H
      have H := H1
      clear H1
      have H' := Aside0.mk H
      clear H
      have p6 : 0 ≤ (0 : Int) := (by omega)
      have q6 : 0 < a0.size := (by have : (0 : Int) < (a0.size : Int) := of_decide_eq_true (by first | (with_reducible assumption) | assumption); omega)
      have hx6 : ∀ h : 0 < a0.size, ((a0[0]'h).toNat : Int) = bt a0 0 := bt_at a0 0
      clear p6
      have qi6 : (0 < (a0.size : Int)) = True := eq_true (of_decide_eq_true (by first | (with_reducible assumption) | assumption))
      replace q6 := eq_true q6
      go_wp2_with (first | (go_at_call 19; (with_reducible refine (truantref02_letter.calls (bt a0 0) false _ A7.out).mono ?_); rintro e w' ⟨rfl, ⟨nd, rfl⟩⟩))
      go_meet
      case rel => exact ⟨_, (true), (by first | rfl | (simp; done) | (simp [*]; done)), H', ⟨by first | omega | exact Nat.le_refl _⟩, ⟨by repeat (first | (with_reducible first | exact HB.out | apply below_alloc | apply pw_below_drewN | apply below_drew1) | exact HB.out)⟩⟩
    ·rw [if_neg c5] at H
     exact absurd H (by simp)
 case rest =>
  clear HC2
  try clear c1
  try clear p2
  try clear c3
  try clear c3b0
  try clear c3b1
  try clear c4
  try clear c4b0
  try clear c4b1
  try clear c5
  try clear c5b0
  try clear c5b1
  try clear p6
  try clear q6
  try clear hx6
  try clear qi6
  try clear c8
  try clear p6
  try clear q6
  obtain ⟨kq, x21_1, rfl, HA, HJ1, HB⟩ := hcut
  cases kq with
  | zero => exact absurd HA.out (by simp [truantref02_Word.j0])
  | succ kj1 =>
   have H := HA.out
   clear HA
   simp only [truantref02_Word.j0] at H
   by_cases c11 : x21_1 = true
   ·subst c11
    have H1 : (some false) = some r := by rw [if_pos rfl] at H; exact H
    clear H
    have H := H1
    clear H1
    obtain rfl := Option.some.inj H
    go_wp2
    go_ret
    exact ⟨by first | rfl | (simp [errW_none, errW_some] <;> rfl) | (simp [*, errW_none, errW_some] <;> rfl), by repeat (first | (with_reducible first | exact HB.out | apply below_alloc | apply pw_below_drewN | apply below_drew1) | exact HB.out)⟩
   ·replace c11 := Bool.eq_false_iff.mpr c11
    subst c11
    have H1 : (truantref02_Word.l0 kj1 a0 0) = some r := by rw [if_neg (show ¬ (false = true) by decide)] at H; exact H
    clear H
    have H := H1
    clear H1
    have H' := Aside0.mk H
    clear H
    go_wp2
    go_loopg [3] kj1 (fun kq v3 w' => ∃ (x3_2 : Int), v3 = .int .i64 x3_2 ∧ Aside0 (truantref02_Word.l0 kq a0 x3_2 = some r) ∧ Aside0 (kq ≤ kj1) ∧ Aside0 (Below w.heap.size w w'))
    case atStart => exact ⟨(0), (by first | rfl | (simp; done) | (simp [*]; done)), H', ⟨Nat.le_refl _⟩, ⟨by repeat (first | (with_reducible first | exact HB.out | apply below_alloc | apply pw_below_drewN | apply below_drew1) | exact HB.out)⟩⟩
    case round =>
     clear H'
     try clear c1
     try clear p2
     try clear c3
     try clear c3b0
     try clear c3b1
     try clear c4
     try clear c4b0
     try clear c4b1
     try clear c5
     try clear c5b0
     try clear c5b1
     try clear p6
     try clear q6
     try clear hx6
     try clear qi6
     try clear c8
     try clear c11
     try clear p2
     try clear p6
     try clear q6
     obtain ⟨x3_2, rfl, HA, HK2, HB⟩ := hrel
     cases gk with
     | zero => exact absurd HA.out (by simp [truantref02_Word.l0])
     | succ k2 =>
      have H := HA.out
      clear HA
      simp only [truantref02_Word.l0] at H
      by_cases c12 : x3_2 < (a0.size : Int)
      ·rw [if_pos c12] at H
       have c12b0 : decide (x3_2 < (a0.size : Int)) = true := decide_eq_true c12
       clear c12
       by_cases c13 : 0 ≤ x3_2
       ·rw [if_pos c13] at H
        have c13b0 : decide (0 ≤ x3_2) = true := decide_eq_true c13
        clear c13
        replace H := Option.bind_eq_some_iff.mp H
        obtain ⟨t263, A150, H⟩ := H
        replace H : (if t263 = true then (truantref02_Word.l0 k2 a0 (wrap64 (x3_2 + 1))) else ((truantref02_digit.f (bt a0 x3_2)).bind fun t264 => (if t264 = true then (truantref02_Word.l0 k2 a0 (wrap64 (x3_2 + 1))) else (some false)))) = some r := H
        have A15 := Aside0.mk A150
        clear A150
        by_cases c16 : t263 = true
        ·subst c16
         have H1 : (truantref02_Word.l0 k2 a0 (wrap64 (x3_2 + 1))) = some r := by rw [if_pos rfl] at H; exact H
         clear H
         have H := H1
         clear H1
         have H' := Aside0.mk H
         clear H
         have p14 : 0 ≤ (x3_2 : Int) := of_decide_eq_true (by first | (with_reducible assumption) | assumption)
         have q14 : x3_2 < (a0.size : Int) := of_decide_eq_true (by first | (with_reducible assumption) | assumption)
         have hx14 := bt_at a0 x3_2
         replace p14 := eq_true p14
         replace q14 := eq_true q14
         go_wp2_with (first | ((with_reducible refine gate_callee (f := 19) rfl ?_); refine goesL_ (some 31) rfl rfl Tryz.func19 (by kernel_rfl) rfl #[.int .u8 (bt a0 x3_2)] rfl (by (try simp only [List.map_toArray, List.map_cons, List.map_nil]); first | done | rfl | (simp only [List.length_drop, List.length_take]; rfl)) ?_; (with_reducible refine (truantref02_letter.calls (bt a0 x3_2) true _ A15.out).mono ?_); rintro e w' ⟨rfl, ⟨nd, rfl⟩⟩; refine ⟨_, rfl, ?_⟩))
         go_roundg k2
         case measure => have := HJ1.out; have := HK2.out; omega
         case rel => exact ⟨(wrap64 (x3_2 + 1)), (by first | rfl | (simp; done) | (simp [*]; done)), H', ⟨by have := HJ1.out; have := HK2.out; omega⟩, ⟨by repeat (first | (with_reducible first | exact HB.out | apply below_alloc | apply pw_below_drewN | apply below_drew1) | exact HB.out)⟩⟩
        ·replace c16 := Bool.eq_false_iff.mpr c16
         subst c16
         have H1 : ((truantref02_digit.f (bt a0 x3_2)).bind fun t264 => (if t264 = true then (truantref02_Word.l0 k2 a0 (wrap64 (x3_2 + 1))) else (some false))) = some r := by rw [if_neg (show ¬ (false = true) by decide)] at H; exact H
         clear H
         have H := H1
         clear H1
         replace H := Option.bind_eq_some_iff.mp H
         obtain ⟨t264, A180, H⟩ := H
         replace H : (if t264 = true then (truantref02_Word.l0 k2 a0 (wrap64 (x3_2 + 1))) else (some false)) = some r := H
         have A18 := Aside0.mk A180
         clear A180
         by_cases c19 : t264 = true
         ·subst c19
          have H1 : (truantref02_Word.l0 k2 a0 (wrap64 (x3_2 + 1))) = some r := by rw [if_pos rfl] at H; exact H
          clear H
          have H := H1
          clear H1
          have H' := Aside0.mk H
          clear H
          have p14 : 0 ≤ (x3_2 : Int) := of_decide_eq_true (by first | (with_reducible assumption) | assumption)
          have q14 : x3_2 < (a0.size : Int) := of_decide_eq_true (by first | (with_reducible assumption) | assumption)
          have hx14 := bt_at a0 x3_2
          replace p14 := eq_true p14
          replace q14 := eq_true q14
          go_wp2_with (first | ((with_reducible refine gate_callee (f := 19) rfl ?_); refine goesL_ (some 31) rfl rfl Tryz.func19 (by kernel_rfl) rfl #[.int .u8 (bt a0 x3_2)] rfl (by (try simp only [List.map_toArray, List.map_cons, List.map_nil]); first | done | rfl | (simp only [List.length_drop, List.length_take]; rfl)) ?_; (with_reducible refine (truantref02_letter.calls (bt a0 x3_2) false _ A15.out).mono ?_); rintro e w' ⟨rfl, ⟨nd, rfl⟩⟩; refine ⟨_, rfl, ?_⟩; have p17 : 0 ≤ (x3_2 : Int) := of_decide_eq_true (by first | (with_reducible assumption) | assumption); have q17 : x3_2 < (a0.size : Int) := of_decide_eq_true (by first | (with_reducible assumption) | assumption); have hx17 := bt_at a0 x3_2; replace p17 := eq_true p17; replace q17 := eq_true q17) | (go_at_call 20; (with_reducible refine (truantref02_digit.calls (bt a0 x3_2) true _ A18.out).mono ?_); rintro e w' ⟨rfl, ⟨nd, rfl⟩⟩))
          go_roundg k2
          case measure => have := HJ1.out; have := HK2.out; omega
          case rel => exact ⟨(wrap64 (x3_2 + 1)), (by first | rfl | (simp; done) | (simp [*]; done)), H', ⟨by have := HJ1.out; have := HK2.out; omega⟩, ⟨by repeat (first | (with_reducible first | exact HB.out | apply below_alloc | apply pw_below_drewN | apply below_drew1) | exact HB.out)⟩⟩
         ·replace c19 := Bool.eq_false_iff.mpr c19
          subst c19
          have H1 : (some false) = some r := by rw [if_neg (show ¬ (false = true) by decide)] at H; exact H
          clear H
          have H := H1
          clear H1
          obtain rfl := Option.some.inj H
          have p14 : 0 ≤ (x3_2 : Int) := of_decide_eq_true (by first | (with_reducible assumption) | assumption)
          have q14 : x3_2 < (a0.size : Int) := of_decide_eq_true (by first | (with_reducible assumption) | assumption)
          have hx14 := bt_at a0 x3_2
          replace p14 := eq_true p14
          replace q14 := eq_true q14
          go_wp2_with (first | ((with_reducible refine gate_callee (f := 19) rfl ?_); refine goesL_ (some 31) rfl rfl Tryz.func19 (by kernel_rfl) rfl #[.int .u8 (bt a0 x3_2)] rfl (by (try simp only [List.map_toArray, List.map_cons, List.map_nil]); first | done | rfl | (simp only [List.length_drop, List.length_take]; rfl)) ?_; (with_reducible refine (truantref02_letter.calls (bt a0 x3_2) false _ A15.out).mono ?_); rintro e w' ⟨rfl, ⟨nd, rfl⟩⟩; refine ⟨_, rfl, ?_⟩; have p17 : 0 ≤ (x3_2 : Int) := of_decide_eq_true (by first | (with_reducible assumption) | assumption); have q17 : x3_2 < (a0.size : Int) := of_decide_eq_true (by first | (with_reducible assumption) | assumption); have hx17 := bt_at a0 x3_2; replace p17 := eq_true p17; replace q17 := eq_true q17) | (go_at_call 20; (with_reducible refine (truantref02_digit.calls (bt a0 x3_2) false _ A18.out).mono ?_); rintro e w' ⟨rfl, ⟨nd, rfl⟩⟩))
          go_ret
          exact ⟨by first | rfl | (simp [errW_none, errW_some] <;> rfl) | (simp [*, errW_none, errW_some] <;> rfl), by repeat (first | (with_reducible first | exact HB.out | apply below_alloc | apply pw_below_drewN | apply below_drew1) | exact HB.out)⟩
       ·rw [if_neg c13] at H
        exact absurd H (by simp)
      ·rw [if_neg c12] at H
       have c12b0 : decide (x3_2 < (a0.size : Int)) = false := decide_eq_false c12
       clear c12
       obtain rfl := Option.some.inj H
       go_wp2
       go_ret
       exact ⟨by first | rfl | (simp [errW_none, errW_some] <;> rfl) | (simp [*, errW_none, errW_some] <;> rfl), by repeat (first | (with_reducible first | exact HB.out | apply below_alloc | apply pw_below_drewN | apply below_drew1) | exact HB.out)⟩

end Go.Proofs.YtcmppjonpmgncaaGreatDoor.Q

/- Small words on 'from some number of rounds on'. -/

namespace Go.Proofs.YtcmppjonpmgncaaGreatDoor.Q
open Go.RowKit Go.Proofs.YtcmppjonpmgncaaGreatDoorW.PrintWords Go.Proofs.YtcmppjonpmgncaaGreatDoorW.PrintLast Go.Proofs.YtcmppjonpmgncaaGreatDoorW.PrintMore
set_option linter.unusedVariables false
set_option linter.unusedSimpArgs false
section
variable {α : Type}
theorem Ev.pos {c : Prop} [Decidable c] {A B : Nat → Option α} {r : α} (h : c) (k : Ev A r) : Ev (fun n => if c then A n else B n) r := Ev.congr (fun n => if_pos h) k
theorem Ev.neg {c : Prop} [Decidable c] {A B : Nat → Option α} {r : α} (h : ¬ c) (k : Ev B r) : Ev (fun n => if c then A n else B n) r := Ev.congr (fun n => if_neg h) k
theorem Ev.one {β : Type} {a : Option β} {b : β} {f : Nat → β → Option α} {r : α} (h : a = some b) (k : Ev (fun n => f n b) r) : Ev (fun n => a.bind (f n)) r := Ev.congr (fun n => by rw [h]; rfl) k
theorem Ev.eq {g : Nat → Option α} {r r' : α} (k : Ev g r) (h : r = r') : Ev g r' := h ▸ k
end
end Go.Proofs.YtcmppjonpmgncaaGreatDoor.Q

/- Words and keys, plain law. -/

namespace Go.Proofs.YtcmppjonpmgncaaGreatDoor.Q
open Go.RowKit Go.Proofs.YtcmppjonpmgncaaGreatDoorW.PrintWords Go.Proofs.YtcmppjonpmgncaaGreatDoorW.PrintLast Go.Proofs.YtcmppjonpmgncaaGreatDoorW.PrintMore
set_option linter.unusedVariables false
set_option linter.unusedSimpArgs false
/-! words -/
theorem index_ev (l : List ByteArray) (s : ByteArray) (hm : l.length ≤ 9223372036854775807) (d : Nat) : ∀ i : Nat, i ≤ l.length → l.length - i = d → (∀ j : Nat, j < i → keyIs s (l.getD j ByteArray.empty) = false) →
  Ev (fun k => slices_Index_string_string.l0 k l s (l.length : Int) (i : Int)) (findR (keyIs s) l) := by
 induction d with
 | zero =>
  intro i h0 hd h
  refine Ev.step (fun k => rfl) (Ev.neg (by omega) ?_)
  rw [find_none (z := ByteArray.empty) (fun j hj => h j (by omega))]
  exact Ev.now _
 | succ d ih =>
  intro i h0 hd h
  refine Ev.step (fun k => rfl) (Ev.pos (by omega) (Ev.pos (by omega) (Ev.pos (by omega) ?_)))
  by_cases e : keyIs s (l.getD i ByteArray.empty) = true
  ·have e2 : s.toList = (rdOf ByteArray.empty l (i : Int)).toList := (beq_iff_eq.mp e).symm
   refine Ev.pos e2 ?_
   rw [find_last (z := ByteArray.empty) (k := i) (by omega) h e]
   exact Ev.now _
  ·have e2 : ¬ s.toList = (rdOf ByteArray.empty l (i : Int)).toList := fun q => e (beq_iff_eq.mpr q.symm)
   refine Ev.neg e2 ?_
   rw [wrap_succ (by omega) (by omega)]
   exact ih (i + 1) (by omega) (by omega) (all_succ (P := fun j => keyIs s (l.getD j ByteArray.empty) = false) h (by simpa using e))
def keyB (s : ByteArray) : Bool := decide (0 ≤ findR (keyIs s) keyList)
theorem isKey_ev (s : ByteArray) : Ev (fun k => lex_IsKey.f k s) (keyB s) := by
 have h := index_ev keyList s (by decide) 16 0 (by decide) (by decide) (fun j hj => absurd hj (by omega))
 have h2 : Ev (fun k => slices_Contains_string_string.f k keyList s) (keyB s) := Ev.bind h (Ev.now _)
 exact Ev.one (a := lex_keys.f) (b := keyList) rfl (Ev.bind h2 (Ev.now _))
end Go.Proofs.YtcmppjonpmgncaaGreatDoor.Q

/- lex.run at each of its tests; lex.skip, word, number: by hand. -/

namespace Go.Proofs.YtcmppjonpmgncaaGreatDoor.Q
open Go.RowKit Go.Proofs.YtcmppjonpmgncaaGreatDoorW.PrintWords Go.Proofs.YtcmppjonpmgncaaGreatDoorW.PrintLast Go.Proofs.YtcmppjonpmgncaaGreatDoorW.PrintMore
set_option linter.unusedVariables false
set_option linter.unusedSimpArgs false
def blB (a : Int) : Bool := decide (a = 32 ∨ a = 9 ∨ a = 10 ∨ a = 13)
def nlB (a : Int) : Bool := a != 10
def runP (p : Int → Bool) (l : List UInt8) : Nat := (l.takeWhile (fun b => p (b.toNat : Int))).length
theorem blB_blank (a : Int) : lex_isBlank.f a = some (blB a) := by
 unfold lex_isBlank.f blB
 by_cases h1 : a = 32 <;> by_cases h2 : a = 9 <;> by_cases h3 : a = 10 <;> by_cases h4 : a = 13 <;> simp [h1, h2, h3, h4]
theorem nlB_rest (a : Int) : lex_skip_1.f a = some (nlB a) := rfl
theorem digB_digit (a : Int) : lex_isDigit.f a = some (digB a) := digB_some a
theorem lodB_word (a : Int) : lex_word_1.f a = some (lodB a) := by
 unfold lex_word_1.f lodB
 rw [letB_some, digB_some]
 cases letB a <;> simp
theorem bt_nat (s : ByteArray) (i : Nat) (h : i < s.size) : bt s i = ((s.data.toList[i]'(by rw [data_length]; exact h)).toNat : Int) := by
 rw [← bt_at s i (by simpa using h)]
 simp only [Int.toNat_natCast, Array.getElem_toList]
 rfl
theorem takeWhile_len {α : Type} (q : α → Bool) : ∀ (l : List α) (k : Nat), (∀ i (h : i < l.length), i < k → q l[i] = true) → (∀ h : k < l.length, q l[k] = false) → k ≤ l.length → (l.takeWhile q).length = k
 | [], k, _, _, h => by simp at h; simp [h]
 | a :: l, 0, _, h2, _ => by
  have := h2 (by simp)
  simp only [List.getElem_cons_zero] at this
  simp [List.takeWhile_cons, this]
 | a :: l, k + 1, h1, h2, h3 => by
  have ha : q a = true := h1 0 (by simp) (by omega)
  rw [List.takeWhile_cons, if_pos ha, List.length_cons, takeWhile_len q l k (fun i h hk => by have := h1 (i + 1) (by simpa using h) (by omega); rwa [List.getElem_cons_succ] at this) (fun h => by have := h2 (by simpa using h); rwa [List.getElem_cons_succ] at this) (by simpa using h3)]
theorem run_is (p : Int → Bool) (s : ByteArray) {k : Nat} (hk : k ≤ s.size) (h : ∀ i : Nat, i < k → p (bt s i) = true) (h2 : k < s.size → p (bt s k) = false) : runP p s.data.toList = k := by
 unfold runP
 refine takeWhile_len _ _ k (fun i hi hik => ?_) (fun hl => ?_) (by rw [data_length]; exact hk)
 ·rw [data_length] at hi
  have := h i hik
  rwa [bt_nat s i hi] at this
 ·rw [data_length] at hl
  have := h2 hl
  rwa [bt_nat s k hl] at this
theorem runP_le (p : Int → Bool) (l : List UInt8) : runP p l ≤ l.length := by
 unfold runP
 exact (List.takeWhile_sublist _).length_le
theorem ext_drop (s : ByteArray) (a : Nat) : (s.extract a s.size).data.toList = s.data.toList.drop a := by
 simp [ByteArray.data_extract]
 rw [List.take_of_length_le]
 simp
theorem ext_take (s : ByteArray) (b : Nat) : (s.extract 0 b).data.toList = s.data.toList.take b := by
 simp [ByteArray.data_extract]

theorem any_blank (a : Int) (w : World) : Calls Tryz.prog 30 #[.int .u8 a] w fun e w' => e = .returned (.bool (blB a)) ∧ Drawn0 w w' :=
 lex_isBlank.calls a _ w (blB_blank a)
set_option maxHeartbeats 400000 in
theorem run_blank (s : ByteArray) (w : World) (hs : s.size ≤ 9223372036854775807) :
  Calls Tryz.prog 29 #[.string s, .func (.func 30) #[] #[]] w fun e w' => e = .returned (.int .i64 (runP blB s.data.toList : Nat)) ∧ Drawn0 w w' := by
 go_enter Tryz.func29, Tryz.ntmps29
 go_wp2
 go_loopw [5] (fun v wr => ∃ k : Nat, v = .int .i64 k ∧ k ≤ s.size ∧ Aside0 (∀ i : Nat, i < k → blB (bt s i) = true) ∧ Drawn0 w wr) (fun v _ => s.size - (intOf v).toNat)
 case atStart => exact ⟨0, rfl, Nat.zero_le _, ⟨fun i h => absurd h (Nat.not_lt_zero _)⟩, Drawn0.refl _⟩
 case round =>
  obtain ⟨k, rfl, hk, HA, HD⟩ := hrel
  by_cases hlt : k < s.size
  ·have hb : ((s[k].toNat : Int)) = bt s k := bt_at s k (by simpa using hlt)
   have HB := Aside0.mk hb; clear hb
   go_wp2_with fail
   rw [HB.out]
   refine (any_blank (bt s k) wr).mono ?_
   rintro e w1 ⟨rfl, hd⟩
   have HD1 : Drawn0 w w1 := by obtain ⟨m, rfl⟩ := hd; exact HD.step m
   clear hd HD
   rcases hl : blB (bt s k) with _ | _
   ·have HR := Aside0.mk (run_is blB s hk HA.out (fun _ => hl))
    clear hl
    go_wp2
    go_ret
    exact ⟨by rw [HR.out]; rfl, HD1⟩
   ·have HL := Aside0.mk hl; clear hl
    go_wp2
    go_roundw
    case rel => exact ⟨k + 1, by go_num, by omega, ⟨all_succ (P := fun i => blB (bt s (i : Nat)) = true) HA.out HL.out⟩, HD1⟩
    case measure => simp [intOf]; omega
  ·have HR := Aside0.mk (run_is blB s hk HA.out (fun h => absurd h hlt))
   go_wp2
   go_ret
   exact ⟨by rw [HR.out]; rfl, HD⟩

theorem any_rest (a : Int) (w : World) : Calls Tryz.prog 32 #[.int .u8 a] w fun e w' => e = .returned (.bool (nlB a)) ∧ Drawn0 w w' :=
 lex_skip_1.calls a _ w (nlB_rest a)
set_option maxHeartbeats 400000 in
theorem run_rest (s : ByteArray) (w : World) (hs : s.size ≤ 9223372036854775807) :
  Calls Tryz.prog 29 #[.string s, .func (.func 32) #[] #[]] w fun e w' => e = .returned (.int .i64 (runP nlB s.data.toList : Nat)) ∧ Drawn0 w w' := by
 go_enter Tryz.func29, Tryz.ntmps29
 go_wp2
 go_loopw [5] (fun v wr => ∃ k : Nat, v = .int .i64 k ∧ k ≤ s.size ∧ Aside0 (∀ i : Nat, i < k → nlB (bt s i) = true) ∧ Drawn0 w wr) (fun v _ => s.size - (intOf v).toNat)
 case atStart => exact ⟨0, rfl, Nat.zero_le _, ⟨fun i h => absurd h (Nat.not_lt_zero _)⟩, Drawn0.refl _⟩
 case round =>
  obtain ⟨k, rfl, hk, HA, HD⟩ := hrel
  by_cases hlt : k < s.size
  ·have hb : ((s[k].toNat : Int)) = bt s k := bt_at s k (by simpa using hlt)
   have HB := Aside0.mk hb; clear hb
   go_wp2_with fail
   rw [HB.out]
   refine (any_rest (bt s k) wr).mono ?_
   rintro e w1 ⟨rfl, hd⟩
   have HD1 : Drawn0 w w1 := by obtain ⟨m, rfl⟩ := hd; exact HD.step m
   clear hd HD
   rcases hl : nlB (bt s k) with _ | _
   ·have HR := Aside0.mk (run_is nlB s hk HA.out (fun _ => hl))
    clear hl
    go_wp2
    go_ret
    exact ⟨by rw [HR.out]; rfl, HD1⟩
   ·have HL := Aside0.mk hl; clear hl
    go_wp2
    go_roundw
    case rel => exact ⟨k + 1, by go_num, by omega, ⟨all_succ (P := fun i => nlB (bt s (i : Nat)) = true) HA.out HL.out⟩, HD1⟩
    case measure => simp [intOf]; omega
  ·have HR := Aside0.mk (run_is nlB s hk HA.out (fun h => absurd h hlt))
   go_wp2
   go_ret
   exact ⟨by rw [HR.out]; rfl, HD⟩

theorem any_digit (a : Int) (w : World) : Calls Tryz.prog 35 #[.int .u8 a] w fun e w' => e = .returned (.bool (digB a)) ∧ Drawn0 w w' :=
 lex_isDigit.calls a _ w (digB_digit a)
set_option maxHeartbeats 400000 in
theorem run_digit (s : ByteArray) (w : World) (hs : s.size ≤ 9223372036854775807) :
  Calls Tryz.prog 29 #[.string s, .func (.func 35) #[] #[]] w fun e w' => e = .returned (.int .i64 (runP digB s.data.toList : Nat)) ∧ Drawn0 w w' := by
 go_enter Tryz.func29, Tryz.ntmps29
 go_wp2
 go_loopw [5] (fun v wr => ∃ k : Nat, v = .int .i64 k ∧ k ≤ s.size ∧ Aside0 (∀ i : Nat, i < k → digB (bt s i) = true) ∧ Drawn0 w wr) (fun v _ => s.size - (intOf v).toNat)
 case atStart => exact ⟨0, rfl, Nat.zero_le _, ⟨fun i h => absurd h (Nat.not_lt_zero _)⟩, Drawn0.refl _⟩
 case round =>
  obtain ⟨k, rfl, hk, HA, HD⟩ := hrel
  by_cases hlt : k < s.size
  ·have hb : ((s[k].toNat : Int)) = bt s k := bt_at s k (by simpa using hlt)
   have HB := Aside0.mk hb; clear hb
   go_wp2_with fail
   rw [HB.out]
   refine (any_digit (bt s k) wr).mono ?_
   rintro e w1 ⟨rfl, hd⟩
   have HD1 : Drawn0 w w1 := by obtain ⟨m, rfl⟩ := hd; exact HD.step m
   clear hd HD
   rcases hl : digB (bt s k) with _ | _
   ·have HR := Aside0.mk (run_is digB s hk HA.out (fun _ => hl))
    clear hl
    go_wp2
    go_ret
    exact ⟨by rw [HR.out]; rfl, HD1⟩
   ·have HL := Aside0.mk hl; clear hl
    go_wp2
    go_roundw
    case rel => exact ⟨k + 1, by go_num, by omega, ⟨all_succ (P := fun i => digB (bt s (i : Nat)) = true) HA.out HL.out⟩, HD1⟩
    case measure => simp [intOf]; omega
  ·have HR := Aside0.mk (run_is digB s hk HA.out (fun h => absurd h hlt))
   go_wp2
   go_ret
   exact ⟨by rw [HR.out]; rfl, HD⟩

theorem any_word (a : Int) (w : World) : Calls Tryz.prog 48 #[.int .u8 a] w fun e w' => e = .returned (.bool (lodB a)) ∧ Drawn0 w w' :=
 lex_word_1.calls a _ w (lodB_word a)
set_option maxHeartbeats 400000 in
theorem run_word (s : ByteArray) (w : World) (hs : s.size ≤ 9223372036854775807) :
  Calls Tryz.prog 29 #[.string s, .func (.func 48) #[] #[]] w fun e w' => e = .returned (.int .i64 (runP lodB s.data.toList : Nat)) ∧ Drawn0 w w' := by
 go_enter Tryz.func29, Tryz.ntmps29
 go_wp2
 go_loopw [5] (fun v wr => ∃ k : Nat, v = .int .i64 k ∧ k ≤ s.size ∧ Aside0 (∀ i : Nat, i < k → lodB (bt s i) = true) ∧ Drawn0 w wr) (fun v _ => s.size - (intOf v).toNat)
 case atStart => exact ⟨0, rfl, Nat.zero_le _, ⟨fun i h => absurd h (Nat.not_lt_zero _)⟩, Drawn0.refl _⟩
 case round =>
  obtain ⟨k, rfl, hk, HA, HD⟩ := hrel
  by_cases hlt : k < s.size
  ·have hb : ((s[k].toNat : Int)) = bt s k := bt_at s k (by simpa using hlt)
   have HB := Aside0.mk hb; clear hb
   go_wp2_with fail
   rw [HB.out]
   refine (any_word (bt s k) wr).mono ?_
   rintro e w1 ⟨rfl, hd⟩
   have HD1 : Drawn0 w w1 := by obtain ⟨m, rfl⟩ := hd; exact HD.step m
   clear hd HD
   rcases hl : lodB (bt s k) with _ | _
   ·have HR := Aside0.mk (run_is lodB s hk HA.out (fun _ => hl))
    clear hl
    go_wp2
    go_ret
    exact ⟨by rw [HR.out]; rfl, HD1⟩
   ·have HL := Aside0.mk hl; clear hl
    go_wp2
    go_roundw
    case rel => exact ⟨k + 1, by go_num, by omega, ⟨all_succ (P := fun i => lodB (bt s (i : Nat)) = true) HA.out HL.out⟩, HD1⟩
    case measure => simp [intOf]; omega
  ·have HR := Aside0.mk (run_is lodB s hk HA.out (fun h => absurd h hlt))
   go_wp2
   go_ret
   exact ⟨by rw [HR.out]; rfl, HD⟩

def lex_run_lex_isDigit.f (a0 : ByteArray) : Option (Int) := if a0.size ≤ 9223372036854775807 then some (runP digB a0.data.toList : Nat) else none
theorem lex_run_lex_isDigit.calls (a0 : ByteArray) (r : Int) (w : World) (h : lex_run_lex_isDigit.f a0 = some r) :
  Calls Tryz.prog 29 #[.string a0, .func (.func 35) #[] #[]] w fun e w' => e = .returned (.int .i64 r) ∧ Drawn0 w w' := by
 unfold lex_run_lex_isDigit.f at h
 split at h
 case isFalse => cases h
 rename_i hs
 obtain rfl := Option.some.inj h
 exact run_digit a0 w hs
def lex_run_lex_word_1.f (a0 : ByteArray) : Option (Int) := if a0.size ≤ 9223372036854775807 then some (runP lodB a0.data.toList : Nat) else none
theorem lex_run_lex_word_1.calls (a0 : ByteArray) (r : Int) (w : World) (h : lex_run_lex_word_1.f a0 = some r) :
  Calls Tryz.prog 29 #[.string a0, .func (.func 48) #[] #[]] w fun e w' => e = .returned (.int .i64 r) ∧ Drawn0 w w' := by
 unfold lex_run_lex_word_1.f at h
 split at h
 case isFalse => cases h
 rename_i hs
 obtain rfl := Option.some.inj h
 exact run_word a0 w hs
def isCom : List UInt8 → Bool
 | 47 :: 47 :: _ => true
 | _ => false
/-- How many bytes stand between. -/
def skipF : Nat → List UInt8 → Nat
 | 0, _ => 0
 | k + 1, l => if isCom (l.drop (runP blB l)) = true then runP blB l + runP nlB (l.drop (runP blB l)) + skipF k (l.drop (runP blB l + runP nlB (l.drop (runP blB l)))) else runP blB l
def skipN (l : List UInt8) : Nat := skipF (l.length + 1) l
theorem isCom_run {l : List UInt8} (h : isCom l = true) : 2 ≤ runP nlB l := by
 unfold isCom at h
 split at h
 ·simp [runP, List.takeWhile_cons, nlB]
 ·cases h
theorem skipF_le : ∀ (k : Nat) (l : List UInt8), skipF k l ≤ l.length
 | 0, l => Nat.zero_le _
 | k + 1, l => by
  unfold skipF
  have h1 := runP_le blB l
  have h2 := runP_le nlB (l.drop (runP blB l))
  rw [List.length_drop] at h2
  split
  ·have h3 := skipF_le k (l.drop (runP blB l + runP nlB (l.drop (runP blB l))))
   rw [List.length_drop] at h3
   omega
  ·exact h1
theorem skipF_more : ∀ (k k' : Nat) (l : List UInt8), l.length < k → l.length < k' → skipF k l = skipF k' l
 | k + 1, k' + 1, l, h, h' => by
  unfold skipF
  by_cases hc : isCom (l.drop (runP blB l)) = true
  ·rw [if_pos hc, if_pos hc]
   have h2 := isCom_run hc
   have h1 := runP_le blB l
   have h3 := runP_le nlB (l.drop (runP blB l))
   rw [List.length_drop] at h3
   rw [skipF_more k k' _ (by rw [List.length_drop]; omega) (by rw [List.length_drop]; omega)]
  ·rw [if_neg hc, if_neg hc]
theorem skipN_eq (l : List UInt8) : skipN l = if isCom (l.drop (runP blB l)) = true then runP blB l + runP nlB (l.drop (runP blB l)) + skipN (l.drop (runP blB l + runP nlB (l.drop (runP blB l)))) else runP blB l := by
 unfold skipN
 conv => lhs; unfold skipF
 split
 ·rename_i hc
  have h2 := isCom_run hc
  have h1 := runP_le blB l
  have h3 := runP_le nlB (l.drop (runP blB l))
  rw [List.length_drop] at h3
  rw [skipF_more l.length ((l.drop (runP blB l + runP nlB (l.drop (runP blB l)))).length + 1) _ (by rw [List.length_drop]; omega) (by omega)]
 ·rfl
theorem skipN_le (l : List UInt8) : skipN l ≤ l.length := skipF_le _ l
theorem prefix_com (s : ByteArray) : strings_HasPrefix.f s ⟨#[47, 47]⟩ = some (isCom s.data.toList) := by
 unfold strings_HasPrefix.f stringslite_HasPrefix.f
 have e1 : ((⟨#[47, 47]⟩ : ByteArray).size : Int) = 2 := rfl
 have e2 : (⟨#[47, 47]⟩ : ByteArray).toList = [47, 47] := by rw [ByteArray.toList_eq]
 rw [e1, e2]
 obtain ⟨⟨l⟩⟩ := s
 have e3 : (ByteArray.mk ⟨l⟩).size = l.length := rfl
 rw [e3]
 by_cases h : (l.length : Int) ≥ 2
 ·rw [if_pos h, if_pos (by omega)]
  have e4 : ((ByteArray.mk ⟨l⟩).extract 0 (2 : Int).toNat).toList = l.take 2 := by rw [ByteArray.toList_eq]; simp [ByteArray.data_extract]
  rw [e4]
  match l, h with
  | a :: b :: r, h' =>
   have hle : (2 : Int) ≤ ((a :: b :: r).length : Int) := h'
   simp only [if_pos hle, Option.bind_some, List.take_succ_cons, List.take_zero]
   congr 1
   by_cases ha : a = 47
   ·by_cases hb : b = 47
    ·subst ha hb; rfl
    ·simp [ha, hb, isCom]
   ·simp [ha, isCom]
 ·rw [if_neg h]
  match l, h with
  | [], _ => rfl
  | [a], _ => simp [isCom]
  | a :: b :: r, h => exact absurd (by simp; omega) h
theorem wrapS (x : Int) (h0 : 0 ≤ x) (h1 : x ≤ 140737488351232) : wrap64 x = x := by unfold wrap64; omega
def lex_skip.f (a0 : ByteArray) : Option (Int) := if a0.size ≤ 140737488351232 then some (skipN a0.data.toList : Nat) else none
set_option maxHeartbeats 800000 in
theorem lex_skip.calls (a0 : ByteArray) (r : Int) (w : World) (h : lex_skip.f a0 = some r) :
  Calls Tryz.prog 17 #[.string a0] w fun e w' => e = .returned (.int .i64 r) ∧ Below w.heap.size w w' := by
 unfold lex_skip.f at h
 split at h
 case isFalse => cases h
 rename_i hs
 have hr := Option.some.inj h
 clear h
 have HS := Aside0.mk hs
 have hsz := data_length a0
 have HSZ := Aside0.mk hsz; clear hsz
 clear hs
 go_enter Tryz.func17, Tryz.ntmps17
 go_wp2
 go_loopw [3] (fun v wr => ∃ n : Nat, v = .int .i64 n ∧ n ≤ a0.size ∧ Aside0 ((n : Int) + (skipN (a0.data.toList.drop n) : Nat) = r) ∧ Drawn0 w wr) (fun v _ => a0.size - (intOf v).toNat)
 case atStart => exact ⟨0, rfl, Nat.zero_le _, ⟨by simpa using hr⟩, Drawn0.refl _⟩
 case round =>
  clear hr
  obtain ⟨n, rfl, hn, HR, HD⟩ := hrel
  obtain ⟨l, hl⟩ : ∃ l, l = a0.data.toList := ⟨_, rfl⟩
  rw [← hl] at HR HSZ
  have hl1 := runP_le blB (l.drop n)
  rw [List.length_drop, HSZ.out] at hl1
  obtain ⟨k, hk⟩ : ∃ k, k = runP blB (l.drop n) := ⟨_, rfl⟩
  obtain ⟨m, hm⟩ : ∃ m, m = n + k := ⟨_, rfl⟩
  obtain ⟨j, hj⟩ : ∃ j, j = runP nlB (l.drop m) := ⟨_, rfl⟩
  have hl2 := runP_le nlB (l.drop m)
  rw [List.length_drop, HSZ.out, ← hj] at hl2
  rw [← hk] at hl1
  have hml : m ≤ a0.size := by omega
  have hw1 : wrap64 ((n : Int) + (k : Int)) = (m : Int) := by rw [wrapS _ (by omega) (by have := HS.out; omega)]; omega
  have hw2 : wrap64 ((m : Int) + (j : Int)) = ((m + j : Nat) : Int) := by rw [wrapS _ (by omega) (by have := HS.out; omega)]; omega
  have HREQ := HR.out
  rw [skipN_eq, ← hk, List.drop_drop, ← hm, ← hj, List.drop_drop, show n + (k + j) = m + j by omega] at HREQ
  have hc1 := run_blank (a0.extract n a0.size)
  rw [ext_drop a0 n, ← hl, ← hk] at hc1
  have hc2 := prefix_com (a0.extract m a0.size)
  rw [ext_drop a0 m, ← hl] at hc2
  have hc3 := run_rest (a0.extract m a0.size)
  rw [ext_drop a0 m, ← hl, ← hj] at hc3
  have hjj : isCom (l.drop m) = true → 2 ≤ j := fun h => by rw [hj]; exact isCom_run h
  have HC1 := Aside0.mk hc1; have HC2 := Aside0.mk hc2; have HC3 := Aside0.mk hc3; have HQ := Aside0.mk HREQ; have HL2 := Aside0.mk hl2; have HJ := Aside0.mk hjj; have HM := Aside0.mk hm; have HW2 := Aside0.mk hw2; have HW1 := Aside0.mk hw1; have HLL := Aside0.mk hl
  clear hc1 hc2 hc3 HREQ hl2 hjj hk hj hl1 hm HR hw2 hl
  go_wp2_with fail
  refine (HC1.out _ (by have := HS.out; simp; omega)).mono ?_
  rintro e w1 ⟨rfl, hd⟩
  have HD1 : Drawn0 w w1 := by obtain ⟨m, rfl⟩ := hd; exact HD.step m
  clear hd HD
  go_wp2_with fail
  clear hw1
  rw [HW1.out]
  refine (strings_HasPrefix.calls _ _ _ _ HC2.out).mono ?_
  rintro e w2 ⟨rfl, hd⟩
  have HD2 : Drawn0 w w2 := by obtain ⟨m, rfl⟩ := hd; exact HD1.step m
  clear hd HD1
  have HREQ := HQ.out
  rcases hc : isCom (l.drop m) with _ | _
  ·rw [hc] at HREQ
   simp only [Bool.false_eq_true, if_false] at HREQ
   have HE := Aside0.mk HREQ; clear HREQ
   go_wp2
   go_ret
   refine ⟨?_, ?_⟩
   ·have := HE.out; have := HM.out
    show Ending.returned (.int .i64 (m : Int)) = _
    rw [show (m : Int) = r by omega]
   ·exact HD2.below
  ·rw [hc] at HREQ
   simp only [if_true] at HREQ
   have HE := Aside0.mk HREQ; clear HREQ
   have hj2 := HJ.out hc
   have HJ2 := Aside0.mk hj2; clear hj2
   go_wp2_with fail
   refine (HC3.out _ (by have := HS.out; simp; omega)).mono ?_
   rintro e w3 ⟨rfl, hd⟩
   have HD3 : Drawn0 w w3 := by obtain ⟨m, rfl⟩ := hd; exact HD2.step m
   clear hd HD2
   go_wp2
   go_roundw
   case rel => exact ⟨m + j, by rw [HW2.out], by have := HL2.out; omega, ⟨by rw [← HLL.out]; have := HE.out; have := HM.out; omega⟩, HD3⟩
   case measure =>
    have h1 := HL2.out; have h2 := HJ2.out; have h3 := HM.out
    show a0.size - (intOf (.int .i64 (wrap64 ((m : Int) + (j : Int))))).toNat < a0.size - (intOf (.int .i64 (n : Int))).toNat
    rw [HW2.out]
    show a0.size - ((m + j : Nat) : Int).toNat < a0.size - ((n : Nat) : Int).toNat
    rw [Int.toNat_natCast, Int.toNat_natCast]
    omega
end Go.Proofs.YtcmppjonpmgncaaGreatDoor.Q

