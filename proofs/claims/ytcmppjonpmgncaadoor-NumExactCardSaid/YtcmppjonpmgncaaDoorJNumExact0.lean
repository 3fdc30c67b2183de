/- What the row of NumExact rests on, part 0: contracts of the functions that it reaches, and the plain law. -/
import Derived.Test.YtcmppjonpmgncaaDoorProg
import Derived.Below
import Derived.Deep.Draws
import Derived.Deep.AppendLies
import Derived.Maps.AppendAt
import Derived.OwnWalk
import Derived.Laws.BytesArg
import Derived.Laws.MakeOwn
import Derived.Laws.OwnMore
import Derived.Deep.OwnRows
import Derived.Tactics
import Derived.Lib.ConvBytes
import Derived.Laws.Slices
import Derived.WalkKit
import Derived.KernelRfl
import Derived.RowKit3
import Derived.Deep.LoopGhost
import Derived.Deep.QuietTactic
import Derived.BigQuiet
import Derived.WideLaws
import Derived.Deep.DeepCutAuto
import Derived.Deep.CutBlock
import Derived.Deep.RegionHeld3
import Derived.Laws.Rows
import Derived.Lib.AppendStr
import Derived.ArgAppend
import Derived.Laws.IdiomCopy
import Derived.OrdersHeld
import Derived.Laws.BitsLemmas
import Derived.RowKit
import Derived.Test.YtcmppjonpmgncaaDoorWWords
import Derived.Test.YtcmppjonpmgncaaDoorWLast
import Derived.Test.YtcmppjonpmgncaaDoorWTab
import Derived.Test.YtcmppjonpmgncaaDoorWQPut
import Derived.Test.YtcmppjonpmgncaaDoorWApart
import Derived.Test.YtcmppjonpmgncaaDoorWArr
import Derived.Test.YtcmppjonpmgncaaDoorWZeros
import Derived.Test.YtcmppjonpmgncaaDoorWFoot
import Derived.Test.YtcmppjonpmgncaaDoorWKept
import Derived.Test.YtcmppjonpmgncaaDoorWShare
import Derived.Test.YtcmppjonpmgncaaDoorWN
import Derived.Test.YtcmppjonpmgncaaDoorWRepsOne
import Derived.Test.YtcmppjonpmgncaaDoorWInv
import Derived.Test.YtcmppjonpmgncaaDoorWNEv
import Derived.Test.YtcmppjonpmgncaaDoorWMore
import Derived.Shelf.LaysM
import Derived.Shelf.LaysC
import Derived.Shelf.Strconv.Itoa3
import Derived.Shelf.Strconv.ErrVarAll
import Derived.Shelf.Strings.SlTrimAscii
import Derived.Lib.AppendIntMem
import Derived.Deep.MidRow
import Derived.Deep.WholeRow
import Derived.ChangeKeysEq
import Derived.RegionTactic
import Derived.Deep.Slices
import Derived.SizedLaws
import Derived.OpenShut
import Derived.ProofKit
import Derived.ShutString
import Derived.ChangeOld
import Derived.Test.YtcmppjonpmgncaaDoorCards
import Derived.Test.YtcmppjonpmgncaaDoorTie
import Derived.Stop.LaidErr
import Derived.Stop.Joined
import Derived.Lib.LaidTab
import Derived.LaidMore
import Derived.Lay
import Derived.SevenTiedAt
namespace Go.Proofs.YtcmppjonpmgncaaDoor.Q
open Go.RowKit Go.Proofs.YtcmppjonpmgncaaDoorW.PrintWords Go.Proofs.YtcmppjonpmgncaaDoorW.PrintLast Go.Proofs.YtcmppjonpmgncaaDoorW.PrintMore
attribute [local go_sem] max2_int min2_int max_two min_two max_three min_three max_four min_four   -- for this text's walks alone
set_option linter.unusedVariables false
set_option linter.unusedSimpArgs false
def errW : Option Int → Value
 | none => .nilIface
 | some c => .iface 74 (.int .i64 c)
theorem errW_none : errW none = .nilIface := rfl
theorem errW_some (c : Int) : errW (some c) = .iface 74 (.int .i64 c) := rfl
theorem info9 : (Tryd.prog.info? 9).map (fun i => (i.zero, i.size, i.bytes)) = some (some (.string ⟨#[]⟩), 1, 16) := by kernel_rfl
-- the values' own types
/-! ### num_IsBinary: function 13 -/
def num_IsBinary.f (a0 : Int) : Option (Bool) := if a0 ≥ 1 then (some (decide (a0 ≤ 16))) else (some false)
set_option maxHeartbeats 8000000 in
set_option maxRecDepth 100000 in
theorem num_IsBinary.calls (a0 : Int) (r : Bool) (w : World) (h : num_IsBinary.f a0 = some r) :
  Calls Tryd.prog 13 #[.int .i64 a0] w fun e w' => e = .returned (.bool r) ∧ Drawn0 w w' := by
 have H : (if a0 ≥ 1 then (some (decide (a0 ≤ 16))) else (some false)) = some r := h
 clear h
 by_cases c2 : a0 ≥ 1
 ·rw [if_pos c2] at H
  have c2b0 : decide (1 ≤ a0) = true := decide_eq_true c2
  clear c2
  obtain rfl := Option.some.inj H
  go_enter Tryd.func13, Tryd.ntmps13
  go_wp2
  go_ret
  exact ⟨by first | rfl | (simp; done) | (simp [*]; done), by repeat (first | exact Drawn0.refl _ | apply Drawn0.step)⟩
 ·rw [if_neg c2] at H
  have c2b0 : decide (1 ≤ a0) = false := decide_eq_false c2
  clear c2
  obtain rfl := Option.some.inj H
  go_enter Tryd.func13, Tryd.ntmps13
  go_wp2
  go_ret
  exact ⟨by first | rfl | (simp; done) | (simp [*]; done), by repeat (first | exact Drawn0.refl _ | apply Drawn0.step)⟩
/-! ### num_IsUnary: function 14 -/
def num_IsUnary.f (a0 : Int) : Option (Bool) := if a0 = 17 then (some true) else (some (a0 == 18))
set_option maxHeartbeats 8000000 in
set_option maxRecDepth 100000 in
theorem num_IsUnary.calls (a0 : Int) (r : Bool) (w : World) (h : num_IsUnary.f a0 = some r) :
  Calls Tryd.prog 14 #[.int .i64 a0] w fun e w' => e = .returned (.bool r) ∧ Drawn0 w w' := by
 have H : (if a0 = 17 then (some true) else (some (a0 == 18))) = some r := h
 clear h
 by_cases c2 : a0 = 17
 ·rw [if_pos c2] at H
  have c2b0 : (a0 == 17) = true := beq_iff_eq.mpr c2
  have c2b1 : (a0 != 17) = false := bne_eq_false_iff_eq.mpr c2
  clear c2
  obtain rfl := Option.some.inj H
  go_enter Tryd.func14, Tryd.ntmps14
  go_wp2
  go_ret
  exact ⟨by first | rfl | (simp; done) | (simp [*]; done), by repeat (first | exact Drawn0.refl _ | apply Drawn0.step)⟩
 ·rw [if_neg c2] at H
  have c2b0 : (a0 == 17) = false := beq_eq_false_iff_ne.mpr c2
  have c2b1 : (a0 != 17) = true := bne_iff_ne.mpr c2
  obtain rfl := Option.some.inj H
  go_enter Tryd.func14, Tryd.ntmps14
  go_wp2
  go_ret
  exact ⟨by first | rfl | (simp; done) | (simp [*]; done), by repeat (first | exact Drawn0.refl _ | apply Drawn0.step)⟩
/-! ### num_shift: function 25 -/
def num_shift.f (a0 : Int) (a1 : Int) (a2 : Int) : Option (Int × Int) := if a2 < 0 then (some (0, 12)) else (if a0 = 10 then (if 0 ≤ (IntKind.u64.wrap (mn a2 63)) then (some (shr .i64 a1 (IntKind.u64.wrap (mn a2 63)), 0)) else (none)) else (if a2 ≥ 64 then (some (0, 0)) else (if 0 ≤ (IntKind.u64.wrap (a2)) then (some (shl .i64 a1 (IntKind.u64.wrap (a2)), 0)) else (none))))
set_option maxHeartbeats 8000000 in
set_option maxRecDepth 100000 in
theorem num_shift.calls (a0 : Int) (a1 : Int) (a2 : Int) (r1 : Int) (r2 : Int) (w : World) (h : num_shift.f a0 a1 a2 = some (r1, r2)) :
  Calls Tryd.prog 25 #[.int .i64 a0, .int .i64 a1, .int .i64 a2] w fun e w' => e = .returned (.tuple #[.int .i64 r1, .int .i64 r2]) ∧ Below w.heap.size w w' := by
 have HB := Aside0.mk (Below.refl w.heap.size w)
 have H : (if a2 < 0 then (some (0, 12)) else (if a0 = 10 then (if 0 ≤ (IntKind.u64.wrap (mn a2 63)) then (some (shr .i64 a1 (IntKind.u64.wrap (mn a2 63)), 0)) else (none)) else (if a2 ≥ 64 then (some (0, 0)) else (if 0 ≤ (IntKind.u64.wrap (a2)) then (some (shl .i64 a1 (IntKind.u64.wrap (a2)), 0)) else (none))))) = some (r1, r2) := h
 clear h
 by_cases c4 : a2 < 0
 ·rw [if_pos c4] at H
  have c4b0 : decide (a2 < 0) = true := decide_eq_true c4
  clear c4
  simp only [Option.some.injEq, Prod.mk.injEq] at H
  obtain ⟨rfl, rfl⟩ := H
  go_enter Tryd.func25, Tryd.ntmps25
  go_wp2
  go_ret2
  exact ⟨by first | rfl | (simp [errW_none, errW_some] <;> rfl) | (simp [*, errW_none, errW_some] <;> rfl), by repeat (first | (with_reducible first | exact HB.out | apply below_alloc | apply pw_below_drewN | apply below_drew1) | exact HB.out)⟩
 ·rw [if_neg c4] at H
  have c4b0 : decide (a2 < 0) = false := decide_eq_false c4
  clear c4
  by_cases c5 : a0 = 10
  ·rw [if_pos c5] at H
   have c5b0 : (a0 == 10) = true := beq_iff_eq.mpr c5
   have c5b1 : (a0 != 10) = false := bne_eq_false_iff_eq.mpr c5
   clear c5
   obtain ⟨ji6, hji6⟩ : ∃ j_ : Int, (mn a2 63) = j_ := ⟨_, rfl⟩
   replace H : (if 0 ≤ (IntKind.u64.wrap (ji6)) then (some (shr .i64 a1 (IntKind.u64.wrap (ji6)), 0)) else (none)) = some (r1, r2) := by first | (rw [hji6] at H; exact H) | (simp only [hji6] at H ⊢; exact H)
   (try (have hji6h : ji6 ≤ 63 := by (rw [← hji6]; unfold mn; (repeat' split) <;> omega)))
   (try (have hji6g : ji6 ≤ 64 := by omega))
   have hji6_ : (if 63 < a2 then 63 else a2) = ji6 := hji6
   obtain ⟨ji7, hji7⟩ : ∃ j_ : Int, (IntKind.u64.wrap (ji6)) = j_ := ⟨_, rfl⟩
   replace H : (if 0 ≤ (ji7) then (some (shr .i64 a1 (ji7), 0)) else (none)) = some (r1, r2) := by first | (rw [hji7] at H; exact H) | (simp only [hji7] at H ⊢; exact H)
   by_cases c8 : 0 ≤ (ji7)
   ·rw [if_pos c8] at H
    have c8b0 := eq_true c8
    have c8b1 : decide (0 ≤ (ji7)) = true := decide_eq_true c8
    clear c8
    obtain ⟨ji9, hji9⟩ : ∃ j_ : Int, (shr .i64 a1 (ji7)) = j_ := ⟨_, rfl⟩
    replace H : (some (ji9, 0)) = some (r1, r2) := by first | (rw [hji9] at H; exact H) | (simp only [hji9] at H ⊢; exact H)
    have hji9_ : (a1 / 2 ^ min (ji7).toNat 64) = ji9 := hji9
    have hji9z : (ji7) ≤ 64 → (a1 / 2 ^ (ji7).toNat) = ji9 := shr_small hji9
    simp only [Option.some.injEq, Prod.mk.injEq] at H
    obtain ⟨rfl, rfl⟩ := H
    go_enter Tryd.func25, Tryd.ntmps25
    go_wp2
    go_ret2
    exact ⟨by first | rfl | (simp [errW_none, errW_some] <;> rfl) | (simp only [← hji6, ← hji7, ← hji9]; first | rfl | (simp [errW_none, errW_some] <;> rfl)) | (simp [*, errW_none, errW_some] <;> rfl), by repeat (first | (with_reducible first | exact HB.out | apply below_alloc | apply pw_below_drewN | apply below_drew1) | exact HB.out)⟩
   ·rw [if_neg c8] at H
    exact absurd H (by simp)
  ·rw [if_neg c5] at H
   have c5b0 : (a0 == 10) = false := beq_eq_false_iff_ne.mpr c5
   have c5b1 : (a0 != 10) = true := bne_iff_ne.mpr c5
   by_cases c10 : a2 ≥ 64
   ·rw [if_pos c10] at H
    have c10b0 : decide (64 ≤ a2) = true := decide_eq_true c10
    clear c10
    simp only [Option.some.injEq, Prod.mk.injEq] at H
    obtain ⟨rfl, rfl⟩ := H
    go_enter Tryd.func25, Tryd.ntmps25
    go_wp2
    go_ret2
    exact ⟨by first | rfl | (simp [errW_none, errW_some] <;> rfl) | (simp [*, errW_none, errW_some] <;> rfl), by repeat (first | (with_reducible first | exact HB.out | apply below_alloc | apply pw_below_drewN | apply below_drew1) | exact HB.out)⟩
   ·rw [if_neg c10] at H
    have c10b0 : decide (64 ≤ a2) = false := decide_eq_false c10
    clear c10
    obtain ⟨ji11, hji11⟩ : ∃ j_ : Int, (IntKind.u64.wrap (a2)) = j_ := ⟨_, rfl⟩
    replace H : (if 0 ≤ (ji11) then (some (shl .i64 a1 (ji11), 0)) else (none)) = some (r1, r2) := by first | (rw [hji11] at H; exact H) | (simp only [hji11] at H ⊢; exact H)
    by_cases c12 : 0 ≤ (ji11)
    ·rw [if_pos c12] at H
     have c12b0 := eq_true c12
     have c12b1 : decide (0 ≤ (ji11)) = true := decide_eq_true c12
     clear c12
     obtain ⟨ji13, hji13⟩ : ∃ j_ : Int, (shl .i64 a1 (ji11)) = j_ := ⟨_, rfl⟩
     replace H : (some (ji13, 0)) = some (r1, r2) := by first | (rw [hji13] at H; exact H) | (simp only [hji13] at H ⊢; exact H)
     have hji13_ : (IntKind.i64.wrap (a1 * 2 ^ min (ji11).toNat 64)) = ji13 := hji13
     have hji13z : (ji11) ≤ 64 → (IntKind.i64.wrap (a1 * 2 ^ (ji11).toNat)) = ji13 := shl_small hji13
     have hji13y : (wrap64 (a1 * 2 ^ min (ji11).toNat 64)) = ji13 := (i64_w _).symm.trans hji13_
     have hji13x : (ji11) ≤ 64 → (wrap64 (a1 * 2 ^ (ji11).toNat)) = ji13 := fun h_ => (i64_w _).symm.trans (hji13z h_)
     simp only [Option.some.injEq, Prod.mk.injEq] at H
     obtain ⟨rfl, rfl⟩ := H
     go_enter Tryd.func25, Tryd.ntmps25
     go_wp2
     go_ret2
     exact ⟨by first | rfl | (simp [errW_none, errW_some] <;> rfl) | (simp only [← hji11, ← hji13]; first | rfl | (simp [errW_none, errW_some] <;> rfl)) | (simp [*, errW_none, errW_some] <;> rfl), by repeat (first | (with_reducible first | exact HB.out | apply below_alloc | apply pw_below_drewN | apply below_drew1) | exact HB.out)⟩
    ·rw [if_neg c12] at H
     exact absurd H (by simp)
/-! ### num_divide: function 26 -/
def num_divide.f (a0 : Int) (a1 : Int) (a2 : Int) : Option (Int × Int) := if a2 = 0 then (some (0, 11)) else (if a0 = 4 then (some (wrap64 (Int.tdiv a1 a2), 0)) else (some (Int.tmod a1 a2, 0)))
set_option maxHeartbeats 8000000 in
set_option maxRecDepth 100000 in
theorem num_divide.calls (a0 : Int) (a1 : Int) (a2 : Int) (r1 : Int) (r2 : Int) (w : World) (h : num_divide.f a0 a1 a2 = some (r1, r2)) :
  Calls Tryd.prog 26 #[.int .i64 a0, .int .i64 a1, .int .i64 a2] w fun e w' => e = .returned (.tuple #[.int .i64 r1, .int .i64 r2]) ∧ Drawn0 w w' := by
 have H : (if a2 = 0 then (some (0, 11)) else (if a0 = 4 then (some (wrap64 (Int.tdiv a1 a2), 0)) else (some (Int.tmod a1 a2, 0)))) = some (r1, r2) := h
 clear h
 by_cases c4 : a2 = 0
 ·rw [if_pos c4] at H
  have c4b0 : (a2 == 0) = true := beq_iff_eq.mpr c4
  have c4b1 : (a2 != 0) = false := bne_eq_false_iff_eq.mpr c4
  clear c4
  simp only [Option.some.injEq, Prod.mk.injEq] at H
  obtain ⟨rfl, rfl⟩ := H
  go_enter Tryd.func26, Tryd.ntmps26
  go_wp2
  go_ret2
  exact ⟨by first | rfl | (simp; done) | (simp [*]; done), by repeat (first | exact Drawn0.refl _ | apply Drawn0.step)⟩
 ·rw [if_neg c4] at H
  have c4b0 : (a2 == 0) = false := beq_eq_false_iff_ne.mpr c4
  have c4b1 : (a2 != 0) = true := bne_iff_ne.mpr c4
  by_cases c5 : a0 = 4
  ·rw [if_pos c5] at H
   have c5b0 : (a0 == 4) = true := beq_iff_eq.mpr c5
   have c5b1 : (a0 != 4) = false := bne_eq_false_iff_eq.mpr c5
   clear c5
   simp only [Option.some.injEq, Prod.mk.injEq] at H
   obtain ⟨rfl, rfl⟩ := H
   go_enter Tryd.func26, Tryd.ntmps26
   go_wp2
   go_ret2
   exact ⟨by first | rfl | (simp; done) | (simp [*]; done), by repeat (first | exact Drawn0.refl _ | apply Drawn0.step)⟩
  ·rw [if_neg c5] at H
   have c5b0 : (a0 == 4) = false := beq_eq_false_iff_ne.mpr c5
   have c5b1 : (a0 != 4) = true := bne_iff_ne.mpr c5
   simp only [Option.some.injEq, Prod.mk.injEq] at H
   obtain ⟨rfl, rfl⟩ := H
   go_enter Tryd.func26, Tryd.ntmps26
   go_wp2
   go_ret2
   exact ⟨by first | rfl | (simp; done) | (simp [*]; done), by repeat (first | exact Drawn0.refl _ | apply Drawn0.step)⟩
/-! ### num_truth: function 44 -/
def num_truth.f (a0 : Bool) : Option (Int) := if a0 = true then (some 1) else (some 0)
set_option maxHeartbeats 8000000 in
set_option maxRecDepth 100000 in
theorem num_truth.calls (a0 : Bool) (r : Int) (w : World) (h : num_truth.f a0 = some r) :
  Calls Tryd.prog 44 #[.bool a0] w fun e w' => e = .returned (.int .i64 r) ∧ Drawn0 w w' := by
 have H : (if a0 = true then (some 1) else (some 0)) = some r := h
 clear h
 by_cases c2 : a0 = true
 ·subst c2
  have H1 : (some 1) = some r := by rw [if_pos rfl] at H; exact H
  clear H
  have H := H1
  clear H1
  obtain rfl := Option.some.inj H
  go_enter Tryd.func44, Tryd.ntmps44
  go_wp2
  go_ret
  exact ⟨by first | rfl | (simp; done) | (simp [*]; done), by repeat (first | exact Drawn0.refl _ | apply Drawn0.step)⟩
 ·replace c2 := Bool.eq_false_iff.mpr c2
  subst c2
  have H1 : (some 0) = some r := by rw [if_neg (show ¬ (false = true) by decide)] at H; exact H
  clear H
  have H := H1
  clear H1
  obtain rfl := Option.some.inj H
  go_enter Tryd.func44, Tryd.ntmps44
  go_wp2
  go_ret
  exact ⟨by first | rfl | (simp; done) | (simp [*]; done), by repeat (first | exact Drawn0.refl _ | apply Drawn0.step)⟩
/-! ### num_compare: function 45 -/
def num_compare.f (a0 : Int) (a1 : Int) (a2 : Int) : Option (Bool) := if a0 = 11 then (some (a1 == a2)) else (if a0 = 12 then (some (a1 != a2)) else (if a0 = 13 then (some (decide (a1 < a2))) else (if a0 = 14 then (some (decide (a1 ≤ a2))) else (if a0 = 15 then (some (decide (a1 > a2))) else (some (decide (a1 ≥ a2)))))))
set_option maxHeartbeats 8000000 in
set_option maxRecDepth 100000 in
theorem num_compare.calls (a0 : Int) (a1 : Int) (a2 : Int) (r : Bool) (w : World) (h : num_compare.f a0 a1 a2 = some r) :
  Calls Tryd.prog 45 #[.int .i64 a0, .int .i64 a1, .int .i64 a2] w fun e w' => e = .returned (.bool r) ∧ Drawn0 w w' := by
 have H : (if a0 = 11 then (some (a1 == a2)) else (if a0 = 12 then (some (a1 != a2)) else (if a0 = 13 then (some (decide (a1 < a2))) else (if a0 = 14 then (some (decide (a1 ≤ a2))) else (if a0 = 15 then (some (decide (a1 > a2))) else (some (decide (a1 ≥ a2)))))))) = some r := h
 clear h
 by_cases c4 : a0 = 11
 ·rw [if_pos c4] at H
  have c4b0 : (a0 == 11) = true := beq_iff_eq.mpr c4
  have c4b1 : (a0 != 11) = false := bne_eq_false_iff_eq.mpr c4
  clear c4
  obtain rfl := Option.some.inj H
  go_enter Tryd.func45, Tryd.ntmps45
  go_wp2
  go_ret
  exact ⟨by first | rfl | (simp; done) | (simp [*]; done), by repeat (first | exact Drawn0.refl _ | apply Drawn0.step)⟩
 ·rw [if_neg c4] at H
  have c4b0 : (a0 == 11) = false := beq_eq_false_iff_ne.mpr c4
  have c4b1 : (a0 != 11) = true := bne_iff_ne.mpr c4
  by_cases c5 : a0 = 12
  ·rw [if_pos c5] at H
   have c5b0 : (a0 == 12) = true := beq_iff_eq.mpr c5
   have c5b1 : (a0 != 12) = false := bne_eq_false_iff_eq.mpr c5
   clear c5
   obtain rfl := Option.some.inj H
   go_enter Tryd.func45, Tryd.ntmps45
   go_wp2
   go_ret
   exact ⟨by first | rfl | (simp; done) | (simp [*]; done), by repeat (first | exact Drawn0.refl _ | apply Drawn0.step)⟩
  ·rw [if_neg c5] at H
   have c5b0 : (a0 == 12) = false := beq_eq_false_iff_ne.mpr c5
   have c5b1 : (a0 != 12) = true := bne_iff_ne.mpr c5
   by_cases c6 : a0 = 13
   ·rw [if_pos c6] at H
    have c6b0 : (a0 == 13) = true := beq_iff_eq.mpr c6
    have c6b1 : (a0 != 13) = false := bne_eq_false_iff_eq.mpr c6
    clear c6
    obtain rfl := Option.some.inj H
    go_enter Tryd.func45, Tryd.ntmps45
    go_wp2
    go_ret
    exact ⟨by first | rfl | (simp; done) | (simp [*]; done), by repeat (first | exact Drawn0.refl _ | apply Drawn0.step)⟩
   ·rw [if_neg c6] at H
    have c6b0 : (a0 == 13) = false := beq_eq_false_iff_ne.mpr c6
    have c6b1 : (a0 != 13) = true := bne_iff_ne.mpr c6
    by_cases c7 : a0 = 14
    ·rw [if_pos c7] at H
     have c7b0 : (a0 == 14) = true := beq_iff_eq.mpr c7
     have c7b1 : (a0 != 14) = false := bne_eq_false_iff_eq.mpr c7
     clear c7
     obtain rfl := Option.some.inj H
     go_enter Tryd.func45, Tryd.ntmps45
     go_wp2
     go_ret
     exact ⟨by first | rfl | (simp; done) | (simp [*]; done), by repeat (first | exact Drawn0.refl _ | apply Drawn0.step)⟩
    ·rw [if_neg c7] at H
     have c7b0 : (a0 == 14) = false := beq_eq_false_iff_ne.mpr c7
     have c7b1 : (a0 != 14) = true := bne_iff_ne.mpr c7
     by_cases c8 : a0 = 15
     ·rw [if_pos c8] at H
      have c8b0 : (a0 == 15) = true := beq_iff_eq.mpr c8
      have c8b1 : (a0 != 15) = false := bne_eq_false_iff_eq.mpr c8
      clear c8
      obtain rfl := Option.some.inj H
      go_enter Tryd.func45, Tryd.ntmps45
      go_wp2
      go_ret
      exact ⟨by first | rfl | (simp; done) | (simp [*]; done), by repeat (first | exact Drawn0.refl _ | apply Drawn0.step)⟩
     ·rw [if_neg c8] at H
      have c8b0 : (a0 == 15) = false := beq_eq_false_iff_ne.mpr c8
      have c8b1 : (a0 != 15) = true := bne_iff_ne.mpr c8
      obtain rfl := Option.some.inj H
      go_enter Tryd.func45, Tryd.ntmps45
      go_wp2
      go_ret
      exact ⟨by first | rfl | (simp; done) | (simp [*]; done), by repeat (first | exact Drawn0.refl _ | apply Drawn0.step)⟩
/-! ### num_plain: function 27 -/
def num_plain.f (a0 : Int) (a1 : Int) (a2 : Int) : Option (Int) := if a0 = 1 then (some (wrap64 (a1 + a2))) else (if a0 = 2 then (some (wrap64 (a1 - a2))) else (if a0 = 3 then (some (wrap64 (a1 * a2))) else (if a0 = 6 then (some (Go.bits .and .i64 a1 a2)) else (if a0 = 7 then (some (Go.bits .or .i64 a1 a2)) else (if a0 = 8 then (some (Go.bits .xor .i64 a1 a2)) else (if a0 = 17 then (some (wrap64 (-a1))) else (if a0 = 18 then ((num_truth.f (a1 == 0)).bind fun t101 => (some t101)) else ((num_compare.f a0 a1 a2).bind fun t102 => ((num_truth.f t102).bind fun t103 => (some t103))))))))))
set_option maxHeartbeats 8000000 in
set_option maxRecDepth 100000 in
theorem num_plain.calls (a0 : Int) (a1 : Int) (a2 : Int) (r : Int) (w : World) (h : num_plain.f a0 a1 a2 = some r) :
  Calls Tryd.prog 27 #[.int .i64 a0, .int .i64 a1, .int .i64 a2] w fun e w' => e = .returned (.int .i64 r) ∧ Drawn0 w w' := by
 have H : (if a0 = 1 then (some (wrap64 (a1 + a2))) else (if a0 = 2 then (some (wrap64 (a1 - a2))) else (if a0 = 3 then (some (wrap64 (a1 * a2))) else (if a0 = 6 then (some (Go.bits .and .i64 a1 a2)) else (if a0 = 7 then (some (Go.bits .or .i64 a1 a2)) else (if a0 = 8 then (some (Go.bits .xor .i64 a1 a2)) else (if a0 = 17 then (some (wrap64 (-a1))) else (if a0 = 18 then ((num_truth.f (a1 == 0)).bind fun t101 => (some t101)) else ((num_compare.f a0 a1 a2).bind fun t102 => ((num_truth.f t102).bind fun t103 => (some t103))))))))))) = some r := h
 clear h
 by_cases c4 : a0 = 1
 ·rw [if_pos c4] at H
  have c4b0 : (a0 == 1) = true := beq_iff_eq.mpr c4
  have c4b1 : (a0 != 1) = false := bne_eq_false_iff_eq.mpr c4
  clear c4
  obtain rfl := Option.some.inj H
  go_enter Tryd.func27, Tryd.ntmps27
  go_wp2
  go_ret
  exact ⟨by first | rfl | (simp; done) | (simp [*]; done), by repeat (first | exact Drawn0.refl _ | apply Drawn0.step)⟩
 ·rw [if_neg c4] at H
  have c4b0 : (a0 == 1) = false := beq_eq_false_iff_ne.mpr c4
  have c4b1 : (a0 != 1) = true := bne_iff_ne.mpr c4
  by_cases c5 : a0 = 2
  ·rw [if_pos c5] at H
   have c5b0 : (a0 == 2) = true := beq_iff_eq.mpr c5
   have c5b1 : (a0 != 2) = false := bne_eq_false_iff_eq.mpr c5
   clear c5
   obtain rfl := Option.some.inj H
   go_enter Tryd.func27, Tryd.ntmps27
   go_wp2
   go_ret
   exact ⟨by first | rfl | (simp; done) | (simp [*]; done), by repeat (first | exact Drawn0.refl _ | apply Drawn0.step)⟩
  ·rw [if_neg c5] at H
   have c5b0 : (a0 == 2) = false := beq_eq_false_iff_ne.mpr c5
   have c5b1 : (a0 != 2) = true := bne_iff_ne.mpr c5
   by_cases c6 : a0 = 3
   ·rw [if_pos c6] at H
    have c6b0 : (a0 == 3) = true := beq_iff_eq.mpr c6
    have c6b1 : (a0 != 3) = false := bne_eq_false_iff_eq.mpr c6
    clear c6
    obtain rfl := Option.some.inj H
    go_enter Tryd.func27, Tryd.ntmps27
    go_wp2
    go_ret
    exact ⟨by first | rfl | (simp; done) | (simp [*]; done), by repeat (first | exact Drawn0.refl _ | apply Drawn0.step)⟩
   ·rw [if_neg c6] at H
    have c6b0 : (a0 == 3) = false := beq_eq_false_iff_ne.mpr c6
    have c6b1 : (a0 != 3) = true := bne_iff_ne.mpr c6
    by_cases c7 : a0 = 6
    ·rw [if_pos c7] at H
     have c7b0 : (a0 == 6) = true := beq_iff_eq.mpr c7
     have c7b1 : (a0 != 6) = false := bne_eq_false_iff_eq.mpr c7
     clear c7
     obtain rfl := Option.some.inj H
     go_enter Tryd.func27, Tryd.ntmps27
     go_wp2
     go_ret
     exact ⟨by first | rfl | (simp; done) | (simp [*]; done), by repeat (first | exact Drawn0.refl _ | apply Drawn0.step)⟩
    ·rw [if_neg c7] at H
     have c7b0 : (a0 == 6) = false := beq_eq_false_iff_ne.mpr c7
     have c7b1 : (a0 != 6) = true := bne_iff_ne.mpr c7
     by_cases c8 : a0 = 7
     ·rw [if_pos c8] at H
      have c8b0 : (a0 == 7) = true := beq_iff_eq.mpr c8
      have c8b1 : (a0 != 7) = false := bne_eq_false_iff_eq.mpr c8
      clear c8
      obtain rfl := Option.some.inj H
      go_enter Tryd.func27, Tryd.ntmps27
      go_wp2
      go_ret
      exact ⟨by first | rfl | (simp; done) | (simp [*]; done), by repeat (first | exact Drawn0.refl _ | apply Drawn0.step)⟩
     ·rw [if_neg c8] at H
      have c8b0 : (a0 == 7) = false := beq_eq_false_iff_ne.mpr c8
      have c8b1 : (a0 != 7) = true := bne_iff_ne.mpr c8
      by_cases c9 : a0 = 8
      ·rw [if_pos c9] at H
       have c9b0 : (a0 == 8) = true := beq_iff_eq.mpr c9
       have c9b1 : (a0 != 8) = false := bne_eq_false_iff_eq.mpr c9
       clear c9
       obtain rfl := Option.some.inj H
       go_enter Tryd.func27, Tryd.ntmps27
       go_wp2
       go_ret
       exact ⟨by first | rfl | (simp; done) | (simp [*]; done), by repeat (first | exact Drawn0.refl _ | apply Drawn0.step)⟩
      ·rw [if_neg c9] at H
       have c9b0 : (a0 == 8) = false := beq_eq_false_iff_ne.mpr c9
       have c9b1 : (a0 != 8) = true := bne_iff_ne.mpr c9
       by_cases c10 : a0 = 17
       ·rw [if_pos c10] at H
        have c10b0 : (a0 == 17) = true := beq_iff_eq.mpr c10
        have c10b1 : (a0 != 17) = false := bne_eq_false_iff_eq.mpr c10
        clear c10
        obtain rfl := Option.some.inj H
        go_enter Tryd.func27, Tryd.ntmps27
        go_wp2
        go_ret
        exact ⟨by first | rfl | (simp; done) | (simp [*]; done), by repeat (first | exact Drawn0.refl _ | apply Drawn0.step)⟩
       ·rw [if_neg c10] at H
        have c10b0 : (a0 == 17) = false := beq_eq_false_iff_ne.mpr c10
        have c10b1 : (a0 != 17) = true := bne_iff_ne.mpr c10
        by_cases c11 : a0 = 18
        ·rw [if_pos c11] at H
         have c11b0 : (a0 == 18) = true := beq_iff_eq.mpr c11
         have c11b1 : (a0 != 18) = false := bne_eq_false_iff_eq.mpr c11
         clear c11
         replace H := Option.bind_eq_some_iff.mp H
         obtain ⟨t101, A120, H⟩ := H
         replace H : (some t101) = some r := H
         have A12 := Aside0.mk A120
         clear A120
         obtain rfl := Option.some.inj H
         go_enter Tryd.func27, Tryd.ntmps27
         go_wp2_with (first | ((with_reducible refine gate_callee (f := 44) rfl ?_); refine goesL_ (some 46) rfl rfl Tryd.func44 (by kernel_rfl) rfl #[.bool (a1 == 0)] rfl (by (try simp only [List.map_toArray, List.map_cons, List.map_nil]); first | done | rfl | (simp only [List.length_drop, List.length_take]; rfl)) ?_; (with_reducible refine (num_truth.calls (a1 == 0) t101 _ A12.out).mono ?_); rintro e w' ⟨rfl, ⟨nd, rfl⟩⟩; refine ⟨_, rfl, ?_⟩))
         go_ret
         exact ⟨by first | rfl | (simp; done) | (simp [*]; done), by repeat (first | exact Drawn0.refl _ | apply Drawn0.step)⟩
        ·rw [if_neg c11] at H
         have c11b0 : (a0 == 18) = false := beq_eq_false_iff_ne.mpr c11
         have c11b1 : (a0 != 18) = true := bne_iff_ne.mpr c11
         replace H := Option.bind_eq_some_iff.mp H
         obtain ⟨t102, A130, H⟩ := H
         replace H : ((num_truth.f t102).bind fun t103 => (some t103)) = some r := H
         have A13 := Aside0.mk A130
         clear A130
         replace H := Option.bind_eq_some_iff.mp H
         obtain ⟨t103, A140, H⟩ := H
         replace H : (some t103) = some r := H
         have A14 := Aside0.mk A140
         clear A140
         obtain rfl := Option.some.inj H
         go_enter Tryd.func27, Tryd.ntmps27
         go_wp2_with (first | ((with_reducible refine gate_callee (f := 45) rfl ?_); refine goesL_ (some 50) rfl rfl Tryd.func45 (by kernel_rfl) rfl #[.int .i64 a0, .int .i64 a1, .int .i64 a2] rfl (by (try simp only [List.map_toArray, List.map_cons, List.map_nil]); first | done | rfl | (simp only [List.length_drop, List.length_take]; rfl)) ?_; (with_reducible refine (num_compare.calls a0 a1 a2 t102 _ A13.out).mono ?_); rintro e w' ⟨rfl, ⟨nd, rfl⟩⟩; refine ⟨_, rfl, ?_⟩) | ((with_reducible refine gate_callee (f := 44) rfl ?_); refine goesL_ (some 51) rfl rfl Tryd.func44 (by kernel_rfl) rfl #[.bool t102] rfl (by (try simp only [List.map_toArray, List.map_cons, List.map_nil]); first | done | rfl | (simp only [List.length_drop, List.length_take]; rfl)) ?_; (with_reducible refine (num_truth.calls t102 t103 _ A14.out).mono ?_); rintro e w' ⟨rfl, ⟨nd, rfl⟩⟩; refine ⟨_, rfl, ?_⟩))
         go_ret
         exact ⟨by first | rfl | (simp; done) | (simp [*]; done), by repeat (first | exact Drawn0.refl _ | apply Drawn0.step)⟩
/-! ### num_Do: function 11 -/
mutual
def num_Do.j0 : Nat → Int → Int → Int → Bool → Option (Int × Int)
 | 0, _, _, _, _ => none
 | k + 1, x0, x1, x2, x8 => if x8 = true then (some (0, 9)) else (if x0 = 9 then (num_Do.j1 k x0 x1 x2 true) else (num_Do.j1 k x0 x1 x2 (x0 == 10)))
def num_Do.j1 : Nat → Int → Int → Int → Bool → Option (Int × Int)
 | 0, _, _, _, _ => none
 | k + 1, x0, x1, x2, x17 => if x17 = true then ((num_shift.f x0 x1 x2).bind fun bt106 => (some (bt106.1, bt106.2))) else (if x0 = 4 then (num_Do.j2 k x0 x1 x2 true) else (num_Do.j2 k x0 x1 x2 (x0 == 5)))
def num_Do.j2 : Nat → Int → Int → Int → Bool → Option (Int × Int)
 | 0, _, _, _, _ => none
 | k + 1, x0, x1, x2, x30 => if x30 = true then ((num_divide.f x0 x1 x2).bind fun bt108 => (some (bt108.1, bt108.2))) else ((num_plain.f x0 x1 x2).bind fun t110 => (some (t110, 0)))
end
def num_Do.f (k : Nat) (a0 : Int) (a1 : Int) (a2 : Int) : Option (Int × Int) := (num_IsBinary.f a0).bind fun t104 => (if t104 = true then (num_Do.j0 k a0 a1 a2 false) else ((num_IsUnary.f a0).bind fun t105 => (num_Do.j0 k a0 a1 a2 (!t105))))
theorem num_Do.mono_l : ∀ k, (∀ y0 y1 y2 y3, LeO (num_Do.j0 k y0 y1 y2 y3) (num_Do.j0 (k + 1) y0 y1 y2 y3)) ∧ (∀ y0 y1 y2 y3, LeO (num_Do.j1 k y0 y1 y2 y3) (num_Do.j1 (k + 1) y0 y1 y2 y3)) ∧ (∀ y0 y1 y2 y3, LeO (num_Do.j2 k y0 y1 y2 y3) (num_Do.j2 (k + 1) y0 y1 y2 y3))
 | 0 => ⟨fun _ _ _ _ r h => by simp [num_Do.j0] at h, fun _ _ _ _ r h => by simp [num_Do.j1] at h, fun _ _ _ _ r h => by simp [num_Do.j2] at h⟩
 | k + 1 => by
  obtain ⟨ih0, ih1, ih2⟩ := num_Do.mono_l k
  refine ⟨?_, ?_, ?_⟩
  ·intro y0 y1 y2 y3
   unfold num_Do.j0
   repeat' first
   | (with_reducible exact ih0 _ _ _ _)
   | (with_reducible exact ih1 _ _ _ _)
   | (with_reducible exact ih2 _ _ _ _)
   | (with_reducible exact LeO.refl _)
   | (with_reducible exact LeO.none _)
   | (with_reducible refine LeO.ite ?_ ?_)
   | (with_reducible refine LeO.bind ?_ (fun _ => ?_))
   | exact ih0 _ _ _ _
   | exact ih1 _ _ _ _
   | exact ih2 _ _ _ _
   | exact LeO.none _
   | refine LeO.ite ?_ ?_
   | refine LeO.bind ?_ (fun _ => ?_)
  ·intro y0 y1 y2 y3
   unfold num_Do.j1
   repeat' first
   | (with_reducible exact ih0 _ _ _ _)
   | (with_reducible exact ih1 _ _ _ _)
   | (with_reducible exact ih2 _ _ _ _)
   | (with_reducible exact LeO.refl _)
   | (with_reducible exact LeO.none _)
   | (with_reducible refine LeO.ite ?_ ?_)
   | (with_reducible refine LeO.bind ?_ (fun _ => ?_))
   | exact ih0 _ _ _ _
   | exact ih1 _ _ _ _
   | exact ih2 _ _ _ _
   | exact LeO.none _
   | refine LeO.ite ?_ ?_
   | refine LeO.bind ?_ (fun _ => ?_)
  ·intro y0 y1 y2 y3
   unfold num_Do.j2
   repeat' first
   | (with_reducible exact ih0 _ _ _ _)
   | (with_reducible exact ih1 _ _ _ _)
   | (with_reducible exact ih2 _ _ _ _)
   | (with_reducible exact LeO.refl _)
   | (with_reducible exact LeO.none _)
   | (with_reducible refine LeO.ite ?_ ?_)
   | (with_reducible refine LeO.bind ?_ (fun _ => ?_))
   | exact ih0 _ _ _ _
   | exact ih1 _ _ _ _
   | exact ih2 _ _ _ _
   | exact LeO.none _
   | refine LeO.ite ?_ ?_
   | refine LeO.bind ?_ (fun _ => ?_)
theorem num_Do.mono : ∀ a0 a1 a2 k, LeO (num_Do.f k a0 a1 a2) (num_Do.f (k + 1) a0 a1 a2) := by
 intro a0 a1 a2 k
 obtain ⟨ih0, ih1, ih2⟩ := num_Do.mono_l k
 unfold num_Do.f
 repeat' first
   | (with_reducible exact ih0 _ _ _ _)
   | (with_reducible exact ih1 _ _ _ _)
   | (with_reducible exact ih2 _ _ _ _)
   | (with_reducible exact LeO.refl _)
   | (with_reducible exact LeO.none _)
   | (with_reducible refine LeO.ite ?_ ?_)
   | (with_reducible refine LeO.bind ?_ (fun _ => ?_))
   | exact ih0 _ _ _ _
   | exact ih1 _ _ _ _
   | exact ih2 _ _ _ _
   | exact LeO.none _
   | refine LeO.ite ?_ ?_
   | refine LeO.bind ?_ (fun _ => ?_)
set_option maxHeartbeats 8000000 in
set_option maxRecDepth 100000 in
theorem num_Do.calls (k : Nat) (a0 : Int) (a1 : Int) (a2 : Int) (r1 : Int) (r2 : Int) (w : World) (h : num_Do.f k a0 a1 a2 = some (r1, r2)) :
  Calls Tryd.prog 11 #[.int .i64 a0, .int .i64 a1, .int .i64 a2] w fun e w' => e = .returned (.tuple #[.int .i64 r1, .int .i64 r2]) ∧ Below w.heap.size w w' := by
 have HB := Aside0.mk (Below.refl w.heap.size w)
 have H : ((num_IsBinary.f a0).bind fun t104 => (if t104 = true then (num_Do.j0 k a0 a1 a2 false) else ((num_IsUnary.f a0).bind fun t105 => (num_Do.j0 k a0 a1 a2 (!t105))))) = some (r1, r2) := h
 clear h
 have HC4 := Aside0.mk H
 clear H
 go_enter Tryd.func11, Tryd.ntmps11
 go_upto_region 1 with (fail)
 go_cut [8] (fun v8 wc => ∃ (kq : Nat) (x8_3 : Bool), v8 = .bool x8_3 ∧ Aside0 (num_Do.j0 kq a0 a1 a2 x8_3 = some (r1, r2)) ∧ Aside0 (kq ≤ k) ∧ Aside0 (Below w.heap.size w wc))
 case first =>
  have H := HC4.out
  clear HC4
  replace H := Option.bind_eq_some_iff.mp H
  obtain ⟨t104, A50, H⟩ := H
  replace H : (if t104 = true then (num_Do.j0 k a0 a1 a2 false) else ((num_IsUnary.f a0).bind fun t105 => (num_Do.j0 k a0 a1 a2 (!t105)))) = some (r1, r2) := H
  have A5 := Aside0.mk A50
  clear A50
  by_cases c6 : t104 = true
  ·subst c6
   have H1 : (num_Do.j0 k a0 a1 a2 false) = some (r1, r2) := by rw [if_pos rfl] at H; exact H
   clear H
   have H := H1
   clear H1
   have H' := Aside0.mk H
   clear H
   go_wp2_with (first | ((with_reducible refine gate_callee (f := 13) rfl ?_); refine goesL_ (some 10) rfl rfl Tryd.func13 (by kernel_rfl) rfl #[.int .i64 a0] rfl (by (try simp only [List.map_toArray, List.map_cons, List.map_nil]); first | done | rfl | (simp only [List.length_drop, List.length_take]; rfl)) ?_; (with_reducible refine (num_IsBinary.calls a0 true _ A5.out).mono ?_); rintro e w' ⟨rfl, ⟨nd, rfl⟩⟩; refine ⟨_, rfl, ?_⟩))
   go_meet
   case rel => exact ⟨_, (false), (by first | rfl | (simp; done) | (simp [*]; done)), H', ⟨by first | omega | exact Nat.le_refl _⟩, ⟨by repeat (first | (with_reducible first | exact HB.out | apply below_alloc | apply pw_below_drewN | apply below_drew1) | exact HB.out)⟩⟩
  ·replace c6 := Bool.eq_false_iff.mpr c6
   subst c6
   have H1 : ((num_IsUnary.f a0).bind fun t105 => (num_Do.j0 k a0 a1 a2 (!t105))) = some (r1, r2) := by rw [if_neg (show ¬ (false = true) by decide)] at H; exact H
   clear H
   have H := H1
   clear H1
   replace H := Option.bind_eq_some_iff.mp H
   obtain ⟨t105, A70, H⟩ := H
   replace H : (num_Do.j0 k a0 a1 a2 (!t105)) = some (r1, r2) := H
   have A7 := Aside0.mk A70
   clear A70
   have H' := Aside0.mk H
   clear H
   go_wp2_with (first | ((with_reducible refine gate_callee (f := 13) rfl ?_); refine goesL_ (some 10) rfl rfl Tryd.func13 (by kernel_rfl) rfl #[.int .i64 a0] rfl (by (try simp only [List.map_toArray, List.map_cons, List.map_nil]); first | done | rfl | (simp only [List.length_drop, List.length_take]; rfl)) ?_; (with_reducible refine (num_IsBinary.calls a0 false _ A5.out).mono ?_); rintro e w' ⟨rfl, ⟨nd, rfl⟩⟩; refine ⟨_, rfl, ?_⟩) | (go_at_call 14; (with_reducible refine (num_IsUnary.calls a0 t105 _ A7.out).mono ?_); rintro e w' ⟨rfl, ⟨nd, rfl⟩⟩))
   go_meet
   case rel => exact ⟨_, (!t105), (by first | rfl | (simp; done) | (simp [*]; done)), H', ⟨by first | omega | exact Nat.le_refl _⟩, ⟨by repeat (first | (with_reducible first | exact HB.out | apply below_alloc | apply pw_below_drewN | apply below_drew1) | exact HB.out)⟩⟩
 case rest =>
  clear HC4
  try clear c1
  try clear p2
  try clear c6
  obtain ⟨kq, x8_3, rfl, HA, HJ3, HB⟩ := hcut
  cases kq with
  | zero => exact absurd HA.out (by simp [num_Do.j0])
  | succ kj3 =>
   have H := HA.out
   clear HA
   simp only [num_Do.j0] at H
   by_cases c8 : x8_3 = true
   ·subst c8
    have H1 : (some (0, 9)) = some (r1, r2) := by rw [if_pos rfl] at H; exact H
    clear H
    have H := H1
    clear H1
    simp only [Option.some.injEq, Prod.mk.injEq] at H
    obtain ⟨rfl, rfl⟩ := H
    go_wp2
    go_ret2
    exact ⟨by first | rfl | (simp [errW_none, errW_some] <;> rfl) | (simp [*, errW_none, errW_some] <;> rfl), by repeat (first | (with_reducible first | exact HB.out | apply below_alloc | apply pw_below_drewN | apply below_drew1) | exact HB.out)⟩
   ·replace c8 := Bool.eq_false_iff.mpr c8
    subst c8
    have H1 : (if a0 = 9 then (num_Do.j1 kj3 a0 a1 a2 true) else (num_Do.j1 kj3 a0 a1 a2 (a0 == 10))) = some (r1, r2) := by rw [if_neg (show ¬ (false = true) by decide)] at H; exact H
    clear H
    have H := H1
    clear H1
    have HC9 := Aside0.mk H
    clear H
    go_upto_region 3 with (fail)
    go_cut [17] (fun v17 wc => ∃ (kq : Nat) (x17_8 : Bool), v17 = .bool x17_8 ∧ Aside0 (num_Do.j1 kq a0 a1 a2 x17_8 = some (r1, r2)) ∧ Aside0 (kq ≤ kj3) ∧ Aside0 (Below w.heap.size w wc))
    case first =>
     have H := HC9.out
     clear HC9
     by_cases c10 : a0 = 9
     ·rw [if_pos c10] at H
      have c10b0 : (a0 == 9) = true := beq_iff_eq.mpr c10
      have c10b1 : (a0 != 9) = false := bne_eq_false_iff_eq.mpr c10
      clear c10
      (first | rw [c10b0] | rw [c10b1] | rw [c10b4] | (simp only [i64_w, i32_w]; rw [c10b0]) | skip)
      have H' := Aside0.mk H
      clear H
      go_wp2
      go_meet
      case rel => exact ⟨_, (true), (by first | rfl | (simp; done) | (simp [*]; done)), H', ⟨by have := HJ3.out; first | omega | exact Nat.le_refl _⟩, ⟨by repeat (first | (with_reducible first | exact HB.out | apply below_alloc | apply pw_below_drewN | apply below_drew1) | exact HB.out)⟩⟩
     ·rw [if_neg c10] at H
      have c10b0 : (a0 == 9) = false := beq_eq_false_iff_ne.mpr c10
      have c10b1 : (a0 != 9) = true := bne_iff_ne.mpr c10
      (first | rw [c10b0] | rw [c10b1] | rw [c10b4] | (simp only [i64_w, i32_w]; rw [c10b0]) | skip)
      have H' := Aside0.mk H
      clear H
      go_wp2
      go_meet
      case rel => exact ⟨_, ((a0 == 10)), (by first | rfl | (simp; done) | (simp [*]; done)), H', ⟨by have := HJ3.out; first | omega | exact Nat.le_refl _⟩, ⟨by repeat (first | (with_reducible first | exact HB.out | apply below_alloc | apply pw_below_drewN | apply below_drew1) | exact HB.out)⟩⟩
    case rest =>
     clear HC9
     try clear c1
     try clear p2
     try clear c6
     try clear c8
     try clear c10
     try clear c10b0
     try clear c10b1
     try clear p2
     obtain ⟨kq, x17_8, rfl, HA, HJ8, HB⟩ := hcut
     cases kq with
     | zero => exact absurd HA.out (by simp [num_Do.j1])
     | succ kj8 =>
      have H := HA.out
      clear HA
      simp only [num_Do.j1] at H
      by_cases c11 : x17_8 = true
      ·subst c11
       have H1 : ((num_shift.f a0 a1 a2).bind fun bt106 => (some (bt106.1, bt106.2))) = some (r1, r2) := by rw [if_pos rfl] at H; exact H
       clear H
       have H := H1
       clear H1
       replace H := Option.bind_eq_some_iff.mp H
       obtain ⟨⟨t106, t107⟩, A120, H⟩ := H
       replace H : (some (t106, t107)) = some (r1, r2) := H
       have A12 := Aside0.mk A120
       clear A120
       simp only [Option.some.injEq, Prod.mk.injEq] at H
       obtain ⟨rfl, rfl⟩ := H
       go_wp2_with (first | ((with_reducible refine gate_callee (f := 25) rfl ?_); refine goesL_ (some 27) rfl rfl Tryd.func25 (by kernel_rfl) rfl #[.int .i64 a0, .int .i64 a1, .int .i64 a2] rfl (by (try simp only [List.map_toArray, List.map_cons, List.map_nil]); first | done | rfl | (simp only [List.length_drop, List.length_take]; rfl)) ?_; (with_reducible refine (num_shift.calls a0 a1 a2 t106 t107 _ A12.out).mono ?_); rintro e w13 ⟨rfl, hb⟩; refine ⟨_, rfl, ?_⟩; have n0_ := Aside0.mk (below_step (by repeat (first | (with_reducible first | exact HB.out | apply below_alloc | apply pw_below_drewN | apply below_drew1) | exact HB.out)) hb); clear HB; have HB := n0_; clear n0_; (try clear hb); (try clear hb2); (try clear hk); (try clear hi)))
       go_ret2
       exact ⟨by first | rfl | (simp [errW_none, errW_some] <;> rfl) | (simp [*, errW_none, errW_some] <;> rfl), by repeat (first | (with_reducible first | exact HB.out | apply below_alloc | apply pw_below_drewN | apply below_drew1) | exact HB.out)⟩
      ·replace c11 := Bool.eq_false_iff.mpr c11
       subst c11
       have H1 : (if a0 = 4 then (num_Do.j2 kj8 a0 a1 a2 true) else (num_Do.j2 kj8 a0 a1 a2 (a0 == 5))) = some (r1, r2) := by rw [if_neg (show ¬ (false = true) by decide)] at H; exact H
       clear H
       have H := H1
       clear H1
       have HC14 := Aside0.mk H
       clear H
       go_upto_region 5 with (fail)
       go_cut [30] (fun v30 wc => ∃ (kq : Nat) (x30_13 : Bool), v30 = .bool x30_13 ∧ Aside0 (num_Do.j2 kq a0 a1 a2 x30_13 = some (r1, r2)) ∧ Aside0 (kq ≤ kj8) ∧ Aside0 (Below w.heap.size w wc))
       case first =>
        have H := HC14.out
        clear HC14
        by_cases c15 : a0 = 4
        ·rw [if_pos c15] at H
         have c15b0 : (a0 == 4) = true := beq_iff_eq.mpr c15
         have c15b1 : (a0 != 4) = false := bne_eq_false_iff_eq.mpr c15
         clear c15
         (first | rw [c15b0] | rw [c15b1] | rw [c15b4] | (simp only [i64_w, i32_w]; rw [c15b0]) | skip)
         have H' := Aside0.mk H
         clear H
         go_wp2
         go_meet
         case rel => exact ⟨_, (true), (by first | rfl | (simp; done) | (simp [*]; done)), H', ⟨by have := HJ3.out; have := HJ8.out; first | omega | exact Nat.le_refl _⟩, ⟨by repeat (first | (with_reducible first | exact HB.out | apply below_alloc | apply pw_below_drewN | apply below_drew1) | exact HB.out)⟩⟩
        ·rw [if_neg c15] at H
         have c15b0 : (a0 == 4) = false := beq_eq_false_iff_ne.mpr c15
         have c15b1 : (a0 != 4) = true := bne_iff_ne.mpr c15
         (first | rw [c15b0] | rw [c15b1] | rw [c15b4] | (simp only [i64_w, i32_w]; rw [c15b0]) | skip)
         have H' := Aside0.mk H
         clear H
         go_wp2
         go_meet
         case rel => exact ⟨_, ((a0 == 5)), (by first | rfl | (simp; done) | (simp [*]; done)), H', ⟨by have := HJ3.out; have := HJ8.out; first | omega | exact Nat.le_refl _⟩, ⟨by repeat (first | (with_reducible first | exact HB.out | apply below_alloc | apply pw_below_drewN | apply below_drew1) | exact HB.out)⟩⟩
       case rest =>
        clear HC14
        try clear c1
        try clear c2
        try clear p2
        try clear c6
        try clear c8
        try clear c10
        try clear c10b0
        try clear c10b1
        try clear c11
        try clear c13
        try clear c15
        try clear c15b0
        try clear c15b1
        try clear p2
        obtain ⟨kq, x30_13, rfl, HA, HJ13, HB⟩ := hcut
        cases kq with
        | zero => exact absurd HA.out (by simp [num_Do.j2])
        | succ kj13 =>
         have H := HA.out
         clear HA
         simp only [num_Do.j2] at H
         by_cases c16 : x30_13 = true
         ·subst c16
          have H1 : ((num_divide.f a0 a1 a2).bind fun bt108 => (some (bt108.1, bt108.2))) = some (r1, r2) := by rw [if_pos rfl] at H; exact H
          clear H
          have H := H1
          clear H1
          replace H := Option.bind_eq_some_iff.mp H
          obtain ⟨⟨t108, t109⟩, A170, H⟩ := H
          replace H : (some (t108, t109)) = some (r1, r2) := H
          have A17 := Aside0.mk A170
          clear A170
          simp only [Option.some.injEq, Prod.mk.injEq] at H
          obtain ⟨rfl, rfl⟩ := H
          go_wp2_with (first | ((with_reducible refine gate_callee (f := 26) rfl ?_); refine goesL_ (some 40) rfl rfl Tryd.func26 (by kernel_rfl) rfl #[.int .i64 a0, .int .i64 a1, .int .i64 a2] rfl (by (try simp only [List.map_toArray, List.map_cons, List.map_nil]); first | done | rfl | (simp only [List.length_drop, List.length_take]; rfl)) ?_; (with_reducible refine (num_divide.calls a0 a1 a2 t108 t109 _ A17.out).mono ?_); rintro e w' ⟨rfl, ⟨nd, rfl⟩⟩; refine ⟨_, rfl, ?_⟩))
          go_ret2
          exact ⟨by first | rfl | (simp [errW_none, errW_some] <;> rfl) | (simp [*, errW_none, errW_some] <;> rfl), by repeat (first | (with_reducible first | exact HB.out | apply below_alloc | apply pw_below_drewN | apply below_drew1) | exact HB.out)⟩
         ·replace c16 := Bool.eq_false_iff.mpr c16
          subst c16
          have H1 : ((num_plain.f a0 a1 a2).bind fun t110 => (some (t110, 0))) = some (r1, r2) := by rw [if_neg (show ¬ (false = true) by decide)] at H; exact H
          clear H
          have H := H1
          clear H1
          replace H := Option.bind_eq_some_iff.mp H
          obtain ⟨t110, A180, H⟩ := H
          replace H : (some (t110, 0)) = some (r1, r2) := H
          have A18 := Aside0.mk A180
          clear A180
          simp only [Option.some.injEq, Prod.mk.injEq] at H
          obtain ⟨rfl, rfl⟩ := H
          go_wp2_with (first | ((with_reducible refine gate_callee (f := 27) rfl ?_); refine goesL_ (some 46) rfl rfl Tryd.func27 (by kernel_rfl) rfl #[.int .i64 a0, .int .i64 a1, .int .i64 a2] rfl (by (try simp only [List.map_toArray, List.map_cons, List.map_nil]); first | done | rfl | (simp only [List.length_drop, List.length_take]; rfl)) ?_; (with_reducible refine (num_plain.calls a0 a1 a2 t110 _ A18.out).mono ?_); rintro e w' ⟨rfl, ⟨nd, rfl⟩⟩; refine ⟨_, rfl, ?_⟩))
          go_ret2
          exact ⟨by first | rfl | (simp [errW_none, errW_some] <;> rfl) | (simp [*, errW_none, errW_some] <;> rfl), by repeat (first | (with_reducible first | exact HB.out | apply below_alloc | apply pw_below_drewN | apply below_drew1) | exact HB.out)⟩
/-! ### num_signs: function 38 -/
def num_signs.f  : Option (List ByteArray) := some (([(⟨#[]⟩ : ByteArray), (⟨#[43]⟩ : ByteArray), (⟨#[45]⟩ : ByteArray), (⟨#[42]⟩ : ByteArray), (⟨#[47]⟩ : ByteArray), (⟨#[37]⟩ : ByteArray), (⟨#[38]⟩ : ByteArray), (⟨#[124]⟩ : ByteArray), (⟨#[94]⟩ : ByteArray), (⟨#[60, 60]⟩ : ByteArray), (⟨#[62, 62]⟩ : ByteArray), (⟨#[61, 61]⟩ : ByteArray), (⟨#[33, 61]⟩ : ByteArray), (⟨#[60]⟩ : ByteArray), (⟨#[60, 61]⟩ : ByteArray), (⟨#[62]⟩ : ByteArray), (⟨#[62, 61]⟩ : ByteArray), (⟨#[45]⟩ : ByteArray), (⟨#[33]⟩ : ByteArray)] : List ByteArray))
set_option maxHeartbeats 8000000 in
set_option maxRecDepth 100000 in
theorem num_signs.calls  (r : List ByteArray) (w : World) (h : num_signs.f  = some r) :
  Calls Tryd.prog 38 #[] w fun e w' => ∃ v0_ : Value, e = .returned (v0_) ∧ Kd.R Kd.string 9 w' w.heap.size (fun _ => True) v0_ r ∧ Below w.heap.size w w' := by
 have HB := Aside0.mk (Below.refl w.heap.size w)
 have H : (some (([(⟨#[]⟩ : ByteArray), (⟨#[43]⟩ : ByteArray), (⟨#[45]⟩ : ByteArray), (⟨#[42]⟩ : ByteArray), (⟨#[47]⟩ : ByteArray), (⟨#[37]⟩ : ByteArray), (⟨#[38]⟩ : ByteArray), (⟨#[124]⟩ : ByteArray), (⟨#[94]⟩ : ByteArray), (⟨#[60, 60]⟩ : ByteArray), (⟨#[62, 62]⟩ : ByteArray), (⟨#[61, 61]⟩ : ByteArray), (⟨#[33, 61]⟩ : ByteArray), (⟨#[60]⟩ : ByteArray), (⟨#[60, 61]⟩ : ByteArray), (⟨#[62]⟩ : ByteArray), (⟨#[62, 61]⟩ : ByteArray), (⟨#[45]⟩ : ByteArray), (⟨#[33]⟩ : ByteArray)] : List ByteArray))) = some r := h
 clear h
 obtain ⟨y111, hy111⟩ : ∃ y_ : List ByteArray, y_ = (([(⟨#[]⟩ : ByteArray), (⟨#[43]⟩ : ByteArray), (⟨#[45]⟩ : ByteArray), (⟨#[42]⟩ : ByteArray), (⟨#[47]⟩ : ByteArray), (⟨#[37]⟩ : ByteArray), (⟨#[38]⟩ : ByteArray), (⟨#[124]⟩ : ByteArray), (⟨#[94]⟩ : ByteArray), (⟨#[60, 60]⟩ : ByteArray), (⟨#[62, 62]⟩ : ByteArray), (⟨#[61, 61]⟩ : ByteArray), (⟨#[33, 61]⟩ : ByteArray), (⟨#[60]⟩ : ByteArray), (⟨#[60, 61]⟩ : ByteArray), (⟨#[62]⟩ : ByteArray), (⟨#[62, 61]⟩ : ByteArray), (⟨#[45]⟩ : ByteArray), (⟨#[33]⟩ : ByteArray)] : List ByteArray)) := ⟨_, rfl⟩
 replace H : (some y111) = some r := by first | (rw [hy111]; with_reducible exact H) | (have H2_ := (Option.bind_some _ _).symm.trans H; rw [hy111]; with_reducible exact H2_) | (have H2_ := (Option.bind_some _ _).symm.trans H; with_reducible exact H2_) | with_reducible exact H | (rw [hy111]; exact H) | exact H
 have Ny111 := Aside0.mk hy111
 clear hy111
 obtain rfl := Option.some.inj H
 go_enter Tryd.func38, Tryd.ntmps38
 go_wp2_with (first | ((with_reducible refine gate_dst (N := 1) rfl ?_); refine Kd.R_lit Kd.string _ 9 ?hg (N := 1) ?hd (xs := ([(⟨#[]⟩ : ByteArray), (⟨#[43]⟩ : ByteArray), (⟨#[45]⟩ : ByteArray), (⟨#[42]⟩ : ByteArray), (⟨#[47]⟩ : ByteArray), (⟨#[37]⟩ : ByteArray), (⟨#[38]⟩ : ByteArray), (⟨#[124]⟩ : ByteArray), (⟨#[94]⟩ : ByteArray), (⟨#[60, 60]⟩ : ByteArray), (⟨#[62, 62]⟩ : ByteArray), (⟨#[61, 61]⟩ : ByteArray), (⟨#[33, 61]⟩ : ByteArray), (⟨#[60]⟩ : ByteArray), (⟨#[60, 61]⟩ : ByteArray), (⟨#[62]⟩ : ByteArray), (⟨#[62, 61]⟩ : ByteArray), (⟨#[45]⟩ : ByteArray), (⟨#[33]⟩ : ByteArray)] : List ByteArray)) (inner := [.string (⟨#[]⟩ : ByteArray), .string (⟨#[43]⟩ : ByteArray), .string (⟨#[45]⟩ : ByteArray), .string (⟨#[42]⟩ : ByteArray), .string (⟨#[47]⟩ : ByteArray), .string (⟨#[37]⟩ : ByteArray), .string (⟨#[38]⟩ : ByteArray), .string (⟨#[124]⟩ : ByteArray), .string (⟨#[94]⟩ : ByteArray), .string (⟨#[60, 60]⟩ : ByteArray), .string (⟨#[62, 62]⟩ : ByteArray), .string (⟨#[61, 61]⟩ : ByteArray), .string (⟨#[33, 61]⟩ : ByteArray), .string (⟨#[60]⟩ : ByteArray), .string (⟨#[60, 61]⟩ : ByteArray), .string (⟨#[62]⟩ : ByteArray), .string (⟨#[62, 61]⟩ : ByteArray), .string (⟨#[45]⟩ : ByteArray), .string (⟨#[33]⟩ : ByteArray)]) (ok := fun _ => True) (okp := fun _ => True) ?hr ?hp (fun _ hk => hk) trivial (Below.refl _ _) (Nat.le_refl _) (by simp) ?_; (case hd => rfl); (case hg => rfl); (case hr => first | (go_simp; done) | (go_simp; rfl)); (case hp => exact (Reps.one (show Kd.M Kd.string _ _ _ (⟨#[]⟩ : ByteArray) [.string (⟨#[]⟩ : ByteArray)] from rfl) (Reps.one (show Kd.M Kd.string _ _ _ (⟨#[43]⟩ : ByteArray) [.string (⟨#[43]⟩ : ByteArray)] from rfl) (Reps.one (show Kd.M Kd.string _ _ _ (⟨#[45]⟩ : ByteArray) [.string (⟨#[45]⟩ : ByteArray)] from rfl) (Reps.one (show Kd.M Kd.string _ _ _ (⟨#[42]⟩ : ByteArray) [.string (⟨#[42]⟩ : ByteArray)] from rfl) (Reps.one (show Kd.M Kd.string _ _ _ (⟨#[47]⟩ : ByteArray) [.string (⟨#[47]⟩ : ByteArray)] from rfl) (Reps.one (show Kd.M Kd.string _ _ _ (⟨#[37]⟩ : ByteArray) [.string (⟨#[37]⟩ : ByteArray)] from rfl) (Reps.one (show Kd.M Kd.string _ _ _ (⟨#[38]⟩ : ByteArray) [.string (⟨#[38]⟩ : ByteArray)] from rfl) (Reps.one (show Kd.M Kd.string _ _ _ (⟨#[124]⟩ : ByteArray) [.string (⟨#[124]⟩ : ByteArray)] from rfl) (Reps.one (show Kd.M Kd.string _ _ _ (⟨#[94]⟩ : ByteArray) [.string (⟨#[94]⟩ : ByteArray)] from rfl) (Reps.one (show Kd.M Kd.string _ _ _ (⟨#[60, 60]⟩ : ByteArray) [.string (⟨#[60, 60]⟩ : ByteArray)] from rfl) (Reps.one (show Kd.M Kd.string _ _ _ (⟨#[62, 62]⟩ : ByteArray) [.string (⟨#[62, 62]⟩ : ByteArray)] from rfl) (Reps.one (show Kd.M Kd.string _ _ _ (⟨#[61, 61]⟩ : ByteArray) [.string (⟨#[61, 61]⟩ : ByteArray)] from rfl) (Reps.one (show Kd.M Kd.string _ _ _ (⟨#[33, 61]⟩ : ByteArray) [.string (⟨#[33, 61]⟩ : ByteArray)] from rfl) (Reps.one (show Kd.M Kd.string _ _ _ (⟨#[60]⟩ : ByteArray) [.string (⟨#[60]⟩ : ByteArray)] from rfl) (Reps.one (show Kd.M Kd.string _ _ _ (⟨#[60, 61]⟩ : ByteArray) [.string (⟨#[60, 61]⟩ : ByteArray)] from rfl) (Reps.one (show Kd.M Kd.string _ _ _ (⟨#[62]⟩ : ByteArray) [.string (⟨#[62]⟩ : ByteArray)] from rfl) (Reps.one (show Kd.M Kd.string _ _ _ (⟨#[62, 61]⟩ : ByteArray) [.string (⟨#[62, 61]⟩ : ByteArray)] from rfl) (Reps.one (show Kd.M Kd.string _ _ _ (⟨#[45]⟩ : ByteArray) [.string (⟨#[45]⟩ : ByteArray)] from rfl) (Reps.one (show Kd.M Kd.string _ _ _ (⟨#[33]⟩ : ByteArray) [.string (⟨#[33]⟩ : ByteArray)] from rfl) (Reps.none _ _))))))))))))))))))))); intro v112 w1 ho2 hb hg_ hnew_; clear hg_ hnew_; (first | rw [← Ny111.out] at ho2 | (simp only [Int.reduceToNat] at ho2; rw [← Ny111.out] at ho2)); have n0_ := Aside0.mk (Kd.R_lower ho2 (below_size (by repeat (first | (with_reducible first | exact HB.out | apply below_alloc | apply pw_below_drewN | apply below_drew1) | exact HB.out)))); have n1_ := Aside0.mk (below_step (by repeat (first | (with_reducible first | exact HB.out | apply below_alloc | apply pw_below_drewN | apply below_drew1) | exact HB.out)) hb); clear HB; have HO113 := n0_; have HB := n1_; clear n0_ n1_; clear hb ho2))
 go_ret
 exact ⟨_, by first | rfl | (simp [errW_none, errW_some] <;> rfl) | (simp [*, errW_none, errW_some] <;> rfl), by (with_reducible repeat (first | apply Kd.R_alloc | apply Kd.R_drewN | apply Kd.R_drew)); exact HO113.out, by repeat (first | (with_reducible first | exact HB.out | apply below_alloc | apply pw_below_drewN | apply below_drew1) | exact HB.out)⟩
/-! ### slices_Index_string_string: function 39 -/
def slices_Index_string_string.l0 : Nat → List ByteArray → ByteArray → Int → Int → Option (Int)
 | 0, _, _, _, _ => none
 | k + 1, x0, x1, x7, x8 => if x8 < x7 then (if 0 ≤ x8 then (if x8 < (x0.length : Int) then (if x1.toList = (rdOf ByteArray.empty x0 x8).toList then (some x8) else (slices_Index_string_string.l0 k x0 x1 x7 (wrap64 (x8 + 1)))) else (none)) else (none)) else (some (-1))
def slices_Index_string_string.f (k : Nat) (l0 : List ByteArray) (a1 : ByteArray) : Option (Int) := slices_Index_string_string.l0 k l0 a1 (l0.length : Int) 0
theorem slices_Index_string_string.mono_l : ∀ k, (∀ y0 y1 y2 y3, LeO (slices_Index_string_string.l0 k y0 y1 y2 y3) (slices_Index_string_string.l0 (k + 1) y0 y1 y2 y3))
 | 0 => fun _ _ _ _ r h => by simp [slices_Index_string_string.l0] at h
 | k + 1 => by
  have ih0 := slices_Index_string_string.mono_l k
  ·intro y0 y1 y2 y3
   unfold slices_Index_string_string.l0
   repeat' first
   | (with_reducible exact ih0 _ _ _ _)
   | (with_reducible exact LeO.refl _)
   | (with_reducible exact LeO.none _)
   | (with_reducible refine LeO.ite ?_ ?_)
   | (with_reducible refine LeO.bind ?_ (fun _ => ?_))
   | exact ih0 _ _ _ _
   | exact LeO.none _
   | refine LeO.ite ?_ ?_
   | refine LeO.bind ?_ (fun _ => ?_)
theorem slices_Index_string_string.mono : ∀ a0 a1 k, LeO (slices_Index_string_string.f k a0 a1) (slices_Index_string_string.f (k + 1) a0 a1) := by
 intro a0 a1 k
 have ih0 := slices_Index_string_string.mono_l k
 unfold slices_Index_string_string.f
 repeat' first
   | (with_reducible exact ih0 _ _ _ _)
   | (with_reducible exact LeO.refl _)
   | (with_reducible exact LeO.none _)
   | (with_reducible refine LeO.ite ?_ ?_)
   | (with_reducible refine LeO.bind ?_ (fun _ => ?_))
   | exact ih0 _ _ _ _
   | exact LeO.none _
   | refine LeO.ite ?_ ?_
   | refine LeO.bind ?_ (fun _ => ?_)
set_option maxHeartbeats 8000000 in
set_option maxRecDepth 100000 in
theorem slices_Index_string_string.calls (k : Nat) (A0 : Option Addr) (c0 : Nat) (l0 : List ByteArray) (a1 : ByteArray) (r : Int) (w : World) (hr0 : Kd.C Kd.string w A0 l0.length l0) (hc0 : l0.length ≤ c0) (h : slices_Index_string_string.f k l0 a1 = some r) :
  Calls Tryd.prog 39 #[.slice A0 l0.length c0, .string a1] w fun e w' => e = .returned (.int .i64 r) ∧ Drawn0 w w' := by
 have HR0 := Aside0.mk hr0
 have HC0 := Aside0.mk hc0
 clear hr0 hc0
 have H : (slices_Index_string_string.l0 k l0 a1 (l0.length : Int) 0) = some r := h
 clear h
 have H' := Aside0.mk H
 clear H
 go_enter Tryd.func39, Tryd.ntmps39
 go_wp2
 go_loopg [8] k (fun kq v8 w' => ∃ (x8_1 : Int), v8 = .int .i64 x8_1 ∧ Aside0 (slices_Index_string_string.l0 kq l0 a1 (l0.length : Int) x8_1 = some r) ∧ Aside0 (kq ≤ k) ∧ Drawn0 w w')
 case atStart => exact ⟨(0), (by first | rfl | (simp; done) | (simp [*]; done)), H', ⟨Nat.le_refl _⟩, by repeat (first | exact Drawn0.refl _ | apply Drawn0.step)⟩
 case round =>
  clear H'
  try clear p2
  obtain ⟨x8_1, rfl, HA, HK1, ⟨m1, rfl⟩⟩ := hrel
  cases gk with
  | zero => exact absurd HA.out (by simp [slices_Index_string_string.l0])
  | succ k1 =>
   have H := HA.out
   clear HA
   simp only [slices_Index_string_string.l0] at H
   by_cases c3 : x8_1 < (l0.length : Int)
   ·rw [if_pos c3] at H
    have c3b0 : decide (x8_1 < (l0.length : Int)) = true := decide_eq_true c3
    clear c3
    by_cases c4 : 0 ≤ x8_1
    ·rw [if_pos c4] at H
     have c4b0 : decide (0 ≤ x8_1) = true := decide_eq_true c4
     clear c4
     by_cases c5 : x8_1 < (l0.length : Int)
     ·rw [if_pos c5] at H
      have c5b0 : decide (x8_1 < (l0.length : Int)) = true := decide_eq_true c5
      clear c5
      by_cases c6 : a1.toList = (rdOf ByteArray.empty l0 x8_1).toList
      ·rw [if_pos c6] at H
       have c6b0 : (a1.toList == (rdOf ByteArray.empty l0 x8_1).toList) = true := beq_iff_eq.mpr c6
       have c6b1 : (a1.toList != (rdOf ByteArray.empty l0 x8_1).toList) = false := bne_eq_false_iff_eq.mpr c6
       clear c6
       obtain rfl := Option.some.inj H
       have p114 : 0 ≤ (x8_1 : Int) := of_decide_eq_true (by first | (with_reducible assumption) | assumption)
       have q114 : x8_1 < (l0.length : Int) := of_decide_eq_true (by first | (with_reducible assumption) | assumption)
       obtain ⟨ad114, e114, hx114_0⟩ := Kd.at_string HR0.out x8_1 p114 q114
       cases e114
       replace p114 := eq_true p114
       replace q114 := eq_true q114
       go_wp2
       go_ret
       exact ⟨by first | rfl | (simp; done) | (simp [*]; done), by repeat (first | exact Drawn0.refl _ | apply Drawn0.step)⟩
      ·rw [if_neg c6] at H
       have c6b0 : (a1.toList == (rdOf ByteArray.empty l0 x8_1).toList) = false := beq_eq_false_iff_ne.mpr c6
       have c6b1 : (a1.toList != (rdOf ByteArray.empty l0 x8_1).toList) = true := bne_iff_ne.mpr c6
       have H' := Aside0.mk H
       clear H
       have p114 : 0 ≤ (x8_1 : Int) := of_decide_eq_true (by first | (with_reducible assumption) | assumption)
       have q114 : x8_1 < (l0.length : Int) := of_decide_eq_true (by first | (with_reducible assumption) | assumption)
       obtain ⟨ad114, e114, hx114_0⟩ := Kd.at_string HR0.out x8_1 p114 q114
       cases e114
       replace p114 := eq_true p114
       replace q114 := eq_true q114
       go_wp2
       go_roundg k1
       case measure => have := HK1.out; omega
       case rel => exact ⟨(wrap64 (x8_1 + 1)), (by first | rfl | (simp; done) | (simp [*]; done)), H', ⟨by have := HK1.out; omega⟩, by repeat (first | exact Drawn0.refl _ | apply Drawn0.step)⟩
     ·rw [if_neg c5] at H
      exact absurd H (by simp)
    ·rw [if_neg c4] at H
     exact absurd H (by simp)
   ·rw [if_neg c3] at H
    have c3b0 : decide (x8_1 < (l0.length : Int)) = false := decide_eq_false c3
    clear c3
    obtain rfl := Option.some.inj H
    go_wp2
    go_ret
    exact ⟨by first | rfl | (simp; done) | (simp [*]; done), by repeat (first | exact Drawn0.refl _ | apply Drawn0.step)⟩
/-! ### num_Signed: function 16 -/
def num_Signed.j0 : Nat → ByteArray → Int → List ByteArray → Bool → Option (Int × Bool)
 | 0, _, _, _, _ => none
 | k + 1, x0, x1, x6, x10 => if x10 = true then (some (0, false)) else (if x1 = 2 then (if 17 ≤ (x6.length : Int) then ((slices_Index_string_string.f k (x6.take 17) x0).bind fun t122 => (some (mx t122 0, decide (t122 > 0)))) else (none)) else (if 17 ≤ (x6.length : Int) then ((slices_Index_string_string.f k (x6.drop 17) x0).bind fun t127 => (if t127 < 0 then (some (0, false)) else (some (wrap64 (t127 + 17), true)))) else (none)))
def num_Signed.f (k : Nat) (a0 : ByteArray) (a1 : Int) : Option (Int × Bool) := (num_signs.f).bind fun t115 => (if a0.toList = ([] : List UInt8) then (num_Signed.j0 k a0 a1 t115 true) else (if a1 < 1 then (num_Signed.j0 k a0 a1 t115 true) else (num_Signed.j0 k a0 a1 t115 (decide (a1 > 2)))))
theorem num_Signed.mono_l : ∀ k, (∀ y0 y1 y2 y3, LeO (num_Signed.j0 k y0 y1 y2 y3) (num_Signed.j0 (k + 1) y0 y1 y2 y3))
 | 0 => fun _ _ _ _ r h => by simp [num_Signed.j0] at h
 | k + 1 => by
  have ih0 := num_Signed.mono_l k
  ·intro y0 y1 y2 y3
   unfold num_Signed.j0
   repeat' first
   | (with_reducible exact ih0 _ _ _ _)
   | (with_reducible exact slices_Index_string_string.mono _ _ _)
   | (with_reducible exact LeO.refl _)
   | (with_reducible exact LeO.none _)
   | (with_reducible refine LeO.ite ?_ ?_)
   | (with_reducible refine LeO.bind ?_ (fun _ => ?_))
   | exact ih0 _ _ _ _
   | exact slices_Index_string_string.mono _ _ _
   | exact LeO.none _
   | refine LeO.ite ?_ ?_
   | refine LeO.bind ?_ (fun _ => ?_)
theorem num_Signed.mono : ∀ a0 a1 k, LeO (num_Signed.f k a0 a1) (num_Signed.f (k + 1) a0 a1) := by
 intro a0 a1 k
 have ih0 := num_Signed.mono_l k
 unfold num_Signed.f
 repeat' first
   | (with_reducible exact ih0 _ _ _ _)
   | (with_reducible exact slices_Index_string_string.mono _ _ _)
   | (with_reducible exact LeO.refl _)
   | (with_reducible exact LeO.none _)
   | (with_reducible refine LeO.ite ?_ ?_)
   | (with_reducible refine LeO.bind ?_ (fun _ => ?_))
   | exact ih0 _ _ _ _
   | exact slices_Index_string_string.mono _ _ _
   | exact LeO.none _
   | refine LeO.ite ?_ ?_
   | refine LeO.bind ?_ (fun _ => ?_)
set_option maxHeartbeats 8000000 in
set_option maxRecDepth 100000 in
theorem num_Signed.calls (k : Nat) (a0 : ByteArray) (a1 : Int) (r1 : Int) (r2 : Bool) (w : World) (h : num_Signed.f k a0 a1 = some (r1, r2)) :
  Calls Tryd.prog 16 #[.string a0, .int .i64 a1] w fun e w' => e = .returned (.tuple #[.int .i64 r1, .bool r2]) ∧ Below w.heap.size w w' := by
 have HB := Aside0.mk (Below.refl w.heap.size w)
 have H : ((num_signs.f).bind fun t115 => (if a0.toList = ([] : List UInt8) then (num_Signed.j0 k a0 a1 t115 true) else (if a1 < 1 then (num_Signed.j0 k a0 a1 t115 true) else (num_Signed.j0 k a0 a1 t115 (decide (a1 > 2)))))) = some (r1, r2) := h
 clear h
 replace H := Option.bind_eq_some_iff.mp H
 obtain ⟨t115, A30, H⟩ := H
 replace H : (if a0.toList = ([] : List UInt8) then (num_Signed.j0 k a0 a1 t115 true) else (if a1 < 1 then (num_Signed.j0 k a0 a1 t115 true) else (num_Signed.j0 k a0 a1 t115 (decide (a1 > 2))))) = some (r1, r2) := H
 have A3 := Aside0.mk A30
 clear A30
 have HC4 := Aside0.mk H
 clear H
 go_enter Tryd.func16, Tryd.ntmps16
 go_upto_region 2 with (first | ((with_reducible refine gate_callee (f := 38) rfl ?_); refine goesL_ (some 9) rfl rfl Tryd.func38 (by kernel_rfl) rfl #[] rfl (by (try simp only [List.map_toArray, List.map_cons, List.map_nil]); first | done | rfl | (simp only [List.length_drop, List.length_take]; rfl)) ?_; (with_reducible refine (num_signs.calls  t115 _ A3.out).mono ?_); rintro e w5 ⟨v116, rfl, ho0, hb⟩; refine ⟨_, rfl, ?_⟩; have n0_ := Aside0.mk (Kd.R_lower ho0 (below_size (by repeat (first | (with_reducible first | exact HB.out | apply below_alloc | apply pw_below_drewN | apply below_drew1) | exact HB.out)))); have n1_ := Aside0.mk (below_step (by repeat (first | (with_reducible first | exact HB.out | apply below_alloc | apply pw_below_drewN | apply below_drew1) | exact HB.out)) hb); clear HB; have HO117 := n0_; have HB := n1_; clear n0_ n1_; (try clear hb); (try clear hb2); (try clear hk); (try clear hi); (try clear ho0)))
 (try simp only [Act.put, List.setIfInBounds_toArray, List.set_cons_zero, List.set_cons_succ])
 go_cut [10] (fun v10 wc => ∃ (kq : Nat) (x10_3 : Bool), v10 = .bool x10_3 ∧ Aside0 (num_Signed.j0 kq a0 a1 t115 x10_3 = some (r1, r2)) ∧ Aside0 (kq ≤ k) ∧ Aside0 (Kd.R Kd.string 9 wc w.heap.size (fun _ => True) v116 t115) ∧ Aside0 (Below w.heap.size w wc))
 case first =>
  have H := HC4.out
  clear HC4
  by_cases c6 : a0.toList = ([] : List UInt8)
  ·rw [if_pos c6] at H
   have c6b0 : (a0.toList == ([] : List UInt8)) = true := beq_iff_eq.mpr c6
   try have c6b4 : (!(a0).toList.isEmpty) = false := by simpa using c6b0
   have c6b1 : (a0.toList != ([] : List UInt8)) = false := bne_eq_false_iff_eq.mpr c6
   clear c6
   (first | rw [c6b0] | rw [c6b1] | rw [c6b4] | (simp only [i64_w, i32_w]; rw [c6b0]) | skip)
   have H' := Aside0.mk H
   clear H
   go_wp2
   go_meet
   case rel => exact ⟨_, (true), (by first | rfl | (simp; done) | (simp [*]; done)), H', ⟨by first | omega | exact Nat.le_refl _⟩, ⟨by (with_reducible repeat (first | apply Kd.R_alloc | apply Kd.R_drewN | apply Kd.R_drew)); exact HO117.out⟩, ⟨by repeat (first | (with_reducible first | exact HB.out | apply below_alloc | apply pw_below_drewN | apply below_drew1) | exact HB.out)⟩⟩
  ·rw [if_neg c6] at H
   have c6b0 : (a0.toList == ([] : List UInt8)) = false := beq_eq_false_iff_ne.mpr c6
   try have c6b4 : (!(a0).toList.isEmpty) = true := by simpa using c6b0
   have c6b1 : (a0.toList != ([] : List UInt8)) = true := bne_iff_ne.mpr c6
   (first | rw [c6b0] | rw [c6b1] | rw [c6b4] | (simp only [i64_w, i32_w]; rw [c6b0]) | skip)
   by_cases c7 : a1 < 1
   ·rw [if_pos c7] at H
    have c7b0 : decide (a1 < 1) = true := decide_eq_true c7
    clear c7
    have H' := Aside0.mk H
    clear H
    go_wp2
    go_meet
    case rel => exact ⟨_, (true), (by first | rfl | (simp; done) | (simp [*]; done)), H', ⟨by first | omega | exact Nat.le_refl _⟩, ⟨by (with_reducible repeat (first | apply Kd.R_alloc | apply Kd.R_drewN | apply Kd.R_drew)); exact HO117.out⟩, ⟨by repeat (first | (with_reducible first | exact HB.out | apply below_alloc | apply pw_below_drewN | apply below_drew1) | exact HB.out)⟩⟩
   ·rw [if_neg c7] at H
    have c7b0 : decide (a1 < 1) = false := decide_eq_false c7
    clear c7
    have H' := Aside0.mk H
    clear H
    go_wp2
    go_meet
    case rel => exact ⟨_, (decide (a1 > 2)), (by first | rfl | (simp; done) | (simp [*]; done)), H', ⟨by first | omega | exact Nat.le_refl _⟩, ⟨by (with_reducible repeat (first | apply Kd.R_alloc | apply Kd.R_drewN | apply Kd.R_drew)); exact HO117.out⟩, ⟨by repeat (first | (with_reducible first | exact HB.out | apply below_alloc | apply pw_below_drewN | apply below_drew1) | exact HB.out)⟩⟩
 case rest =>
  clear HC4
  try clear c1
  try clear p2
  try clear c3
  try clear c6
  try clear c6b0
  try clear c6b1
  try clear c7
  try clear c7b0
  obtain ⟨kq, x10_3, rfl, HA, HJ3, HO_6, HB⟩ := hcut
  cases kq with
  | zero => exact absurd HA.out (by simp [num_Signed.j0])
  | succ kj3 =>
   have H := HA.out
   clear HA
   simp only [num_Signed.j0] at H
   by_cases c8 : x10_3 = true
   ·subst c8
    have H1 : (some (0, false)) = some (r1, r2) := by rw [if_pos rfl] at H; exact H
    clear H
    have H := H1
    clear H1
    simp only [Option.some.injEq, Prod.mk.injEq] at H
    obtain ⟨rfl, rfl⟩ := H
    go_wp2
    go_ret2
    exact ⟨by first | rfl | (simp [errW_none, errW_some] <;> rfl) | (simp [*, errW_none, errW_some] <;> rfl), by repeat (first | (with_reducible first | exact HB.out | apply below_alloc | apply pw_below_drewN | apply below_drew1) | exact HB.out)⟩
   ·replace c8 := Bool.eq_false_iff.mpr c8
    subst c8
    have H1 : (if a1 = 2 then (if 17 ≤ (t115.length : Int) then ((slices_Index_string_string.f kj3 (t115.take 17) a0).bind fun t122 => (some (mx t122 0, decide (t122 > 0)))) else (none)) else (if 17 ≤ (t115.length : Int) then ((slices_Index_string_string.f kj3 (t115.drop 17) a0).bind fun t127 => (if t127 < 0 then (some (0, false)) else (some (wrap64 (t127 + 17), true)))) else (none))) = some (r1, r2) := by rw [if_neg (show ¬ (false = true) by decide)] at H; exact H
    clear H
    have H := H1
    clear H1
    by_cases c9 : a1 = 2
    ·rw [if_pos c9] at H
     have c9b0 : (a1 == 2) = true := beq_iff_eq.mpr c9
     have c9b1 : (a1 != 2) = false := bne_eq_false_iff_eq.mpr c9
     clear c9
     by_cases c10 : 17 ≤ (t115.length : Int)
     ·rw [if_pos c10] at H
      have c10b0 := eq_true c10
      have c10b1 : decide (17 ≤ (t115.length : Int)) = true := decide_eq_true c10
      clear c10
      obtain ⟨y118, hy118⟩ : ∃ y_ : List ByteArray, y_ = (t115.take 17) := ⟨_, rfl⟩
      replace H : ((slices_Index_string_string.f kj3 y118 a0).bind fun t122 => (some (mx t122 0, decide (t122 > 0)))) = some (r1, r2) := by first | (rw [hy118]; with_reducible exact H) | (have H2_ := (Option.bind_some _ _).symm.trans H; rw [hy118]; with_reducible exact H2_) | (have H2_ := (Option.bind_some _ _).symm.trans H; with_reducible exact H2_) | with_reducible exact H | (rw [hy118]; exact H) | exact H
      have Ny118 := Aside0.mk hy118
      clear hy118
      replace H := Option.bind_eq_some_iff.mp H
      obtain ⟨t122, A110, H⟩ := H
      replace H : (some (mx t122 0, decide (t122 > 0))) = some (r1, r2) := H
      have A11 := Aside0.mk A110
      clear A110
      obtain ⟨ji12, hji12⟩ : ∃ j_ : Int, (mx t122 0) = j_ := ⟨_, rfl⟩
      replace H : (some (ji12, decide (t122 > 0))) = some (r1, r2) := by first | (rw [hji12] at H; exact H) | (simp only [hji12] at H ⊢; exact H)
      (try rw [hji12] at A11)
      (try (have hji12l : 0 ≤ ji12 := by (rw [← hji12]; unfold mx; (repeat' split) <;> omega)))
      (try (have hji12m : 0 ≤ ji12 := by omega))
      have hji12_ : (if t122 < 0 then 0 else t122) = ji12 := hji12
      simp only [Option.some.injEq, Prod.mk.injEq] at H
      obtain ⟨rfl, rfl⟩ := H
      obtain ⟨Ao14, co14, eo14⟩ := Kd.R_slice HO_6.out
      subst eo14
      have q13 : (17 : Int) ≤ ((t115.length : Int) : Int) := of_decide_eq_true (by first | (with_reducible assumption) | assumption)
      obtain ⟨i013, hi013, _, hsz13, _⟩ := info_parts info9
      have hroom13 : t115.length ≤ co14 := (Kd.R_reads' HO_6.out).2.1
      have hC13 : Kd.C Kd.string _ Ao14 t115.length t115 := (Kd.R_reads' HO_6.out).2.2
      have hcut13 := cut_to (P := Tryd.prog) 53 9 .i64 Tryd.underlying53 hi013 Ao14 t115.length co14 17 (by omega) q13 hroom13
      have hr13 := Kd.C_take (m := 17) hC13 (by omega)
      have hy13 : y118.length = (17 : Int).toNat := (by rw [Ny118.out, List.length_take]; omega)
      rw [← Ny118.out] at hr13
      rw [← hy13] at hcut13
      have HR121 := Aside0.mk hr13
      have HC121 := Aside0.mk (show y118.length ≤ co14 from by omega)
      clear hr13 hC13 hroom13 hi013 hsz13
      have KY13 := Aside0.mk hy13
      clear hy13
      have KL13 := Aside0.mk (show 17 ≤ t115.length from by omega)
      replace q13 := eq_true q13
      go_wp2_with (first | ((with_reducible refine gate_callee (f := 39) rfl ?_); refine goesL_ (some 27) rfl rfl Tryd.func39 (by kernel_rfl) rfl #[.slice Ao14 y118.length co14, .string a0] rfl (by (try simp only [List.map_toArray, List.map_cons, List.map_nil]); first | done | rfl | (simp only [List.length_drop, List.length_take]; rfl)) ?_; (with_reducible refine (slices_Index_string_string.calls kj3 _ _ y118 a0 t122 _ ?side1 ?side2 A11.out).mono ?_); (case side1 => repeat (first | exact (by repeat (first | (with_reducible exact HR121.out) | (with_reducible refine Kd.C_alloc ?_ _) | (with_reducible refine Kd.C_drewN ?_ _) | (with_reducible refine Kd.C_drew ?_) | exact HR121.out)) | (with_reducible refine Kd.C_alloc ?_ _) | (with_reducible refine Kd.C_drewN ?_ _) | (with_reducible refine Kd.C_drew ?_))); (case side2 => exact HC121.out); rintro e w' ⟨rfl, ⟨nd, rfl⟩⟩; refine ⟨_, rfl, ?_⟩))
      go_ret2
      exact ⟨by first | rfl | (simp [errW_none, errW_some] <;> rfl) | (simp only [← hji12]; first | rfl | (simp [errW_none, errW_some] <;> rfl)) | (simp [*, errW_none, errW_some] <;> rfl), by repeat (first | (with_reducible first | exact HB.out | apply below_alloc | apply pw_below_drewN | apply below_drew1) | exact HB.out)⟩
     ·rw [if_neg c10] at H
      exact absurd H (by simp)
    ·rw [if_neg c9] at H
     have c9b0 : (a1 == 2) = false := beq_eq_false_iff_ne.mpr c9
     have c9b1 : (a1 != 2) = true := bne_iff_ne.mpr c9
     by_cases c15 : 17 ≤ (t115.length : Int)
     ·rw [if_pos c15] at H
      have c15b0 := eq_true c15
      have c15b1 : decide (17 ≤ (t115.length : Int)) = true := decide_eq_true c15
      clear c15
      obtain ⟨y123, hy123⟩ : ∃ y_ : List ByteArray, y_ = (t115.drop 17) := ⟨_, rfl⟩
      replace H : ((slices_Index_string_string.f kj3 y123 a0).bind fun t127 => (if t127 < 0 then (some (0, false)) else (some (wrap64 (t127 + 17), true)))) = some (r1, r2) := by first | (rw [hy123]; with_reducible exact H) | (have H2_ := (Option.bind_some _ _).symm.trans H; rw [hy123]; with_reducible exact H2_) | (have H2_ := (Option.bind_some _ _).symm.trans H; with_reducible exact H2_) | with_reducible exact H | (rw [hy123]; exact H) | exact H
      have Ny123 := Aside0.mk hy123
      clear hy123
      replace H := Option.bind_eq_some_iff.mp H
      obtain ⟨t127, A160, H⟩ := H
      replace H : (if t127 < 0 then (some (0, false)) else (some (wrap64 (t127 + 17), true))) = some (r1, r2) := H
      have A16 := Aside0.mk A160
      clear A160
      by_cases c17 : t127 < 0
      ·rw [if_pos c17] at H
       have c17b0 : decide (t127 < 0) = true := decide_eq_true c17
       clear c17
       simp only [Option.some.injEq, Prod.mk.injEq] at H
       obtain ⟨rfl, rfl⟩ := H
       obtain ⟨Ao19, co19, eo19⟩ := Kd.R_slice HO_6.out
       subst eo19
       have q18 : (17 : Int) ≤ ((t115.length : Int) : Int) := of_decide_eq_true (by first | (with_reducible assumption) | assumption)
       obtain ⟨i018, hi018, _, hsz18, _⟩ := info_parts info9
       have hroom18 : t115.length ≤ co19 := (Kd.R_reads' HO_6.out).2.1
       have hC18 : Kd.C Kd.string _ Ao19 t115.length t115 := (Kd.R_reads' HO_6.out).2.2
       have hcut18 := cut_from (P := Tryd.prog) 53 9 .i64 Tryd.underlying53 hi018 1 hsz18 Ao19 t115.length co19 17 (by omega) q18
       have hr18 := Kd.C_drop (m := (17 : Int).toNat) (c := co19) hC18 (by omega) hroom18
       obtain ⟨A18, hA18⟩ : ∃ A1, A1 = (if co19 = (17 : Int).toNat then Ao19 else (Ao19 : Option Addr).map (·.add ((17 : Int).toNat * 1))) := ⟨_, rfl⟩
       obtain ⟨c18, hc18⟩ : ∃ c1, c1 = co19 - (17 : Int).toNat := ⟨_, rfl⟩
       have hy18 : y123.length = t115.length - (17 : Int).toNat := (by rw [Ny123.out, List.length_drop] <;> omega)
       rw [show (t115).drop (17 : Int).toNat = y123 from Ny123.out.symm] at hr18
       replace hr18 : Kd.C Kd.string _ A18 y123.length y123 := (by rw [hA18]; exact hr18)
       rw [← hy18, ← hA18, ← hc18] at hcut18
       have HR126 := Aside0.mk hr18
       have HC126 := Aside0.mk (show y123.length ≤ c18 from by rw [hy18, hc18]; exact Nat.sub_le_sub_right hroom18 _)
       clear hr18 hC18 hroom18 hi018 hsz18 hc18
       have KY18 := Aside0.mk hy18
       have KA18 := Aside0.mk hA18
       clear hy18 hA18
       have KL18 := Aside0.mk (show 17 ≤ t115.length from by omega)
       replace q18 := eq_true q18
       go_wp2_with (first | ((with_reducible refine gate_callee (f := 39) rfl ?_); refine goesL_ (some 35) rfl rfl Tryd.func39 (by kernel_rfl) rfl #[.slice A18 y123.length c18, .string a0] rfl (by (try simp only [List.map_toArray, List.map_cons, List.map_nil]); first | done | rfl | (simp only [List.length_drop, List.length_take]; rfl)) ?_; (with_reducible refine (slices_Index_string_string.calls kj3 _ _ y123 a0 t127 _ ?side1 ?side2 A16.out).mono ?_); (case side1 => repeat (first | exact (by repeat (first | (with_reducible exact HR126.out) | (with_reducible refine Kd.C_alloc ?_ _) | (with_reducible refine Kd.C_drewN ?_ _) | (with_reducible refine Kd.C_drew ?_) | exact HR126.out)) | (with_reducible refine Kd.C_alloc ?_ _) | (with_reducible refine Kd.C_drewN ?_ _) | (with_reducible refine Kd.C_drew ?_))); (case side2 => exact HC126.out); rintro e w' ⟨rfl, ⟨nd, rfl⟩⟩; refine ⟨_, rfl, ?_⟩))
       go_ret2
       exact ⟨by first | rfl | (simp [errW_none, errW_some] <;> rfl) | (simp [*, errW_none, errW_some] <;> rfl), by repeat (first | (with_reducible first | exact HB.out | apply below_alloc | apply pw_below_drewN | apply below_drew1) | exact HB.out)⟩
      ·rw [if_neg c17] at H
       have c17b0 : decide (t127 < 0) = false := decide_eq_false c17
       clear c17
       simp only [Option.some.injEq, Prod.mk.injEq] at H
       obtain ⟨rfl, rfl⟩ := H
       obtain ⟨Ao21, co21, eo21⟩ := Kd.R_slice HO_6.out
       subst eo21
       have q20 : (17 : Int) ≤ ((t115.length : Int) : Int) := of_decide_eq_true (by first | (with_reducible assumption) | assumption)
       obtain ⟨i020, hi020, _, hsz20, _⟩ := info_parts info9
       have hroom20 : t115.length ≤ co21 := (Kd.R_reads' HO_6.out).2.1
       have hC20 : Kd.C Kd.string _ Ao21 t115.length t115 := (Kd.R_reads' HO_6.out).2.2
       have hcut20 := cut_from (P := Tryd.prog) 53 9 .i64 Tryd.underlying53 hi020 1 hsz20 Ao21 t115.length co21 17 (by omega) q20
       have hr20 := Kd.C_drop (m := (17 : Int).toNat) (c := co21) hC20 (by omega) hroom20
       obtain ⟨A20, hA20⟩ : ∃ A1, A1 = (if co21 = (17 : Int).toNat then Ao21 else (Ao21 : Option Addr).map (·.add ((17 : Int).toNat * 1))) := ⟨_, rfl⟩
       obtain ⟨c20, hc20⟩ : ∃ c1, c1 = co21 - (17 : Int).toNat := ⟨_, rfl⟩
       have hy20 : y123.length = t115.length - (17 : Int).toNat := (by rw [Ny123.out, List.length_drop] <;> omega)
       rw [show (t115).drop (17 : Int).toNat = y123 from Ny123.out.symm] at hr20
       replace hr20 : Kd.C Kd.string _ A20 y123.length y123 := (by rw [hA20]; exact hr20)
       rw [← hy20, ← hA20, ← hc20] at hcut20
       have HR126 := Aside0.mk hr20
       have HC126 := Aside0.mk (show y123.length ≤ c20 from by rw [hy20, hc20]; exact Nat.sub_le_sub_right hroom20 _)
       clear hr20 hC20 hroom20 hi020 hsz20 hc20
       have KY20 := Aside0.mk hy20
       have KA20 := Aside0.mk hA20
       clear hy20 hA20
       have KL20 := Aside0.mk (show 17 ≤ t115.length from by omega)
       replace q20 := eq_true q20
       go_wp2_with (first | ((with_reducible refine gate_callee (f := 39) rfl ?_); refine goesL_ (some 35) rfl rfl Tryd.func39 (by kernel_rfl) rfl #[.slice A20 y123.length c20, .string a0] rfl (by (try simp only [List.map_toArray, List.map_cons, List.map_nil]); first | done | rfl | (simp only [List.length_drop, List.length_take]; rfl)) ?_; (with_reducible refine (slices_Index_string_string.calls kj3 _ _ y123 a0 t127 _ ?side1 ?side2 A16.out).mono ?_); (case side1 => repeat (first | exact (by repeat (first | (with_reducible exact HR126.out) | (with_reducible refine Kd.C_alloc ?_ _) | (with_reducible refine Kd.C_drewN ?_ _) | (with_reducible refine Kd.C_drew ?_) | exact HR126.out)) | (with_reducible refine Kd.C_alloc ?_ _) | (with_reducible refine Kd.C_drewN ?_ _) | (with_reducible refine Kd.C_drew ?_))); (case side2 => exact HC126.out); rintro e w' ⟨rfl, ⟨nd, rfl⟩⟩; refine ⟨_, rfl, ?_⟩))
       go_ret2
       exact ⟨by first | rfl | (simp [errW_none, errW_some] <;> rfl) | (simp [*, errW_none, errW_some] <;> rfl), by repeat (first | (with_reducible first | exact HB.out | apply below_alloc | apply pw_below_drewN | apply below_drew1) | exact HB.out)⟩
     ·rw [if_neg c15] at H
      exact absurd H (by simp)
/-! ### num_Sign: function 17 -/
def num_Sign.f (a0 : Int) : Option (ByteArray) := (num_IsBinary.f a0).bind fun t128 => (if t128 = true then ((num_signs.f).bind fun t129 => (if 0 ≤ a0 then (if a0 < (t129.length : Int) then (some (rdOf ByteArray.empty t129 a0)) else (none)) else (none))) else ((num_IsUnary.f a0).bind fun t133 => (if t133 = true then ((num_signs.f).bind fun t134 => (if 0 ≤ a0 then (if a0 < (t134.length : Int) then (some (rdOf ByteArray.empty t134 a0)) else (none)) else (none))) else (some (⟨#[]⟩ : ByteArray)))))
set_option maxHeartbeats 8000000 in
set_option maxRecDepth 100000 in
theorem num_Sign.calls (a0 : Int) (r : ByteArray) (w : World) (h : num_Sign.f a0 = some r) :
  Calls Tryd.prog 17 #[.int .i64 a0] w fun e w' => e = .returned (.string r) ∧ Below w.heap.size w w' := by
 have HB := Aside0.mk (Below.refl w.heap.size w)
 have H : ((num_IsBinary.f a0).bind fun t128 => (if t128 = true then ((num_signs.f).bind fun t129 => (if 0 ≤ a0 then (if a0 < (t129.length : Int) then (some (rdOf ByteArray.empty t129 a0)) else (none)) else (none))) else ((num_IsUnary.f a0).bind fun t133 => (if t133 = true then ((num_signs.f).bind fun t134 => (if 0 ≤ a0 then (if a0 < (t134.length : Int) then (some (rdOf ByteArray.empty t134 a0)) else (none)) else (none))) else (some (⟨#[]⟩ : ByteArray)))))) = some r := h
 clear h
 replace H := Option.bind_eq_some_iff.mp H
 obtain ⟨t128, A20, H⟩ := H
 replace H : (if t128 = true then ((num_signs.f).bind fun t129 => (if 0 ≤ a0 then (if a0 < (t129.length : Int) then (some (rdOf ByteArray.empty t129 a0)) else (none)) else (none))) else ((num_IsUnary.f a0).bind fun t133 => (if t133 = true then ((num_signs.f).bind fun t134 => (if 0 ≤ a0 then (if a0 < (t134.length : Int) then (some (rdOf ByteArray.empty t134 a0)) else (none)) else (none))) else (some (⟨#[]⟩ : ByteArray))))) = some r := H
 have A2 := Aside0.mk A20
 clear A20
 by_cases c3 : t128 = true
 ·subst c3
  have H1 : ((num_signs.f).bind fun t129 => (if 0 ≤ a0 then (if a0 < (t129.length : Int) then (some (rdOf ByteArray.empty t129 a0)) else (none)) else (none))) = some r := by rw [if_pos rfl] at H; exact H
  clear H
  have H := H1
  clear H1
  replace H := Option.bind_eq_some_iff.mp H
  obtain ⟨t129, A40, H⟩ := H
  replace H : (if 0 ≤ a0 then (if a0 < (t129.length : Int) then (some (rdOf ByteArray.empty t129 a0)) else (none)) else (none)) = some r := H
  have A4 := Aside0.mk A40
  clear A40
  by_cases c5 : 0 ≤ a0
  ·rw [if_pos c5] at H
   have c5b0 : decide (0 ≤ a0) = true := decide_eq_true c5
   clear c5
   by_cases c6 : a0 < (t129.length : Int)
   ·rw [if_pos c6] at H
    have c6b0 : decide (a0 < (t129.length : Int)) = true := decide_eq_true c6
    clear c6
    obtain rfl := Option.some.inj H
    go_enter Tryd.func17, Tryd.ntmps17
    go_wp2_with (first | ((with_reducible refine gate_callee (f := 13) rfl ?_); refine goesL_ (some 4) rfl rfl Tryd.func13 (by kernel_rfl) rfl #[.int .i64 a0] rfl (by (try simp only [List.map_toArray, List.map_cons, List.map_nil]); first | done | rfl | (simp only [List.length_drop, List.length_take]; rfl)) ?_; (with_reducible refine (num_IsBinary.calls a0 true _ A2.out).mono ?_); rintro e w' ⟨rfl, ⟨nd, rfl⟩⟩; refine ⟨_, rfl, ?_⟩) | ((with_reducible refine gate_callee (f := 38) rfl ?_); refine goesL_ (some 11) rfl rfl Tryd.func38 (by kernel_rfl) rfl #[] rfl (by (try simp only [List.map_toArray, List.map_cons, List.map_nil]); first | done | rfl | (simp only [List.length_drop, List.length_take]; rfl)) ?_; (with_reducible refine (num_signs.calls  t129 _ A4.out).mono ?_); rintro e w7 ⟨v130, rfl, ho0, hb⟩; refine ⟨_, rfl, ?_⟩; have n0_ := Aside0.mk (Kd.R_lower ho0 (below_size (by repeat (first | (with_reducible first | exact HB.out | apply below_alloc | apply pw_below_drewN | apply below_drew1) | exact HB.out)))); have n1_ := Aside0.mk (below_step (by repeat (first | (with_reducible first | exact HB.out | apply below_alloc | apply pw_below_drewN | apply below_drew1) | exact HB.out)) hb); clear HB; have HO131 := n0_; have HB := n1_; clear n0_ n1_; (try clear hb); (try clear hb2); (try clear hk); (try clear hi); (try clear ho0); obtain ⟨Ao8, co8, eo8⟩ := Kd.R_slice HO131.out; subst eo8; have p132 : 0 ≤ (a0 : Int) := of_decide_eq_true (by first | (with_reducible assumption) | assumption); have q132 : a0 < (t129.length : Int) := of_decide_eq_true (by first | (with_reducible assumption) | assumption); obtain ⟨ad132, e132, hx132_0⟩ := Kd.at_string (Kd.R_reads' HO131.out).2.2 a0 p132 q132; cases e132; replace p132 := eq_true p132; replace q132 := eq_true q132))
    go_ret
    exact ⟨by first | rfl | (simp [errW_none, errW_some] <;> rfl) | (simp [*, errW_none, errW_some] <;> rfl), by repeat (first | (with_reducible first | exact HB.out | apply below_alloc | apply pw_below_drewN | apply below_drew1) | exact HB.out)⟩
   ·rw [if_neg c6] at H
    exact absurd H (by simp)
  ·rw [if_neg c5] at H
   exact absurd H (by simp)
 ·replace c3 := Bool.eq_false_iff.mpr c3
  subst c3
  have H1 : ((num_IsUnary.f a0).bind fun t133 => (if t133 = true then ((num_signs.f).bind fun t134 => (if 0 ≤ a0 then (if a0 < (t134.length : Int) then (some (rdOf ByteArray.empty t134 a0)) else (none)) else (none))) else (some (⟨#[]⟩ : ByteArray)))) = some r := by rw [if_neg (show ¬ (false = true) by decide)] at H; exact H
  clear H
  have H := H1
  clear H1
  replace H := Option.bind_eq_some_iff.mp H
  obtain ⟨t133, A90, H⟩ := H
  replace H : (if t133 = true then ((num_signs.f).bind fun t134 => (if 0 ≤ a0 then (if a0 < (t134.length : Int) then (some (rdOf ByteArray.empty t134 a0)) else (none)) else (none))) else (some (⟨#[]⟩ : ByteArray))) = some r := H
  have A9 := Aside0.mk A90
  clear A90
  by_cases c10 : t133 = true
  ·subst c10
   have H1 : ((num_signs.f).bind fun t134 => (if 0 ≤ a0 then (if a0 < (t134.length : Int) then (some (rdOf ByteArray.empty t134 a0)) else (none)) else (none))) = some r := by rw [if_pos rfl] at H; exact H
   clear H
   have H := H1
   clear H1
   replace H := Option.bind_eq_some_iff.mp H
   obtain ⟨t134, A110, H⟩ := H
   replace H : (if 0 ≤ a0 then (if a0 < (t134.length : Int) then (some (rdOf ByteArray.empty t134 a0)) else (none)) else (none)) = some r := H
   have A11 := Aside0.mk A110
   clear A110
   by_cases c12 : 0 ≤ a0
   ·rw [if_pos c12] at H
    have c12b0 : decide (0 ≤ a0) = true := decide_eq_true c12
    clear c12
    by_cases c13 : a0 < (t134.length : Int)
    ·rw [if_pos c13] at H
     have c13b0 : decide (a0 < (t134.length : Int)) = true := decide_eq_true c13
     clear c13
     obtain rfl := Option.some.inj H
     go_enter Tryd.func17, Tryd.ntmps17
     go_wp2_with (first | ((with_reducible refine gate_callee (f := 13) rfl ?_); refine goesL_ (some 4) rfl rfl Tryd.func13 (by kernel_rfl) rfl #[.int .i64 a0] rfl (by (try simp only [List.map_toArray, List.map_cons, List.map_nil]); first | done | rfl | (simp only [List.length_drop, List.length_take]; rfl)) ?_; (with_reducible refine (num_IsBinary.calls a0 false _ A2.out).mono ?_); rintro e w' ⟨rfl, ⟨nd, rfl⟩⟩; refine ⟨_, rfl, ?_⟩) | (go_at_call 14; (with_reducible refine (num_IsUnary.calls a0 true _ A9.out).mono ?_); rintro e w' ⟨rfl, ⟨nd, rfl⟩⟩) | ((with_reducible refine gate_callee (f := 38) rfl ?_); refine goesL_ (some 11) rfl rfl Tryd.func38 (by kernel_rfl) rfl #[] rfl (by (try simp only [List.map_toArray, List.map_cons, List.map_nil]); first | done | rfl | (simp only [List.length_drop, List.length_take]; rfl)) ?_; (with_reducible refine (num_signs.calls  t134 _ A11.out).mono ?_); rintro e w14 ⟨v135, rfl, ho0, hb⟩; refine ⟨_, rfl, ?_⟩; have n0_ := Aside0.mk (Kd.R_lower ho0 (below_size (by repeat (first | (with_reducible first | exact HB.out | apply below_alloc | apply pw_below_drewN | apply below_drew1) | exact HB.out)))); have n1_ := Aside0.mk (below_step (by repeat (first | (with_reducible first | exact HB.out | apply below_alloc | apply pw_below_drewN | apply below_drew1) | exact HB.out)) hb); clear HB; have HO136 := n0_; have HB := n1_; clear n0_ n1_; (try clear hb); (try clear hb2); (try clear hk); (try clear hi); (try clear ho0); obtain ⟨Ao15, co15, eo15⟩ := Kd.R_slice HO136.out; subst eo15; have p137 : 0 ≤ (a0 : Int) := of_decide_eq_true (by first | (with_reducible assumption) | assumption); have q137 : a0 < (t134.length : Int) := of_decide_eq_true (by first | (with_reducible assumption) | assumption); obtain ⟨ad137, e137, hx137_0⟩ := Kd.at_string (Kd.R_reads' HO136.out).2.2 a0 p137 q137; cases e137; replace p137 := eq_true p137; replace q137 := eq_true q137))
     go_ret
     exact ⟨by first | rfl | (simp [errW_none, errW_some] <;> rfl) | (simp [*, errW_none, errW_some] <;> rfl), by repeat (first | (with_reducible first | exact HB.out | apply below_alloc | apply pw_below_drewN | apply below_drew1) | exact HB.out)⟩
    ·rw [if_neg c13] at H
     exact absurd H (by simp)
   ·rw [if_neg c12] at H
    exact absurd H (by simp)
  ·replace c10 := Bool.eq_false_iff.mpr c10
   subst c10
   have H1 : (some (⟨#[]⟩ : ByteArray)) = some r := by rw [if_neg (show ¬ (false = true) by decide)] at H; exact H
   clear H
   have H := H1
   clear H1
   obtain rfl := Option.some.inj H
   go_enter Tryd.func17, Tryd.ntmps17
   go_wp2_with (first | ((with_reducible refine gate_callee (f := 13) rfl ?_); refine goesL_ (some 4) rfl rfl Tryd.func13 (by kernel_rfl) rfl #[.int .i64 a0] rfl (by (try simp only [List.map_toArray, List.map_cons, List.map_nil]); first | done | rfl | (simp only [List.length_drop, List.length_take]; rfl)) ?_; (with_reducible refine (num_IsBinary.calls a0 false _ A2.out).mono ?_); rintro e w' ⟨rfl, ⟨nd, rfl⟩⟩; refine ⟨_, rfl, ?_⟩) | (go_at_call 14; (with_reducible refine (num_IsUnary.calls a0 false _ A9.out).mono ?_); rintro e w' ⟨rfl, ⟨nd, rfl⟩⟩))
   go_ret
   exact ⟨by first | rfl | (simp [errW_none, errW_some] <;> rfl) | (simp [*, errW_none, errW_some] <;> rfl), by repeat (first | (with_reducible first | exact HB.out | apply below_alloc | apply pw_below_drewN | apply below_drew1) | exact HB.out)⟩
/-! ### num_Level: function 18 -/
mutual
def num_Level.j0 : Nat → Int → Bool → Option (Int)
 | 0, _, _ => none
 | k + 1, x3, x4 => if x4 = true then (some 5) else (if x3 = 1 then (num_Level.j1 k x3 (x3 == 1)) else (if x3 = 2 then (num_Level.j1 k x3 (x3 == 2)) else (if x3 = 7 then (num_Level.j1 k x3 (x3 == 7)) else (num_Level.j1 k x3 (x3 == 8)))))
def num_Level.j1 : Nat → Int → Bool → Option (Int)
 | 0, _, _ => none
 | k + 1, x3, x11 => if x11 = true then (some 4) else (if x3 = 11 then (some 3) else (if x3 = 12 then (some 3) else (if x3 = 13 then (some 3) else (if x3 = 14 then (some 3) else (if x3 = 15 then (some 3) else (if x3 = 16 then (some 3) else (some 0)))))))
end
def num_Level.f (k : Nat) (a0 : Int) : Option (Int) := if a0 = 3 then (num_Level.j0 k a0 (a0 == 3)) else (if a0 = 4 then (num_Level.j0 k a0 (a0 == 4)) else (if a0 = 5 then (num_Level.j0 k a0 (a0 == 5)) else (if a0 = 9 then (num_Level.j0 k a0 (a0 == 9)) else (if a0 = 10 then (num_Level.j0 k a0 (a0 == 10)) else (num_Level.j0 k a0 (a0 == 6))))))
theorem num_Level.mono_l : ∀ k, (∀ y0 y1, LeO (num_Level.j0 k y0 y1) (num_Level.j0 (k + 1) y0 y1)) ∧ (∀ y0 y1, LeO (num_Level.j1 k y0 y1) (num_Level.j1 (k + 1) y0 y1))
 | 0 => ⟨fun _ _ r h => by simp [num_Level.j0] at h, fun _ _ r h => by simp [num_Level.j1] at h⟩
 | k + 1 => by
  obtain ⟨ih0, ih1⟩ := num_Level.mono_l k
  refine ⟨?_, ?_⟩
  ·intro y0 y1
   unfold num_Level.j0
   repeat' first
   | (with_reducible exact ih0 _ _)
   | (with_reducible exact ih1 _ _)
   | (with_reducible exact LeO.refl _)
   | (with_reducible exact LeO.none _)
   | (with_reducible refine LeO.ite ?_ ?_)
   | (with_reducible refine LeO.bind ?_ (fun _ => ?_))
   | exact ih0 _ _
   | exact ih1 _ _
   | exact LeO.none _
   | refine LeO.ite ?_ ?_
   | refine LeO.bind ?_ (fun _ => ?_)
  ·intro y0 y1
   unfold num_Level.j1
   repeat' first
   | (with_reducible exact ih0 _ _)
   | (with_reducible exact ih1 _ _)
   | (with_reducible exact LeO.refl _)
   | (with_reducible exact LeO.none _)
   | (with_reducible refine LeO.ite ?_ ?_)
   | (with_reducible refine LeO.bind ?_ (fun _ => ?_))
   | exact ih0 _ _
   | exact ih1 _ _
   | exact LeO.none _
   | refine LeO.ite ?_ ?_
   | refine LeO.bind ?_ (fun _ => ?_)
theorem num_Level.mono : ∀ a0 k, LeO (num_Level.f k a0) (num_Level.f (k + 1) a0) := by
 intro a0 k
 obtain ⟨ih0, ih1⟩ := num_Level.mono_l k
 unfold num_Level.f
 repeat' first
   | (with_reducible exact ih0 _ _)
   | (with_reducible exact ih1 _ _)
   | (with_reducible exact LeO.refl _)
   | (with_reducible exact LeO.none _)
   | (with_reducible refine LeO.ite ?_ ?_)
   | (with_reducible refine LeO.bind ?_ (fun _ => ?_))
   | exact ih0 _ _
   | exact ih1 _ _
   | exact LeO.none _
   | refine LeO.ite ?_ ?_
   | refine LeO.bind ?_ (fun _ => ?_)
set_option maxHeartbeats 8000000 in
set_option maxRecDepth 100000 in
theorem num_Level.calls (k : Nat) (a0 : Int) (r : Int) (w : World) (h : num_Level.f k a0 = some r) :
  Calls Tryd.prog 18 #[.int .i64 a0] w fun e w' => e = .returned (.int .i64 r) ∧ Drawn0 w w' := by
 have H : (if a0 = 3 then (num_Level.j0 k a0 (a0 == 3)) else (if a0 = 4 then (num_Level.j0 k a0 (a0 == 4)) else (if a0 = 5 then (num_Level.j0 k a0 (a0 == 5)) else (if a0 = 9 then (num_Level.j0 k a0 (a0 == 9)) else (if a0 = 10 then (num_Level.j0 k a0 (a0 == 10)) else (num_Level.j0 k a0 (a0 == 6))))))) = some r := h
 clear h
 have HC2 := Aside0.mk H
 clear H
 go_enter Tryd.func18, Tryd.ntmps18
 go_upto_if 4 with (fail)
 go_cut [4] (fun v4 wc => ∃ (kq : Nat) (x4_1 : Bool), v4 = .bool x4_1 ∧ Aside0 (num_Level.j0 kq a0 x4_1 = some r) ∧ Aside0 (kq ≤ k) ∧ Drawn0 w wc)
 case first =>
  have H := HC2.out
  clear HC2
  by_cases c3 : a0 = 3
  ·rw [if_pos c3] at H
   have c3b0 : (a0 == 3) = true := beq_iff_eq.mpr c3
   have c3b1 : (a0 != 3) = false := bne_eq_false_iff_eq.mpr c3
   clear c3
   (first | rw [c3b0] | rw [c3b1] | rw [c3b4] | (simp only [i64_w, i32_w]; rw [c3b0]) | skip)
   have H' := Aside0.mk H
   clear H
   go_wp2
   go_meet
   case rel => exact ⟨_, ((a0 == 3)), (by first | rfl | (simp; done) | (simp [*]; done)), H', ⟨by first | omega | exact Nat.le_refl _⟩, by repeat (first | exact Drawn0.refl _ | apply Drawn0.step)⟩
  ·rw [if_neg c3] at H
   have c3b0 : (a0 == 3) = false := beq_eq_false_iff_ne.mpr c3
   have c3b1 : (a0 != 3) = true := bne_iff_ne.mpr c3
   (first | rw [c3b0] | rw [c3b1] | rw [c3b4] | (simp only [i64_w, i32_w]; rw [c3b0]) | skip)
   by_cases c4 : a0 = 4
   ·rw [if_pos c4] at H
    have c4b0 : (a0 == 4) = true := beq_iff_eq.mpr c4
    have c4b1 : (a0 != 4) = false := bne_eq_false_iff_eq.mpr c4
    clear c4
    have H' := Aside0.mk H
    clear H
    go_wp2
    go_meet
    case rel => exact ⟨_, ((a0 == 4)), (by first | rfl | (simp; done) | (simp [*]; done)), H', ⟨by first | omega | exact Nat.le_refl _⟩, by repeat (first | exact Drawn0.refl _ | apply Drawn0.step)⟩
   ·rw [if_neg c4] at H
    have c4b0 : (a0 == 4) = false := beq_eq_false_iff_ne.mpr c4
    have c4b1 : (a0 != 4) = true := bne_iff_ne.mpr c4
    by_cases c5 : a0 = 5
    ·rw [if_pos c5] at H
     have c5b0 : (a0 == 5) = true := beq_iff_eq.mpr c5
     have c5b1 : (a0 != 5) = false := bne_eq_false_iff_eq.mpr c5
     clear c5
     have H' := Aside0.mk H
     clear H
     go_wp2
     go_meet
     case rel => exact ⟨_, ((a0 == 5)), (by first | rfl | (simp; done) | (simp [*]; done)), H', ⟨by first | omega | exact Nat.le_refl _⟩, by repeat (first | exact Drawn0.refl _ | apply Drawn0.step)⟩
    ·rw [if_neg c5] at H
     have c5b0 : (a0 == 5) = false := beq_eq_false_iff_ne.mpr c5
     have c5b1 : (a0 != 5) = true := bne_iff_ne.mpr c5
     by_cases c6 : a0 = 9
     ·rw [if_pos c6] at H
      have c6b0 : (a0 == 9) = true := beq_iff_eq.mpr c6
      have c6b1 : (a0 != 9) = false := bne_eq_false_iff_eq.mpr c6
      clear c6
      have H' := Aside0.mk H
      clear H
      go_wp2
      go_meet
      case rel => exact ⟨_, ((a0 == 9)), (by first | rfl | (simp; done) | (simp [*]; done)), H', ⟨by first | omega | exact Nat.le_refl _⟩, by repeat (first | exact Drawn0.refl _ | apply Drawn0.step)⟩
     ·rw [if_neg c6] at H
      have c6b0 : (a0 == 9) = false := beq_eq_false_iff_ne.mpr c6
      have c6b1 : (a0 != 9) = true := bne_iff_ne.mpr c6
      by_cases c7 : a0 = 10
      ·rw [if_pos c7] at H
       have c7b0 : (a0 == 10) = true := beq_iff_eq.mpr c7
       have c7b1 : (a0 != 10) = false := bne_eq_false_iff_eq.mpr c7
       clear c7
       have H' := Aside0.mk H
       clear H
       go_wp2
       go_meet
       case rel => exact ⟨_, ((a0 == 10)), (by first | rfl | (simp; done) | (simp [*]; done)), H', ⟨by first | omega | exact Nat.le_refl _⟩, by repeat (first | exact Drawn0.refl _ | apply Drawn0.step)⟩
      ·rw [if_neg c7] at H
       have c7b0 : (a0 == 10) = false := beq_eq_false_iff_ne.mpr c7
       have c7b1 : (a0 != 10) = true := bne_iff_ne.mpr c7
       have H' := Aside0.mk H
       clear H
       go_wp2
       go_meet
       case rel => exact ⟨_, ((a0 == 6)), (by first | rfl | (simp; done) | (simp [*]; done)), H', ⟨by first | omega | exact Nat.le_refl _⟩, by repeat (first | exact Drawn0.refl _ | apply Drawn0.step)⟩
 case rest =>
  clear HC2
  try clear c1
  try clear p2
  try clear c3
  try clear c3b0
  try clear c3b1
  try clear c4
  try clear c4b0
  try clear c4b1
  try clear c5
  try clear c5b0
  try clear c5b1
  try clear c6
  try clear c6b0
  try clear c6b1
  try clear c7
  try clear c7b0
  try clear c7b1
  obtain ⟨kq, x4_1, rfl, HA, HJ1, ⟨mc1, rfl⟩⟩ := hcut
  cases kq with
  | zero => exact absurd HA.out (by simp [num_Level.j0])
  | succ kj1 =>
   have H := HA.out
   clear HA
   simp only [num_Level.j0] at H
   by_cases c8 : x4_1 = true
   ·subst c8
    have H1 : (some 5) = some r := by rw [if_pos rfl] at H; exact H
    clear H
    have H := H1
    clear H1
    obtain rfl := Option.some.inj H
    go_wp2
    go_ret
    exact ⟨by first | rfl | (simp; done) | (simp [*]; done), by repeat (first | exact Drawn0.refl _ | apply Drawn0.step)⟩
   ·replace c8 := Bool.eq_false_iff.mpr c8
    subst c8
    have H1 : (if a0 = 1 then (num_Level.j1 kj1 a0 (a0 == 1)) else (if a0 = 2 then (num_Level.j1 kj1 a0 (a0 == 2)) else (if a0 = 7 then (num_Level.j1 kj1 a0 (a0 == 7)) else (num_Level.j1 kj1 a0 (a0 == 8))))) = some r := by rw [if_neg (show ¬ (false = true) by decide)] at H; exact H
    clear H
    have H := H1
    clear H1
    have HC9 := Aside0.mk H
    clear H
    go_upto_if 11 with (fail)
    go_cut [11] (fun v11 wc => ∃ (kq : Nat) (x11_8 : Bool), v11 = .bool x11_8 ∧ Aside0 (num_Level.j1 kq a0 x11_8 = some r) ∧ Aside0 (kq ≤ kj1) ∧ Drawn0 w wc)
    case first =>
     have H := HC9.out
     clear HC9
     by_cases c10 : a0 = 1
     ·rw [if_pos c10] at H
      have c10b0 : (a0 == 1) = true := beq_iff_eq.mpr c10
      have c10b1 : (a0 != 1) = false := bne_eq_false_iff_eq.mpr c10
      clear c10
      (first | rw [c10b0] | rw [c10b1] | rw [c10b4] | (simp only [i64_w, i32_w]; rw [c10b0]) | skip)
      have H' := Aside0.mk H
      clear H
      go_wp2
      go_meet
      case rel => exact ⟨_, ((a0 == 1)), (by first | rfl | (simp; done) | (simp [*]; done)), H', ⟨by have := HJ1.out; first | omega | exact Nat.le_refl _⟩, by repeat (first | exact Drawn0.refl _ | apply Drawn0.step)⟩
     ·rw [if_neg c10] at H
      have c10b0 : (a0 == 1) = false := beq_eq_false_iff_ne.mpr c10
      have c10b1 : (a0 != 1) = true := bne_iff_ne.mpr c10
      (first | rw [c10b0] | rw [c10b1] | rw [c10b4] | (simp only [i64_w, i32_w]; rw [c10b0]) | skip)
      by_cases c11 : a0 = 2
      ·rw [if_pos c11] at H
       have c11b0 : (a0 == 2) = true := beq_iff_eq.mpr c11
       have c11b1 : (a0 != 2) = false := bne_eq_false_iff_eq.mpr c11
       clear c11
       have H' := Aside0.mk H
       clear H
       go_wp2
       go_meet
       case rel => exact ⟨_, ((a0 == 2)), (by first | rfl | (simp; done) | (simp [*]; done)), H', ⟨by have := HJ1.out; first | omega | exact Nat.le_refl _⟩, by repeat (first | exact Drawn0.refl _ | apply Drawn0.step)⟩
      ·rw [if_neg c11] at H
       have c11b0 : (a0 == 2) = false := beq_eq_false_iff_ne.mpr c11
       have c11b1 : (a0 != 2) = true := bne_iff_ne.mpr c11
       by_cases c12 : a0 = 7
       ·rw [if_pos c12] at H
        have c12b0 : (a0 == 7) = true := beq_iff_eq.mpr c12
        have c12b1 : (a0 != 7) = false := bne_eq_false_iff_eq.mpr c12
        clear c12
        have H' := Aside0.mk H
        clear H
        go_wp2
        go_meet
        case rel => exact ⟨_, ((a0 == 7)), (by first | rfl | (simp; done) | (simp [*]; done)), H', ⟨by have := HJ1.out; first | omega | exact Nat.le_refl _⟩, by repeat (first | exact Drawn0.refl _ | apply Drawn0.step)⟩
       ·rw [if_neg c12] at H
        have c12b0 : (a0 == 7) = false := beq_eq_false_iff_ne.mpr c12
        have c12b1 : (a0 != 7) = true := bne_iff_ne.mpr c12
        have H' := Aside0.mk H
        clear H
        go_wp2
        go_meet
        case rel => exact ⟨_, ((a0 == 8)), (by first | rfl | (simp; done) | (simp [*]; done)), H', ⟨by have := HJ1.out; first | omega | exact Nat.le_refl _⟩, by repeat (first | exact Drawn0.refl _ | apply Drawn0.step)⟩
    case rest =>
     clear HC9
     try clear c1
     try clear p2
     try clear c3
     try clear c3b0
     try clear c3b1
     try clear c4
     try clear c4b0
     try clear c4b1
     try clear c5
     try clear c5b0
     try clear c5b1
     try clear c6
     try clear c6b0
     try clear c6b1
     try clear c7
     try clear c7b0
     try clear c7b1
     try clear c8
     try clear c10
     try clear c10b0
     try clear c10b1
     try clear c11
     try clear c11b0
     try clear c11b1
     try clear c12
     try clear c12b0
     try clear c12b1
     try clear p2
     obtain ⟨kq, x11_8, rfl, HA, HJ8, ⟨mc8, rfl⟩⟩ := hcut
     cases kq with
     | zero => exact absurd HA.out (by simp [num_Level.j1])
     | succ kj8 =>
      have H := HA.out
      clear HA
      simp only [num_Level.j1] at H
      by_cases c13 : x11_8 = true
      ·subst c13
       have H1 : (some 4) = some r := by rw [if_pos rfl] at H; exact H
       clear H
       have H := H1
       clear H1
       obtain rfl := Option.some.inj H
       go_wp2
       go_ret
       exact ⟨by first | rfl | (simp; done) | (simp [*]; done), by repeat (first | exact Drawn0.refl _ | apply Drawn0.step)⟩
      ·replace c13 := Bool.eq_false_iff.mpr c13
       subst c13
       have H1 : (if a0 = 11 then (some 3) else (if a0 = 12 then (some 3) else (if a0 = 13 then (some 3) else (if a0 = 14 then (some 3) else (if a0 = 15 then (some 3) else (if a0 = 16 then (some 3) else (some 0))))))) = some r := by rw [if_neg (show ¬ (false = true) by decide)] at H; exact H
       clear H
       have H := H1
       clear H1
       by_cases c14 : a0 = 11
       ·rw [if_pos c14] at H
        have c14b0 : (a0 == 11) = true := beq_iff_eq.mpr c14
        have c14b1 : (a0 != 11) = false := bne_eq_false_iff_eq.mpr c14
        clear c14
        obtain rfl := Option.some.inj H
        go_wp2
        go_ret
        exact ⟨by first | rfl | (simp; done) | (simp [*]; done), by repeat (first | exact Drawn0.refl _ | apply Drawn0.step)⟩
       ·rw [if_neg c14] at H
        have c14b0 : (a0 == 11) = false := beq_eq_false_iff_ne.mpr c14
        have c14b1 : (a0 != 11) = true := bne_iff_ne.mpr c14
        by_cases c15 : a0 = 12
        ·rw [if_pos c15] at H
         have c15b0 : (a0 == 12) = true := beq_iff_eq.mpr c15
         have c15b1 : (a0 != 12) = false := bne_eq_false_iff_eq.mpr c15
         clear c15
         obtain rfl := Option.some.inj H
         go_wp2
         go_ret
         exact ⟨by first | rfl | (simp; done) | (simp [*]; done), by repeat (first | exact Drawn0.refl _ | apply Drawn0.step)⟩
        ·rw [if_neg c15] at H
         have c15b0 : (a0 == 12) = false := beq_eq_false_iff_ne.mpr c15
         have c15b1 : (a0 != 12) = true := bne_iff_ne.mpr c15
         by_cases c16 : a0 = 13
         ·rw [if_pos c16] at H
          have c16b0 : (a0 == 13) = true := beq_iff_eq.mpr c16
          have c16b1 : (a0 != 13) = false := bne_eq_false_iff_eq.mpr c16
          clear c16
          obtain rfl := Option.some.inj H
          go_wp2
          go_ret
          exact ⟨by first | rfl | (simp; done) | (simp [*]; done), by repeat (first | exact Drawn0.refl _ | apply Drawn0.step)⟩
         ·rw [if_neg c16] at H
          have c16b0 : (a0 == 13) = false := beq_eq_false_iff_ne.mpr c16
          have c16b1 : (a0 != 13) = true := bne_iff_ne.mpr c16
          by_cases c17 : a0 = 14
          ·rw [if_pos c17] at H
           have c17b0 : (a0 == 14) = true := beq_iff_eq.mpr c17
           have c17b1 : (a0 != 14) = false := bne_eq_false_iff_eq.mpr c17
           clear c17
           obtain rfl := Option.some.inj H
           go_wp2
           go_ret
           exact ⟨by first | rfl | (simp; done) | (simp [*]; done), by repeat (first | exact Drawn0.refl _ | apply Drawn0.step)⟩
          ·rw [if_neg c17] at H
           have c17b0 : (a0 == 14) = false := beq_eq_false_iff_ne.mpr c17
           have c17b1 : (a0 != 14) = true := bne_iff_ne.mpr c17
           by_cases c18 : a0 = 15
           ·rw [if_pos c18] at H
            have c18b0 : (a0 == 15) = true := beq_iff_eq.mpr c18
            have c18b1 : (a0 != 15) = false := bne_eq_false_iff_eq.mpr c18
            clear c18
            obtain rfl := Option.some.inj H
            go_wp2
            go_ret
            exact ⟨by first | rfl | (simp; done) | (simp [*]; done), by repeat (first | exact Drawn0.refl _ | apply Drawn0.step)⟩
           ·rw [if_neg c18] at H
            have c18b0 : (a0 == 15) = false := beq_eq_false_iff_ne.mpr c18
            have c18b1 : (a0 != 15) = true := bne_iff_ne.mpr c18
            by_cases c19 : a0 = 16
            ·rw [if_pos c19] at H
             have c19b0 : (a0 == 16) = true := beq_iff_eq.mpr c19
             have c19b1 : (a0 != 16) = false := bne_eq_false_iff_eq.mpr c19
             clear c19
             obtain rfl := Option.some.inj H
             go_wp2
             go_ret
             exact ⟨by first | rfl | (simp; done) | (simp [*]; done), by repeat (first | exact Drawn0.refl _ | apply Drawn0.step)⟩
            ·rw [if_neg c19] at H
             have c19b0 : (a0 == 16) = false := beq_eq_false_iff_ne.mpr c19
             have c19b1 : (a0 != 16) = true := bne_iff_ne.mpr c19
             obtain rfl := Option.some.inj H
             go_wp2
             go_ret
             exact ⟨by first | rfl | (simp; done) | (simp [*]; done), by repeat (first | exact Drawn0.refl _ | apply Drawn0.step)⟩
/-! ### num_Swap: function 24 -/
mutual
def num_Swap.j0 : Nat → Int → Int → Bool → Option (Int)
 | 0, _, _, _ => none
 | k + 1, x0, x3, x4 => if x4 = true then (some x0) else (if x3 = 13 then (num_Swap.j1 k x0 x3 (x3 == 13)) else (num_Swap.j1 k x0 x3 (x3 == 15)))
def num_Swap.j1 : Nat → Int → Int → Bool → Option (Int)
 | 0, _, _, _ => none
 | k + 1, x0, x3, x13 => if x13 = true then (some (wrap64 (28 - x0))) else (if x3 = 14 then (some (wrap64 (30 - x0))) else (if x3 = 16 then (some (wrap64 (30 - x0))) else (some 0)))
end
def num_Swap.f (k : Nat) (a0 : Int) : Option (Int) := if a0 = 1 then (num_Swap.j0 k a0 a0 (a0 == 1)) else (if a0 = 3 then (num_Swap.j0 k a0 a0 (a0 == 3)) else (if a0 = 6 then (num_Swap.j0 k a0 a0 (a0 == 6)) else (if a0 = 7 then (num_Swap.j0 k a0 a0 (a0 == 7)) else (if a0 = 8 then (num_Swap.j0 k a0 a0 (a0 == 8)) else (if a0 = 11 then (num_Swap.j0 k a0 a0 (a0 == 11)) else (num_Swap.j0 k a0 a0 (a0 == 12)))))))
theorem num_Swap.mono_l : ∀ k, (∀ y0 y1 y2, LeO (num_Swap.j0 k y0 y1 y2) (num_Swap.j0 (k + 1) y0 y1 y2)) ∧ (∀ y0 y1 y2, LeO (num_Swap.j1 k y0 y1 y2) (num_Swap.j1 (k + 1) y0 y1 y2))
 | 0 => ⟨fun _ _ _ r h => by simp [num_Swap.j0] at h, fun _ _ _ r h => by simp [num_Swap.j1] at h⟩
 | k + 1 => by
  obtain ⟨ih0, ih1⟩ := num_Swap.mono_l k
  refine ⟨?_, ?_⟩
  ·intro y0 y1 y2
   unfold num_Swap.j0
   repeat' first
   | (with_reducible exact ih0 _ _ _)
   | (with_reducible exact ih1 _ _ _)
   | (with_reducible exact LeO.refl _)
   | (with_reducible exact LeO.none _)
   | (with_reducible refine LeO.ite ?_ ?_)
   | (with_reducible refine LeO.bind ?_ (fun _ => ?_))
   | exact ih0 _ _ _
   | exact ih1 _ _ _
   | exact LeO.none _
   | refine LeO.ite ?_ ?_
   | refine LeO.bind ?_ (fun _ => ?_)
  ·intro y0 y1 y2
   unfold num_Swap.j1
   repeat' first
   | (with_reducible exact ih0 _ _ _)
   | (with_reducible exact ih1 _ _ _)
   | (with_reducible exact LeO.refl _)
   | (with_reducible exact LeO.none _)
   | (with_reducible refine LeO.ite ?_ ?_)
   | (with_reducible refine LeO.bind ?_ (fun _ => ?_))
   | exact ih0 _ _ _
   | exact ih1 _ _ _
   | exact LeO.none _
   | refine LeO.ite ?_ ?_
   | refine LeO.bind ?_ (fun _ => ?_)
theorem num_Swap.mono : ∀ a0 k, LeO (num_Swap.f k a0) (num_Swap.f (k + 1) a0) := by
 intro a0 k
 obtain ⟨ih0, ih1⟩ := num_Swap.mono_l k
 unfold num_Swap.f
 repeat' first
   | (with_reducible exact ih0 _ _ _)
   | (with_reducible exact ih1 _ _ _)
   | (with_reducible exact LeO.refl _)
   | (with_reducible exact LeO.none _)
   | (with_reducible refine LeO.ite ?_ ?_)
   | (with_reducible refine LeO.bind ?_ (fun _ => ?_))
   | exact ih0 _ _ _
   | exact ih1 _ _ _
   | exact LeO.none _
   | refine LeO.ite ?_ ?_
   | refine LeO.bind ?_ (fun _ => ?_)
set_option maxHeartbeats 8000000 in
set_option maxRecDepth 100000 in
theorem num_Swap.calls (k : Nat) (a0 : Int) (r : Int) (w : World) (h : num_Swap.f k a0 = some r) :
  Calls Tryd.prog 24 #[.int .i64 a0] w fun e w' => e = .returned (.int .i64 r) ∧ Drawn0 w w' := by
 have H : (if a0 = 1 then (num_Swap.j0 k a0 a0 (a0 == 1)) else (if a0 = 3 then (num_Swap.j0 k a0 a0 (a0 == 3)) else (if a0 = 6 then (num_Swap.j0 k a0 a0 (a0 == 6)) else (if a0 = 7 then (num_Swap.j0 k a0 a0 (a0 == 7)) else (if a0 = 8 then (num_Swap.j0 k a0 a0 (a0 == 8)) else (if a0 = 11 then (num_Swap.j0 k a0 a0 (a0 == 11)) else (num_Swap.j0 k a0 a0 (a0 == 12)))))))) = some r := h
 clear h
 have HC2 := Aside0.mk H
 clear H
 go_enter Tryd.func24, Tryd.ntmps24
 go_upto_if 4 with (fail)
 go_cut [4] (fun v4 wc => ∃ (kq : Nat) (x4_1 : Bool), v4 = .bool x4_1 ∧ Aside0 (num_Swap.j0 kq a0 a0 x4_1 = some r) ∧ Aside0 (kq ≤ k) ∧ Drawn0 w wc)
 case first =>
  have H := HC2.out
  clear HC2
  by_cases c3 : a0 = 1
  ·rw [if_pos c3] at H
   have c3b0 : (a0 == 1) = true := beq_iff_eq.mpr c3
   have c3b1 : (a0 != 1) = false := bne_eq_false_iff_eq.mpr c3
   clear c3
   (first | rw [c3b0] | rw [c3b1] | rw [c3b4] | (simp only [i64_w, i32_w]; rw [c3b0]) | skip)
   have H' := Aside0.mk H
   clear H
   go_wp2
   go_meet
   case rel => exact ⟨_, ((a0 == 1)), (by first | rfl | (simp; done) | (simp [*]; done)), H', ⟨by first | omega | exact Nat.le_refl _⟩, by repeat (first | exact Drawn0.refl _ | apply Drawn0.step)⟩
  ·rw [if_neg c3] at H
   have c3b0 : (a0 == 1) = false := beq_eq_false_iff_ne.mpr c3
   have c3b1 : (a0 != 1) = true := bne_iff_ne.mpr c3
   (first | rw [c3b0] | rw [c3b1] | rw [c3b4] | (simp only [i64_w, i32_w]; rw [c3b0]) | skip)
   by_cases c4 : a0 = 3
   ·rw [if_pos c4] at H
    have c4b0 : (a0 == 3) = true := beq_iff_eq.mpr c4
    have c4b1 : (a0 != 3) = false := bne_eq_false_iff_eq.mpr c4
    clear c4
    have H' := Aside0.mk H
    clear H
    go_wp2
    go_meet
    case rel => exact ⟨_, ((a0 == 3)), (by first | rfl | (simp; done) | (simp [*]; done)), H', ⟨by first | omega | exact Nat.le_refl _⟩, by repeat (first | exact Drawn0.refl _ | apply Drawn0.step)⟩
   ·rw [if_neg c4] at H
    have c4b0 : (a0 == 3) = false := beq_eq_false_iff_ne.mpr c4
    have c4b1 : (a0 != 3) = true := bne_iff_ne.mpr c4
    by_cases c5 : a0 = 6
    ·rw [if_pos c5] at H
     have c5b0 : (a0 == 6) = true := beq_iff_eq.mpr c5
     have c5b1 : (a0 != 6) = false := bne_eq_false_iff_eq.mpr c5
     clear c5
     have H' := Aside0.mk H
     clear H
     go_wp2
     go_meet
     case rel => exact ⟨_, ((a0 == 6)), (by first | rfl | (simp; done) | (simp [*]; done)), H', ⟨by first | omega | exact Nat.le_refl _⟩, by repeat (first | exact Drawn0.refl _ | apply Drawn0.step)⟩
    ·rw [if_neg c5] at H
     have c5b0 : (a0 == 6) = false := beq_eq_false_iff_ne.mpr c5
     have c5b1 : (a0 != 6) = true := bne_iff_ne.mpr c5
     by_cases c6 : a0 = 7
     ·rw [if_pos c6] at H
      have c6b0 : (a0 == 7) = true := beq_iff_eq.mpr c6
      have c6b1 : (a0 != 7) = false := bne_eq_false_iff_eq.mpr c6
      clear c6
      have H' := Aside0.mk H
      clear H
      go_wp2
      go_meet
      case rel => exact ⟨_, ((a0 == 7)), (by first | rfl | (simp; done) | (simp [*]; done)), H', ⟨by first | omega | exact Nat.le_refl _⟩, by repeat (first | exact Drawn0.refl _ | apply Drawn0.step)⟩
     ·rw [if_neg c6] at H
      have c6b0 : (a0 == 7) = false := beq_eq_false_iff_ne.mpr c6
      have c6b1 : (a0 != 7) = true := bne_iff_ne.mpr c6
      by_cases c7 : a0 = 8
      ·rw [if_pos c7] at H
       have c7b0 : (a0 == 8) = true := beq_iff_eq.mpr c7
       have c7b1 : (a0 != 8) = false := bne_eq_false_iff_eq.mpr c7
       clear c7
       have H' := Aside0.mk H
       clear H
       go_wp2
       go_meet
       case rel => exact ⟨_, ((a0 == 8)), (by first | rfl | (simp; done) | (simp [*]; done)), H', ⟨by first | omega | exact Nat.le_refl _⟩, by repeat (first | exact Drawn0.refl _ | apply Drawn0.step)⟩
      ·rw [if_neg c7] at H
       have c7b0 : (a0 == 8) = false := beq_eq_false_iff_ne.mpr c7
       have c7b1 : (a0 != 8) = true := bne_iff_ne.mpr c7
       by_cases c8 : a0 = 11
       ·rw [if_pos c8] at H
        have c8b0 : (a0 == 11) = true := beq_iff_eq.mpr c8
        have c8b1 : (a0 != 11) = false := bne_eq_false_iff_eq.mpr c8
        clear c8
        have H' := Aside0.mk H
        clear H
        go_wp2
        go_meet
        case rel => exact ⟨_, ((a0 == 11)), (by first | rfl | (simp; done) | (simp [*]; done)), H', ⟨by first | omega | exact Nat.le_refl _⟩, by repeat (first | exact Drawn0.refl _ | apply Drawn0.step)⟩
       ·rw [if_neg c8] at H
        have c8b0 : (a0 == 11) = false := beq_eq_false_iff_ne.mpr c8
        have c8b1 : (a0 != 11) = true := bne_iff_ne.mpr c8
        have H' := Aside0.mk H
        clear H
        go_wp2
        go_meet
        case rel => exact ⟨_, ((a0 == 12)), (by first | rfl | (simp; done) | (simp [*]; done)), H', ⟨by first | omega | exact Nat.le_refl _⟩, by repeat (first | exact Drawn0.refl _ | apply Drawn0.step)⟩
 case rest =>
  clear HC2
  try clear c2
  try clear p2
  try clear c3
  try clear c3b0
  try clear c3b1
  try clear c4
  try clear c4b0
  try clear c4b1
  try clear c5
  try clear c5b0
  try clear c5b1
  try clear c6
  try clear c6b0
  try clear c6b1
  try clear c7
  try clear c7b0
  try clear c7b1
  try clear c8
  try clear c8b0
  try clear c8b1
  obtain ⟨kq, x4_1, rfl, HA, HJ1, ⟨mc1, rfl⟩⟩ := hcut
  cases kq with
  | zero => exact absurd HA.out (by simp [num_Swap.j0])
  | succ kj1 =>
   have H := HA.out
   clear HA
   simp only [num_Swap.j0] at H
   by_cases c9 : x4_1 = true
   ·subst c9
    have H1 : (some a0) = some r := by rw [if_pos rfl] at H; exact H
    clear H
    have H := H1
    clear H1
    obtain rfl := Option.some.inj H
    go_wp2
    go_ret
    exact ⟨by first | rfl | (simp; done) | (simp [*]; done), by repeat (first | exact Drawn0.refl _ | apply Drawn0.step)⟩
   ·replace c9 := Bool.eq_false_iff.mpr c9
    subst c9
    have H1 : (if a0 = 13 then (num_Swap.j1 kj1 a0 a0 (a0 == 13)) else (num_Swap.j1 kj1 a0 a0 (a0 == 15))) = some r := by rw [if_neg (show ¬ (false = true) by decide)] at H; exact H
    clear H
    have H := H1
    clear H1
    have HC10 := Aside0.mk H
    clear H
    go_upto_if 13 with (fail)
    go_cut [13] (fun v13 wc => ∃ (kq : Nat) (x13_9 : Bool), v13 = .bool x13_9 ∧ Aside0 (num_Swap.j1 kq a0 a0 x13_9 = some r) ∧ Aside0 (kq ≤ kj1) ∧ Drawn0 w wc)
    case first =>
     have H := HC10.out
     clear HC10
     by_cases c11 : a0 = 13
     ·rw [if_pos c11] at H
      have c11b0 : (a0 == 13) = true := beq_iff_eq.mpr c11
      have c11b1 : (a0 != 13) = false := bne_eq_false_iff_eq.mpr c11
      clear c11
      (first | rw [c11b0] | rw [c11b1] | rw [c11b4] | (simp only [i64_w, i32_w]; rw [c11b0]) | skip)
      have H' := Aside0.mk H
      clear H
      go_wp2
      go_meet
      case rel => exact ⟨_, ((a0 == 13)), (by first | rfl | (simp; done) | (simp [*]; done)), H', ⟨by have := HJ1.out; first | omega | exact Nat.le_refl _⟩, by repeat (first | exact Drawn0.refl _ | apply Drawn0.step)⟩
     ·rw [if_neg c11] at H
      have c11b0 : (a0 == 13) = false := beq_eq_false_iff_ne.mpr c11
      have c11b1 : (a0 != 13) = true := bne_iff_ne.mpr c11
      (first | rw [c11b0] | rw [c11b1] | rw [c11b4] | (simp only [i64_w, i32_w]; rw [c11b0]) | skip)
      have H' := Aside0.mk H
      clear H
      go_wp2
      go_meet
      case rel => exact ⟨_, ((a0 == 15)), (by first | rfl | (simp; done) | (simp [*]; done)), H', ⟨by have := HJ1.out; first | omega | exact Nat.le_refl _⟩, by repeat (first | exact Drawn0.refl _ | apply Drawn0.step)⟩
    case rest =>
     clear HC10
     try clear c1
     try clear c2
     try clear p2
     try clear c3
     try clear c3b0
     try clear c3b1
     try clear c4
     try clear c4b0
     try clear c4b1
     try clear c5
     try clear c5b0
     try clear c5b1
     try clear c6
     try clear c6b0
     try clear c6b1
     try clear c7
     try clear c7b0
     try clear c7b1
     try clear c8
     try clear c8b0
     try clear c8b1
     try clear c9
     try clear c11
     try clear c11b0
     try clear c11b1
     try clear p2
     obtain ⟨kq, x13_9, rfl, HA, HJ9, ⟨mc9, rfl⟩⟩ := hcut
     cases kq with
     | zero => exact absurd HA.out (by simp [num_Swap.j1])
     | succ kj9 =>
      have H := HA.out
      clear HA
      simp only [num_Swap.j1] at H
      by_cases c12 : x13_9 = true
      ·subst c12
       have H1 : (some (wrap64 (28 - a0))) = some r := by rw [if_pos rfl] at H; exact H
       clear H
       have H := H1
       clear H1
       obtain rfl := Option.some.inj H
       go_wp2
       go_ret
       exact ⟨by first | rfl | (simp; done) | (simp [*]; done), by repeat (first | exact Drawn0.refl _ | apply Drawn0.step)⟩
      ·replace c12 := Bool.eq_false_iff.mpr c12
       subst c12
       have H1 : (if a0 = 14 then (some (wrap64 (30 - a0))) else (if a0 = 16 then (some (wrap64 (30 - a0))) else (some 0))) = some r := by rw [if_neg (show ¬ (false = true) by decide)] at H; exact H
       clear H
       have H := H1
       clear H1
       by_cases c13 : a0 = 14
       ·rw [if_pos c13] at H
        have c13b0 : (a0 == 14) = true := beq_iff_eq.mpr c13
        have c13b1 : (a0 != 14) = false := bne_eq_false_iff_eq.mpr c13
        clear c13
        obtain rfl := Option.some.inj H
        go_wp2
        go_ret
        exact ⟨by first | rfl | (simp; done) | (simp [*]; done), by repeat (first | exact Drawn0.refl _ | apply Drawn0.step)⟩
       ·rw [if_neg c13] at H
        have c13b0 : (a0 == 14) = false := beq_eq_false_iff_ne.mpr c13
        have c13b1 : (a0 != 14) = true := bne_iff_ne.mpr c13
        by_cases c14 : a0 = 16
        ·rw [if_pos c14] at H
         have c14b0 : (a0 == 16) = true := beq_iff_eq.mpr c14
         have c14b1 : (a0 != 16) = false := bne_eq_false_iff_eq.mpr c14
         clear c14
         obtain rfl := Option.some.inj H
         go_wp2
         go_ret
         exact ⟨by first | rfl | (simp; done) | (simp [*]; done), by repeat (first | exact Drawn0.refl _ | apply Drawn0.step)⟩
        ·rw [if_neg c14] at H
         have c14b0 : (a0 == 16) = false := beq_eq_false_iff_ne.mpr c14
         have c14b1 : (a0 != 16) = true := bne_iff_ne.mpr c14
         obtain rfl := Option.some.inj H
         go_wp2
         go_ret
         exact ⟨by first | rfl | (simp; done) | (simp [*]; done), by repeat (first | exact Drawn0.refl _ | apply Drawn0.step)⟩
/-! ### stringslite_HasPrefix: function 52 -/
def stringslite_HasPrefix.f (a0 : ByteArray) (a1 : ByteArray) : Option (Bool) := if (a0.size : Int) ≥ (a1.size : Int) then (if 0 ≤ (a1.size : Int) then (if (a1.size : Int) ≤ (a0.size : Int) then (some ((a0.extract 0 ((a1.size : Int) : Int).toNat).toList == a1.toList)) else (none)) else (none)) else (some false)
set_option maxHeartbeats 8000000 in
set_option maxRecDepth 100000 in
theorem stringslite_HasPrefix.calls (a0 : ByteArray) (a1 : ByteArray) (r : Bool) (w : World) (h : stringslite_HasPrefix.f a0 a1 = some r) :
  Calls Tryd.prog 52 #[.string a0, .string a1] w fun e w' => e = .returned (.bool r) ∧ Drawn0 w w' := by
 have H : (if (a0.size : Int) ≥ (a1.size : Int) then (if 0 ≤ (a1.size : Int) then (if (a1.size : Int) ≤ (a0.size : Int) then (some ((a0.extract 0 ((a1.size : Int) : Int).toNat).toList == a1.toList)) else (none)) else (none)) else (some false)) = some r := h
 clear h
 by_cases c3 : (a0.size : Int) ≥ (a1.size : Int)
 ·rw [if_pos c3] at H
  have c3b0 : decide ((a1.size : Int) ≤ (a0.size : Int)) = true := decide_eq_true c3
  have c3b1 : decide (a1.size ≤ a0.size) = true := decide_eq_true (Int.ofNat_le.mp c3)
  clear c3
  by_cases c4 : 0 ≤ (a1.size : Int)
  ·rw [if_pos c4] at H
   have c4b0 := eq_true c4
   have c4b1 : decide (0 ≤ (a1.size : Int)) = true := decide_eq_true c4
   clear c4
   by_cases c5 : (a1.size : Int) ≤ (a0.size : Int)
   ·rw [if_pos c5] at H
    have c5b0 := eq_true c5
    have c5b1 : decide ((a1.size : Int) ≤ (a0.size : Int)) = true := decide_eq_true c5
    clear c5
    obtain rfl := Option.some.inj H
    go_enter Tryd.func52, Tryd.ntmps52
    go_wp2
    go_ret
    exact ⟨by first | rfl | (simp; done) | (simp [*]; done), by repeat (first | exact Drawn0.refl _ | apply Drawn0.step)⟩
   ·rw [if_neg c5] at H
    exact absurd H (by simp)
  ·rw [if_neg c4] at H
   exact absurd H (by simp)
 ·rw [if_neg c3] at H
  have c3b0 : decide ((a1.size : Int) ≤ (a0.size : Int)) = false := decide_eq_false c3
  have c3b1 : decide (a1.size ≤ a0.size) = false := decide_eq_false (fun h => c3 (Int.ofNat_le.mpr h))
  clear c3
  obtain rfl := Option.some.inj H
  go_enter Tryd.func52, Tryd.ntmps52
  go_wp2
  go_ret
  exact ⟨by first | rfl | (simp; done) | (simp [*]; done), by repeat (first | exact Drawn0.refl _ | apply Drawn0.step)⟩
/-! ### stringslite_TrimPrefix: function 47 -/
def stringslite_TrimPrefix.f (a0 : ByteArray) (a1 : ByteArray) : Option (ByteArray) := (stringslite_HasPrefix.f a0 a1).bind fun t138 => (if t138 = true then (if 0 ≤ (a1.size : Int) then (if (a1.size : Int) ≤ (a0.size : Int) then (some (a0.extract ((a1.size : Int) : Int).toNat a0.size)) else (none)) else (none)) else (some a0))
set_option maxHeartbeats 8000000 in
set_option maxRecDepth 100000 in
theorem stringslite_TrimPrefix.calls (a0 : ByteArray) (a1 : ByteArray) (r : ByteArray) (w : World) (h : stringslite_TrimPrefix.f a0 a1 = some r) :
  Calls Tryd.prog 47 #[.string a0, .string a1] w fun e w' => e = .returned (.string r) ∧ Drawn0 w w' := by
 have H : ((stringslite_HasPrefix.f a0 a1).bind fun t138 => (if t138 = true then (if 0 ≤ (a1.size : Int) then (if (a1.size : Int) ≤ (a0.size : Int) then (some (a0.extract ((a1.size : Int) : Int).toNat a0.size)) else (none)) else (none)) else (some a0))) = some r := h
 clear h
 replace H := Option.bind_eq_some_iff.mp H
 obtain ⟨t138, A30, H⟩ := H
 replace H : (if t138 = true then (if 0 ≤ (a1.size : Int) then (if (a1.size : Int) ≤ (a0.size : Int) then (some (a0.extract ((a1.size : Int) : Int).toNat a0.size)) else (none)) else (none)) else (some a0)) = some r := H
 have A3 := Aside0.mk A30
 clear A30
 by_cases c4 : t138 = true
 ·subst c4
  have H1 : (if 0 ≤ (a1.size : Int) then (if (a1.size : Int) ≤ (a0.size : Int) then (some (a0.extract ((a1.size : Int) : Int).toNat a0.size)) else (none)) else (none)) = some r := by rw [if_pos rfl] at H; exact H
  clear H
  have H := H1
  clear H1
  by_cases c5 : 0 ≤ (a1.size : Int)
  ·rw [if_pos c5] at H
   have c5b0 := eq_true c5
   have c5b1 : decide (0 ≤ (a1.size : Int)) = true := decide_eq_true c5
   clear c5
   by_cases c6 : (a1.size : Int) ≤ (a0.size : Int)
   ·rw [if_pos c6] at H
    have c6b0 := eq_true c6
    have c6b1 : decide ((a1.size : Int) ≤ (a0.size : Int)) = true := decide_eq_true c6
    clear c6
    obtain rfl := Option.some.inj H
    go_enter Tryd.func47, Tryd.ntmps47
    go_wp2_with (first | ((with_reducible refine gate_callee (f := 52) rfl ?_); refine goesL_ (some 7) rfl rfl Tryd.func52 (by kernel_rfl) rfl #[.string a0, .string a1] rfl (by (try simp only [List.map_toArray, List.map_cons, List.map_nil]); first | done | rfl | (simp only [List.length_drop, List.length_take]; rfl)) ?_; (with_reducible refine (stringslite_HasPrefix.calls a0 a1 true _ A3.out).mono ?_); rintro e w' ⟨rfl, ⟨nd, rfl⟩⟩; refine ⟨_, rfl, ?_⟩))
    go_ret
    exact ⟨by first | rfl | (simp; done) | (simp [*]; done), by repeat (first | exact Drawn0.refl _ | apply Drawn0.step)⟩
   ·rw [if_neg c6] at H
    exact absurd H (by simp)
  ·rw [if_neg c5] at H
   exact absurd H (by simp)
 ·replace c4 := Bool.eq_false_iff.mpr c4
  subst c4
  have H1 : (some a0) = some r := by rw [if_neg (show ¬ (false = true) by decide)] at H; exact H
  clear H
  have H := H1
  clear H1
  obtain rfl := Option.some.inj H
  go_enter Tryd.func47, Tryd.ntmps47
  go_wp2_with (first | ((with_reducible refine gate_callee (f := 52) rfl ?_); refine goesL_ (some 7) rfl rfl Tryd.func52 (by kernel_rfl) rfl #[.string a0, .string a1] rfl (by (try simp only [List.map_toArray, List.map_cons, List.map_nil]); first | done | rfl | (simp only [List.length_drop, List.length_take]; rfl)) ?_; (with_reducible refine (stringslite_HasPrefix.calls a0 a1 false _ A3.out).mono ?_); rintro e w' ⟨rfl, ⟨nd, rfl⟩⟩; refine ⟨_, rfl, ?_⟩))
  go_ret
  exact ⟨by first | rfl | (simp; done) | (simp [*]; done), by repeat (first | exact Drawn0.refl _ | apply Drawn0.step)⟩
/-! ### strings_TrimPrefix: function 40 -/
def strings_TrimPrefix.f (a0 : ByteArray) (a1 : ByteArray) : Option (ByteArray) := (stringslite_TrimPrefix.f a0 a1).bind fun t139 => (some t139)
set_option maxHeartbeats 8000000 in
set_option maxRecDepth 100000 in
theorem strings_TrimPrefix.calls (a0 : ByteArray) (a1 : ByteArray) (r : ByteArray) (w : World) (h : strings_TrimPrefix.f a0 a1 = some r) :
  Calls Tryd.prog 40 #[.string a0, .string a1] w fun e w' => e = .returned (.string r) ∧ Drawn0 w w' := by
 have H : ((stringslite_TrimPrefix.f a0 a1).bind fun t139 => (some t139)) = some r := h
 clear h
 replace H := Option.bind_eq_some_iff.mp H
 obtain ⟨t139, A30, H⟩ := H
 replace H : (some t139) = some r := H
 have A3 := Aside0.mk A30
 clear A30
 obtain rfl := Option.some.inj H
 go_enter Tryd.func40, Tryd.ntmps40
 go_wp2_with (first | ((with_reducible refine gate_callee (f := 47) rfl ?_); refine goesL_ (some 7) rfl rfl Tryd.func47 (by kernel_rfl) rfl #[.string a0, .string a1] rfl (by (try simp only [List.map_toArray, List.map_cons, List.map_nil]); first | done | rfl | (simp only [List.length_drop, List.length_take]; rfl)) ?_; (with_reducible refine (stringslite_TrimPrefix.calls a0 a1 t139 _ A3.out).mono ?_); rintro e w' ⟨rfl, ⟨nd, rfl⟩⟩; refine ⟨_, rfl, ?_⟩))
 go_ret
 exact ⟨by first | rfl | (simp; done) | (simp [*]; done), by repeat (first | exact Drawn0.refl _ | apply Drawn0.step)⟩
end Go.Proofs.YtcmppjonpmgncaaDoor.Q
-- (laid by the kit's lay-shelf and lay-plain at this seat's dump; the seat: rows/E.tsv, its part 'Door')
/-
 DERIVED: THE SHELF's CONTRACTS AT THIS DUMP, IN PLAIN WORDS (tools/lay-plain.mjs out of 'YtcmppjonpmgncaaDoorShelf.lean', which tools/lay-shelf.mjs wrote): THE SAME DECLARATIONS UNDER THE SAME NAMES: 'import', 'namespace', 'open', 'def', 'theorem' AND NOTHING ELSE: no command of the shelf's: FOR A HAND-IN. Each laying: the table of numbers ('.._ren') and one theorem, a field a fact of the dump's own or the kernel's comparison; each contract: ONE APPLICATION.
-/
namespace Go.Proofs
open Go.Shelf
def Tryd.lays160_ren : Go.Shelf.Ren := ⟨fun | 160 => 48 | 232 => 54 | 231 => 53 | 227 => 55 | 234 => 57 | 233 => 56 | 236 => 59 | 235 => 58 | 228 => 66 | 271 => 69 | 151 => 68 | 197 => 67 | 120 => 79 | 152 => 78 | 260 => 77 | 137 => 87 | 119 => 88 | 224 => 89 | 225 => 90 | 217 => 93 | 266 => 94 | n => n, fun | 9 => 9 | 4 => 4 | 3 => 3 | 5 => 5 | 117 => 70 | 116 => 69 | 0 => 0 | 124 => 73 | 21 => 21 | 105 => 82 | 46 => 39 | 119 => 106 | 139 => 109 | 138 => 108 | n => n, fun | 3 => 3 | 4 => 4 | n => n⟩
theorem Tryd.lays160 : Go.Proofs.Lays.n160 Tryd.prog Tryd.lays160_ren := {
 mixed := by kernel_rfl
 f119 := Tryd.func88.trans (congrArg some (by kernel_rfl))
 f120 := Tryd.func79.trans (congrArg some (by kernel_rfl))
 f137 := Tryd.func87.trans (congrArg some (by kernel_rfl))
 f151 := Tryd.func68.trans (congrArg some (by kernel_rfl))
 f152 := Tryd.func78.trans (congrArg some (by kernel_rfl))
 f160 := Tryd.func48.trans (congrArg some (by kernel_rfl))
 f197 := Tryd.func67.trans (congrArg some (by kernel_rfl))
 f217 := Tryd.func93.trans (congrArg some (by kernel_rfl))
 f224 := Tryd.func89.trans (congrArg some (by kernel_rfl))
 f225 := Tryd.func90.trans (congrArg some (by kernel_rfl))
 f227 := Tryd.func55.trans (congrArg some (by kernel_rfl))
 f228 := Tryd.func66.trans (congrArg some (by kernel_rfl))
 f231 := Tryd.func53.trans (congrArg some (by kernel_rfl))
 f232 := Tryd.func54.trans (congrArg some (by kernel_rfl))
 f233 := Tryd.func56.trans (congrArg some (by kernel_rfl))
 f234 := Tryd.func57.trans (congrArg some (by kernel_rfl))
 f235 := Tryd.func58.trans (congrArg some (by kernel_rfl))
 f236 := Tryd.func59.trans (congrArg some (by kernel_rfl))
 f260 := Tryd.func77.trans (congrArg some (by kernel_rfl))
 f266 := Tryd.func94.trans (congrArg some (by kernel_rfl))
 f271 := Tryd.func69.trans (congrArg some (by kernel_rfl))
 t0 := Tryd.underlying0
 a0 := Tryd.isAgg0
 z0 := Tryd.sizeOf0
 v0 := Tryd.zeroValue0
 t3 := Tryd.underlying3
 a3 := Tryd.isAgg3
 z3 := Tryd.sizeOf3
 v3 := Tryd.zeroValue3
 t4 := Tryd.underlying4
 a4 := Tryd.isAgg4
 z4 := Tryd.sizeOf4
 v4 := Tryd.zeroValue4
 t5 := Tryd.underlying5
 a5 := Tryd.isAgg5
 z5 := Tryd.sizeOf5
 v5 := Tryd.zeroValue5
 t9 := Tryd.underlying9
 a9 := Tryd.isAgg9
 z9 := Tryd.sizeOf9
 v9 := Tryd.zeroValue9
 t21 := Tryd.underlying21
 a21 := Tryd.isAgg21
 z21 := Tryd.sizeOf21
 v21 := Tryd.zeroValue21
 t46 := Tryd.underlying39
 a46 := Tryd.isAgg39
 z46 := Tryd.sizeOf39
 v46 := Tryd.zeroValue39
 t105 := Tryd.underlying82
 a105 := Tryd.isAgg82
 z105 := Tryd.sizeOf82
 v105 := Tryd.zeroValue82
 t116 := Tryd.underlying69
 a116 := Tryd.isAgg69
 z116 := Tryd.sizeOf69
 t117 := Tryd.underlying70
 a117 := Tryd.isAgg70
 z117 := Tryd.sizeOf70
 v117 := Tryd.zeroValue70
 t119 := Tryd.underlying106
 a119 := Tryd.isAgg106
 z119 := Tryd.sizeOf106
 t124 := Tryd.underlying73
 a124 := Tryd.isAgg73
 z124 := Tryd.sizeOf73
 v124 := Tryd.zeroValue73
 t138 := Tryd.underlying108
 a138 := Tryd.isAgg108
 z138 := Tryd.sizeOf108
 v138 := Tryd.zeroValue108
 t139 := Tryd.underlying109
 a139 := Tryd.isAgg109
 z139 := Tryd.sizeOf109
 v139 := Tryd.zeroValue109
 g3 := by kernel_rfl
 g4 := by kernel_rfl }
def Tryd.laysM171_ren : Go.Shelf.Ren := ⟨fun | 171 => 43 | 243 => 51 | 246 => 65 | 283 => 73 | 284 => 74 | 285 => 75 | 286 => 76 | 129 => 83 | 317 => 82 | 318 => 84 | 319 => 85 | 320 => 86 | 337 => 91 | 338 => 92 | n => n, fun | 3 => 3 | 9 => 9 | 2 => 2 | 4 => 4 | 171 => 91 | 0 => 0 | 53 => 63 | 37 => 64 | 5 => 5 | 173 => 94 | 212 => 102 | 51 => 103 | 20 => 20 | 213 => 104 | 46 => 39 | 232 => 114 | 233 => 115 | n => n, fun | 17 => 2 | 18 => 6 | 19 => 7 | n => n⟩
theorem Tryd.laysM171 : Go.Proofs.LaysM.n171 Tryd.prog Tryd.laysM171_ren := {
 mixed := by kernel_rfl
 f129 := Tryd.func83.trans (congrArg some (by kernel_rfl))
 f171 := Tryd.func43.trans (congrArg some (by kernel_rfl))
 f243 := Tryd.func51.trans (congrArg some (by kernel_rfl))
 f246 := Tryd.func65.trans (congrArg some (by kernel_rfl))
 f283 := Tryd.func73.trans (congrArg some (by kernel_rfl))
 f284 := Tryd.func74.trans (congrArg some (by kernel_rfl))
 f285 := Tryd.func75.trans (congrArg some (by kernel_rfl))
 f286 := Tryd.func76.trans (congrArg some (by kernel_rfl))
 f317 := Tryd.func82.trans (congrArg some (by kernel_rfl))
 f318 := Tryd.func84.trans (congrArg some (by kernel_rfl))
 f319 := Tryd.func85.trans (congrArg some (by kernel_rfl))
 f320 := Tryd.func86.trans (congrArg some (by kernel_rfl))
 f337 := Tryd.func91.trans (congrArg some (by kernel_rfl))
 f338 := Tryd.func92.trans (congrArg some (by kernel_rfl))
 t0 := Tryd.underlying0
 a0 := Tryd.isAgg0
 z0 := Tryd.sizeOf0
 v0 := Tryd.zeroValue0
 t2 := Tryd.underlying2
 a2 := Tryd.isAgg2
 z2 := Tryd.sizeOf2
 v2 := Tryd.zeroValue2
 t3 := Tryd.underlying3
 a3 := Tryd.isAgg3
 z3 := Tryd.sizeOf3
 v3 := Tryd.zeroValue3
 t4 := Tryd.underlying4
 a4 := Tryd.isAgg4
 z4 := Tryd.sizeOf4
 v4 := Tryd.zeroValue4
 t5 := Tryd.underlying5
 a5 := Tryd.isAgg5
 z5 := Tryd.sizeOf5
 v5 := Tryd.zeroValue5
 t9 := Tryd.underlying9
 a9 := Tryd.isAgg9
 z9 := Tryd.sizeOf9
 v9 := Tryd.zeroValue9
 t20 := Tryd.underlying20
 a20 := Tryd.isAgg20
 z20 := Tryd.sizeOf20
 v20 := Tryd.zeroValue20
 t37 := Tryd.underlying64
 a37 := Tryd.isAgg64
 z37 := Tryd.sizeOf64
 v37 := Tryd.zeroValue64
 t46 := Tryd.underlying39
 a46 := Tryd.isAgg39
 z46 := Tryd.sizeOf39
 v46 := Tryd.zeroValue39
 t51 := Tryd.underlying103
 a51 := Tryd.isAgg103
 z51 := Tryd.sizeOf103
 v51 := Tryd.zeroValue103
 t53 := Tryd.underlying63
 a53 := Tryd.isAgg63
 z53 := Tryd.sizeOf63
 v53 := Tryd.zeroValue63
 t171 := Tryd.underlying91
 a171 := Tryd.isAgg91
 z171 := Tryd.sizeOf91
 v171 := Tryd.zeroValue91
 t173 := Tryd.underlying94
 a173 := Tryd.isAgg94
 z173 := Tryd.sizeOf94
 v173 := Tryd.zeroValue94
 t212 := Tryd.underlying102
 a212 := Tryd.isAgg102
 z212 := Tryd.sizeOf102
 v212 := Tryd.zeroValue102
 t213 := Tryd.underlying104
 a213 := Tryd.isAgg104
 z213 := Tryd.sizeOf104
 t232 := Tryd.underlying114
 a232 := Tryd.isAgg114
 z232 := Tryd.sizeOf114
 v232 := Tryd.zeroValue114
 t233 := Tryd.underlying115
 a233 := Tryd.isAgg115
 z233 := Tryd.sizeOf115
 v233 := Tryd.zeroValue115
 g17 := by kernel_rfl
 g18 := by kernel_rfl
 g19 := by kernel_rfl
 i0 := by kernel_rfl
 i2 := by kernel_rfl
 i3 := by kernel_rfl
 i4 := by kernel_rfl
 i5 := by kernel_rfl
 i9 := by kernel_rfl
 i20 := by kernel_rfl
 i37 := by kernel_rfl
 i46 := by kernel_rfl
 i51 := by kernel_rfl
 i53 := by kernel_rfl
 i171 := by kernel_rfl
 i173 := by kernel_rfl
 i212 := by kernel_rfl
 i232 := by kernel_rfl
 i233 := by kernel_rfl
 m17 := by kernel_rfl
 m18 := by kernel_rfl
 m19 := by kernel_rfl }
open Go.RowKit Go.Sort Go.Lib in
/-- strconv.Itoa: "Itoa is equivalent to FormatInt(int64(i), 10).": i's DECIMAL NUMERAL ('Lib.itoa': a '-' where i is negative, then the digits), FOR EVERY int. The world behind the call: the world before it, new blocks behind the heap (the library's 'var a [24]byte'), draws. (LAID: no walk: one application.) -/
theorem Tryd.strconv_Itoa (n : Int) (h0 : -9223372036854775808 ≤ n) (h1 : n ≤ 9223372036854775807) (w : World) (htab : Lib.TabIs Tryd.prog w "internal/strconv.uint64pow10" .u64 Lib.pow10Tab) :
  Calls Tryd.prog 43 #[.int .i64 n] w fun e w' => e = .returned (.string ⟨(Lib.itoa n).toArray⟩) ∧ ∃ k os, w' = grow (w.drewN k) os := Any.strconv_Itoa Tryd.laysM171 n h0 h1 w htab
def Tryd.laysC172_ren : Go.Shelf.Ren := ⟨fun | 172 => 42 | 244 => 49 | 245 => 50 | 247 => 60 | 279 => 61 | 280 => 62 | 281 => 63 | 282 => 64 | 287 => 70 | 316 => 71 | 171 => 43 | 205 => 72 | 321 => 80 | 322 => 81 | 243 => 51 | 246 => 65 | 283 => 73 | 284 => 74 | 285 => 75 | 286 => 76 | 129 => 83 | 317 => 82 | 318 => 84 | 319 => 85 | 320 => 86 | 337 => 91 | 338 => 92 | n => n, fun | 9 => 9 | 3 => 3 | 75 => 60 | 76 => 61 | 4 => 4 | 5 => 5 | 167 => 74 | 37 => 64 | 0 => 0 | 85 => 75 | 2 => 2 | 168 => 77 | 53 => 63 | 175 => 85 | 46 => 39 | 210 => 89 | 127 => 98 | 145 => 101 | 143 => 99 | 21 => 21 | 171 => 91 | 173 => 94 | 212 => 102 | 51 => 103 | 20 => 20 | 213 => 104 | 232 => 114 | 233 => 115 | 80 => 116 | n => n, fun | 15 => 0 | 16 => 1 | 17 => 2 | 18 => 6 | 19 => 7 | n => n⟩
theorem Tryd.laysC172 : Go.Proofs.LaysC.n172 Tryd.prog Tryd.laysC172_ren := {
 mixed := by kernel_rfl
 f129 := Tryd.func83.trans (congrArg some (by kernel_rfl))
 f171 := Tryd.func43.trans (congrArg some (by kernel_rfl))
 f172 := Tryd.func42.trans (congrArg some (by kernel_rfl))
 f205 := Tryd.func72.trans (congrArg some (by kernel_rfl))
 f243 := Tryd.func51.trans (congrArg some (by kernel_rfl))
 f244 := Tryd.func49.trans (congrArg some (by kernel_rfl))
 f245 := Tryd.func50.trans (congrArg some (by kernel_rfl))
 f246 := Tryd.func65.trans (congrArg some (by kernel_rfl))
 f247 := Tryd.func60.trans (congrArg some (by kernel_rfl))
 f279 := Tryd.func61.trans (congrArg some (by kernel_rfl))
 f280 := Tryd.func62.trans (congrArg some (by kernel_rfl))
 f281 := Tryd.func63.trans (congrArg some (by kernel_rfl))
 f282 := Tryd.func64.trans (congrArg some (by kernel_rfl))
 f283 := Tryd.func73.trans (congrArg some (by kernel_rfl))
 f284 := Tryd.func74.trans (congrArg some (by kernel_rfl))
 f285 := Tryd.func75.trans (congrArg some (by kernel_rfl))
 f286 := Tryd.func76.trans (congrArg some (by kernel_rfl))
 f287 := Tryd.func70.trans (congrArg some (by kernel_rfl))
 f316 := Tryd.func71.trans (congrArg some (by kernel_rfl))
 f317 := Tryd.func82.trans (congrArg some (by kernel_rfl))
 f318 := Tryd.func84.trans (congrArg some (by kernel_rfl))
 f319 := Tryd.func85.trans (congrArg some (by kernel_rfl))
 f320 := Tryd.func86.trans (congrArg some (by kernel_rfl))
 f321 := Tryd.func80.trans (congrArg some (by kernel_rfl))
 f322 := Tryd.func81.trans (congrArg some (by kernel_rfl))
 f337 := Tryd.func91.trans (congrArg some (by kernel_rfl))
 f338 := Tryd.func92.trans (congrArg some (by kernel_rfl))
 t0 := Tryd.underlying0
 a0 := Tryd.isAgg0
 z0 := Tryd.sizeOf0
 v0 := Tryd.zeroValue0
 t2 := Tryd.underlying2
 a2 := Tryd.isAgg2
 z2 := Tryd.sizeOf2
 v2 := Tryd.zeroValue2
 t3 := Tryd.underlying3
 a3 := Tryd.isAgg3
 z3 := Tryd.sizeOf3
 v3 := Tryd.zeroValue3
 t4 := Tryd.underlying4
 a4 := Tryd.isAgg4
 z4 := Tryd.sizeOf4
 v4 := Tryd.zeroValue4
 t5 := Tryd.underlying5
 a5 := Tryd.isAgg5
 z5 := Tryd.sizeOf5
 v5 := Tryd.zeroValue5
 t9 := Tryd.underlying9
 a9 := Tryd.isAgg9
 z9 := Tryd.sizeOf9
 v9 := Tryd.zeroValue9
 t20 := Tryd.underlying20
 a20 := Tryd.isAgg20
 z20 := Tryd.sizeOf20
 v20 := Tryd.zeroValue20
 t21 := Tryd.underlying21
 a21 := Tryd.isAgg21
 z21 := Tryd.sizeOf21
 v21 := Tryd.zeroValue21
 t37 := Tryd.underlying64
 a37 := Tryd.isAgg64
 z37 := Tryd.sizeOf64
 v37 := Tryd.zeroValue64
 t46 := Tryd.underlying39
 a46 := Tryd.isAgg39
 z46 := Tryd.sizeOf39
 v46 := Tryd.zeroValue39
 t51 := Tryd.underlying103
 a51 := Tryd.isAgg103
 z51 := Tryd.sizeOf103
 v51 := Tryd.zeroValue103
 t53 := Tryd.underlying63
 a53 := Tryd.isAgg63
 z53 := Tryd.sizeOf63
 v53 := Tryd.zeroValue63
 t75 := Tryd.underlying60
 a75 := Tryd.isAgg60
 z75 := Tryd.sizeOf60
 v75 := Tryd.zeroValue60
 t76 := Tryd.underlying61
 a76 := Tryd.isAgg61
 z76 := Tryd.sizeOf61
 v76 := Tryd.zeroValue61
 t85 := Tryd.underlying75
 a85 := Tryd.isAgg75
 z85 := Tryd.sizeOf75
 v85 := Tryd.zeroValue75
 t127 := Tryd.underlying98
 a127 := Tryd.isAgg98
 z127 := Tryd.sizeOf98
 v127 := Tryd.zeroValue98
 t143 := Tryd.underlying99
 a143 := Tryd.isAgg99
 z143 := Tryd.sizeOf99
 v143 := Tryd.zeroValue99
 t145 := Tryd.underlying101
 a145 := Tryd.isAgg101
 z145 := Tryd.sizeOf101
 v145 := Tryd.zeroValue101
 t167 := Tryd.underlying74
 a167 := Tryd.isAgg74
 z167 := Tryd.sizeOf74
 v167 := Tryd.zeroValue74
 t168 := Tryd.underlying77
 a168 := Tryd.isAgg77
 z168 := Tryd.sizeOf77
 v168 := Tryd.zeroValue77
 t171 := Tryd.underlying91
 a171 := Tryd.isAgg91
 z171 := Tryd.sizeOf91
 v171 := Tryd.zeroValue91
 t173 := Tryd.underlying94
 a173 := Tryd.isAgg94
 z173 := Tryd.sizeOf94
 v173 := Tryd.zeroValue94
 t175 := Tryd.underlying85
 a175 := Tryd.isAgg85
 z175 := Tryd.sizeOf85
 v175 := Tryd.zeroValue85
 t210 := Tryd.underlying89
 a210 := Tryd.isAgg89
 z210 := Tryd.sizeOf89
 v210 := Tryd.zeroValue89
 t212 := Tryd.underlying102
 a212 := Tryd.isAgg102
 z212 := Tryd.sizeOf102
 v212 := Tryd.zeroValue102
 t213 := Tryd.underlying104
 a213 := Tryd.isAgg104
 z213 := Tryd.sizeOf104
 t232 := Tryd.underlying114
 a232 := Tryd.isAgg114
 z232 := Tryd.sizeOf114
 v232 := Tryd.zeroValue114
 t233 := Tryd.underlying115
 a233 := Tryd.isAgg115
 z233 := Tryd.sizeOf115
 v233 := Tryd.zeroValue115
 g15 := by kernel_rfl
 g16 := by kernel_rfl
 g17 := by kernel_rfl
 g18 := by kernel_rfl
 g19 := by kernel_rfl
 t80 := Tryd.underlying116
 a80 := Tryd.isAgg116
 z80 := Tryd.sizeOf116
 v80 := Tryd.zeroValue116
 i0 := by kernel_rfl
 i2 := by kernel_rfl
 i3 := by kernel_rfl
 i4 := by kernel_rfl
 i5 := by kernel_rfl
 i9 := by kernel_rfl
 i20 := by kernel_rfl
 i21 := by kernel_rfl
 i37 := by kernel_rfl
 i46 := by kernel_rfl
 i51 := by kernel_rfl
 i53 := by kernel_rfl
 i75 := by kernel_rfl
 i76 := by kernel_rfl
 i80 := by kernel_rfl
 i85 := by kernel_rfl
 i127 := by kernel_rfl
 i143 := by kernel_rfl
 i145 := by kernel_rfl
 i167 := by kernel_rfl
 i168 := by kernel_rfl
 i171 := by kernel_rfl
 i173 := by kernel_rfl
 i175 := by kernel_rfl
 i210 := by kernel_rfl
 i212 := by kernel_rfl
 i232 := by kernel_rfl
 i233 := by kernel_rfl
 m15 := by kernel_rfl
 m16 := by kernel_rfl
 m17 := by kernel_rfl
 m18 := by kernel_rfl
 m19 := by kernel_rfl
 c0 := by kernel_rfl
 c2 := by kernel_rfl
 c3 := by kernel_rfl
 c4 := by kernel_rfl
 c5 := by kernel_rfl
 c9 := by kernel_rfl
 c20 := by kernel_rfl
 c21 := by kernel_rfl
 c37 := by kernel_rfl
 c46 := by kernel_rfl
 c51 := by kernel_rfl
 c53 := by kernel_rfl
 c75 := by kernel_rfl
 c76 := by kernel_rfl
 c80 := by kernel_rfl
 c85 := by kernel_rfl
 c127 := by kernel_rfl
 c143 := by kernel_rfl
 c145 := by kernel_rfl
 c167 := by kernel_rfl
 c168 := by kernel_rfl
 c171 := by kernel_rfl
 c173 := by kernel_rfl
 c175 := by kernel_rfl
 c210 := by kernel_rfl
 c212 := by kernel_rfl
 c213 := by kernel_rfl
 c232 := by kernel_rfl
 c233 := by kernel_rfl }
open Go.RowKit in
/-- strconv.Atoi, AT EVERY STRING THAT SPELLS AN int ('Lib.atoiAll .. = .ok v'; of whatever length: leading zeros count): v, AND NO ERROR. The world: as it was, or with the one new row that '[]byte(..)' lays. (LAID: no walk: one application.) -/
theorem Tryd.strconv_Atoi_ok (s : ByteArray) (hmax : s.size ≤ 9223372036854775806) (v : Int) (h : Lib.atoiAll s.data.toList = .ok v) (w : World) :
  Calls Tryd.prog 42 #[.string s] w fun e w' => e = .returned (.tuple #[.int .i64 v, .nilIface]) ∧ (w' = w ∨ ∃ t, w' = Lib.bytesWorld w 5 t) := Any.strconv_Atoi_ok Tryd.laysC172 s hmax v h w
open Go.RowKit in
theorem Tryd.strconv_Atoi_range_var (s : ByteArray) (hlim : s.size ≤ 281474976710656) (h : Lib.atoiAll s.data.toList = .range) (tp : TypeId) (p : Value) (w : World) (hvar : w.var? Tryd.prog "strconv.ErrRange" = some #[.iface tp p]) :
  Calls Tryd.prog 42 #[.string s] w fun e w' => ∃ N, e = .returned (.tuple #[.int .i64 (Lib.atoiSat s.data.toList), .iface 77 (.pointer (some ⟨N, 0, none⟩))]) ∧ w.heap.size ≤ N ∧ w'.heap[N]? = some (.cells #[.string ⟨#[65, 116, 111, 105]⟩, .string s, .iface tp p] 89 (0, 0)) ∧ Below w.heap.size w w' := Any.strconv_Atoi_range_var Tryd.laysC172 s hlim h tp p w hvar
end Go.Proofs
/- num.isDigits, num.Parse, num.Text: by hand, over the shelf's contracts. -/
namespace Go.Proofs.YtcmppjonpmgncaaDoor.Q
open Go.RowKit Go.Proofs.YtcmppjonpmgncaaDoorW.PrintWords Go.Proofs.YtcmppjonpmgncaaDoorW.PrintLast Go.Proofs.YtcmppjonpmgncaaDoorW.PrintMore
set_option linter.unusedVariables false
set_option linter.unusedSimpArgs false
open Go.Shelf
theorem var_old {n : String} {w w' : World} {cs : Array Value} (h : w.var? Tryd.prog n = some cs) (hb : Below w.heap.size w w') : w'.var? Tryd.prog n = some cs := by
 unfold World.var? at h ⊢
 cases hg : Tryd.prog.globalNamed n with
 | none => simp [hg] at h
 | some g =>
  simp only [hg, Option.bind_some] at h ⊢
  have hlt : g < w.heap.size := by
   rcases Nat.lt_or_ge g w.heap.size with h1 | h1
   ·exact h1
   ·rw [Array.getElem?_eq_none h1] at h
    cases h
  rw [hb.block g hlt]
  exact h
/-- What a call reads of the package-level variables. -/
def Glob (w : World) : Prop := Lib.TabIs Tryd.prog w "internal/strconv.uint64pow10" .u64 Lib.pow10Tab ∧ (∃ tp p, w.var? Tryd.prog "strconv.ErrSyntax" = some #[.iface tp p]) ∧ (∃ tp p, w.var? Tryd.prog "strconv.ErrRange" = some #[.iface tp p])
theorem Glob.below {w w' : World} (h : Glob w) (hb : Below w.heap.size w w') : Glob w' := by
 obtain ⟨h1, ⟨t2, p2, h2⟩, ⟨t3, p3, h3⟩⟩ := h
 exact ⟨var_old h1 hb, ⟨t2, p2, var_old h2 hb⟩, ⟨t3, p3, var_old h3 hb⟩⟩
def cut09 : List UInt8 := [48, 49, 50, 51, 52, 53, 54, 55, 56, 57]
def isDigL (l : List UInt8) : Bool := !l.isEmpty && (Lib.trimS l cut09).isEmpty && (l.head? != some 48 || l == [48])
def num_isDigits.f (a0 : ByteArray) : Option Bool := if a0.size ≤ 9223372036854775807 then some (isDigL a0.data.toList) else none
theorem head_at (s : ByteArray) (h : 0 < s.size) : s.toList.head? = some s[0] := by
 rw [Lib.toList_data, List.head?_eq_getElem?, Array.getElem?_toList]
 exact Array.getElem?_eq_getElem h
theorem num_isDigits.calls (a0 : ByteArray) (r : Bool) (w : World) (h : num_isDigits.f a0 = some r) :
  Calls Tryd.prog 41 #[.string a0] w fun e w' => e = .returned (.bool r) ∧ Below w.heap.size w w' := by
 unfold num_isDigits.f at h
 split at h
 ·rename_i hs
  obtain rfl := Option.some.inj h
  clear h
  have hcon := Any.strings_Trim_laid Tryd.lays160 (by kernel_rfl) a0 ⟨#[48, 49, 50, 51, 52, 53, 54, 55, 56, 57]⟩ w hs (by decide) (ascii_of_all (by decide))
  change Calls Tryd.prog 48 _ _ (fun e w' => e = .returned (.string ⟨(Lib.trimS a0.data.toList cut09).toArray⟩) ∧ Below w.heap.size w w') at hcon
  obtain ⟨t, ht⟩ : ∃ t : ByteArray, t = (⟨(Lib.trimS a0.data.toList cut09).toArray⟩ : ByteArray) := ⟨_, rfl⟩
  rw [← ht] at hcon
  have hN : isDigL a0.data.toList = (!a0.toList.isEmpty && (Lib.trimS a0.data.toList cut09).isEmpty && (a0.toList.head? != some 48 || a0.toList == [48])) := by rw [isDigL, Lib.toList_data]
  rw [hN]
  clear hN
  by_cases he : a0.toList = []
  ·go_enter Tryd.func41, Tryd.ntmps41
   go_wp2_with (go_at_call 48; refine hcon.mono ?_; rintro e w' ⟨rfl, hB⟩)
   go_ret
   exact ⟨by simp [he], Below.refl _ _⟩
  ·have hp : 0 < a0.size := by
    rcases Nat.eq_zero_or_pos a0.size with h | h
    ·exact absurd (by rw [Lib.toList_data]; exact List.eq_nil_of_length_eq_zero (by rw [Array.length_toList]; exact h)) he
    ·exact h
   have h0 := head_at a0 hp
   have hn : (!a0.toList.isEmpty) = true := by cases hl : a0.toList with | nil => exact absurd hl he | cons _ _ => rfl
   have H0 := Aside0.mk h0
   clear h0
   rcases hT : Lib.trimS a0.data.toList cut09 with _ | ⟨x, y⟩
   ·rw [hT] at ht
    subst ht
    go_enter Tryd.func41, Tryd.ntmps41
    go_wp2_with (go_at_call 48; refine hcon.mono ?_; rintro e w' ⟨rfl, hB⟩)
    all_goals go_ret
    all_goals refine ⟨?_, by assumption⟩
    all_goals rw [H0.out]
    all_goals rename_i h_
    ·have h48 : a0[0].toNat = 48 := by omega
     have : a0[0] = 48 := UInt8.toNat_inj.mp (by rw [h48]; rfl)
     simp [hn, this]
    ·have : a0[0] ≠ 48 := fun e => h_ (by rw [e]; rfl)
     simp [hn, this]
   ·have hl : t.toList = x :: y := by rw [ht, hT, Lib.toList_data]
    have ht' : t ≠ ⟨#[]⟩ := fun e => by rw [e] at hl; rw [Lib.toList_data] at hl; simp at hl
    have hne : ¬ t.toList = [] := by rw [hl]; simp
    have HL := Aside0.mk hl
    clear hl ht
    go_enter Tryd.func41, Tryd.ntmps41
    go_wp2_with (go_at_call 48; refine hcon.mono ?_; rintro e w' ⟨rfl, hB⟩)
    go_ret
    exact ⟨by simp, hB⟩
 ·cases h
def num_Text.f (a0 : Int) : Option ByteArray := if -9223372036854775808 ≤ a0 ∧ a0 ≤ 9223372036854775807 then some ⟨(Lib.itoa a0).toArray⟩ else none
theorem num_Text.calls (a0 : Int) (r : ByteArray) (w : World) (h : num_Text.f a0 = some r) (hG : Glob w := by first | assumption | (refine Glob.below (by assumption) ?_; repeat (first | exact (Aside0.out (by assumption)) | (with_reducible first | apply below_alloc | apply pw_below_drewN | apply below_drew1)))) :
  Calls Tryd.prog 22 #[.int .i64 a0] w fun e w' => e = .returned (.string r) ∧ Below w.heap.size w w' := by
 unfold num_Text.f at h
 split at h
 ·rename_i hs
  obtain rfl := Option.some.inj h
  clear h
  go_enter Tryd.func22, Tryd.ntmps22
  go_wp2_with (go_at_call 43; refine (Tryd.strconv_Itoa a0 hs.1 hs.2 _ hG.1).mono ?_; rintro e w' ⟨rfl, k, os, rfl⟩)
  go_ret
  exact ⟨rfl, Lib.below_grow _ _ (Nat.le_refl _) _ _⟩
 ·cases h
def trimP (s : ByteArray) : ByteArray := if s.toList.head? = some 45 then s.extract 1 s.size else s
theorem trimP_some (s : ByteArray) : strings_TrimPrefix.f s ⟨#[45]⟩ = some (trimP s) := by
 unfold strings_TrimPrefix.f stringslite_TrimPrefix.f stringslite_HasPrefix.f trimP
 have e1 : (⟨#[45]⟩ : ByteArray).size = 1 := rfl
 have e2 : (⟨#[45]⟩ : ByteArray).toList = [45] := by rw [Lib.toList_data]
 rw [e1, e2]
 by_cases hp : 0 < s.size
 ·have e3 : (s.extract 0 1).toList = s.toList.take 1 := by rw [Lib.toList_data, Lib.toList_data]; simp
  have e4 : s.toList.take 1 = [s[0]] := by
   have := head_at s hp
   cases hl : s.toList with
   | nil => rw [hl] at this; cases this
   | cons a b => rw [hl] at this; simp at this; simp [this]
  have e5 : (s.extract 0 ((1 : Nat) : Int).toNat).toList = [s[0]] := by rw [show ((1 : Nat) : Int).toNat = 1 from rfl, e3, e4]
  rw [e5, head_at s hp]
  simp [show (s.size : Int) ≥ 1 by omega, show (1 : Int) ≤ s.size by omega]
  by_cases h45 : s[0] = 45 <;> simp [h45]
 ·have hz : s.size = 0 := by omega
  have hl : s.toList = [] := by rw [Lib.toList_data]; exact List.eq_nil_of_length_eq_zero (by rw [Array.length_toList]; exact hz)
  simp [hz, hl]
/-- What Parse answers: the number, and the error's number. -/
def parseN (s : ByteArray) : Int × Int := if isDigL (trimP s).data.toList = false ∨ s.toList = [45, 48] then (0, 1) else match Lib.atoiAll s.data.toList with | .ok v => (v, 0) | _ => (0, 2)
def num_Parse.f (a0 : ByteArray) : Option (Int × Int) := if a0.size ≤ 140737488351232 then some (parseN a0) else none
theorem trimP_size (s : ByteArray) : (trimP s).size ≤ s.size := by
 unfold trimP
 split
 ·simp [ByteArray.size_extract]
 ·exact Nat.le_refl _
set_option maxHeartbeats 400000 in
theorem num_Parse.calls (a0 : ByteArray) (r1 : Int) (r2 : Int) (w : World) (h : num_Parse.f a0 = some (r1, r2)) (hG : Glob w := by first | assumption | (refine Glob.below (by assumption) ?_; repeat (first | exact (Aside0.out (by assumption)) | (with_reducible first | apply below_alloc | apply pw_below_drewN | apply below_drew1)))) :
  Calls Tryd.prog 20 #[.string a0] w fun e w' => e = .returned (.tuple #[.int .i64 r1, .int .i64 r2]) ∧ Below w.heap.size w w' := by
 unfold num_Parse.f at h
 split at h
 ·rename_i hs
  have h := Option.some.inj h
  unfold parseN at h
  have hD0 : num_isDigits.f (trimP a0) = some (isDigL (trimP a0).data.toList) := by unfold num_isDigits.f; rw [if_pos (by have := trimP_size a0; omega)]
  have HD0 := Aside0.mk hD0
  clear hD0
  have HS := Aside0.mk hs
  clear hs
  go_enter Tryd.func20, Tryd.ntmps20
  go_wp2_with fail
  refine (strings_TrimPrefix.calls a0 ⟨#[45]⟩ (trimP a0) w (trimP_some a0)).mono ?_
  rintro e w1 ⟨rfl, hd⟩
  have HB1 := Aside0.mk hd.below
  clear hd
  go_wp2_with fail
  refine (num_isDigits.calls (trimP a0) _ _ HD0.out).mono ?_
  rintro e w2 ⟨rfl, hb2⟩
  have HB2 := Aside0.mk (HB1.out.trans (hb2.mono HB1.out.size))
  clear hb2
  rcases hD : isDigL (trimP a0).data.toList with _ | _
  ·rw [if_pos (Or.inl hD)] at h
   obtain ⟨rfl, rfl⟩ := Prod.mk.inj h
   go_wp2
   go_ret2
   exact ⟨rfl, HB2.out⟩
  ·by_cases h0 : a0.toList = [45, 48]
   ·rw [if_pos (Or.inr h0)] at h
    obtain ⟨rfl, rfl⟩ := Prod.mk.inj h
    go_wp2
    go_ret2
    exact ⟨rfl, HB2.out⟩
   ·rw [if_neg (by rw [hD]; simp [h0])] at h
    have hG2 := hG.below HB2.out
    have h0b : (a0.toList == [45, 48]) = false := beq_eq_false_iff_ne.mpr h0
    clear hD HD0 h0
    rcases hA : Lib.atoiAll a0.data.toList with v | _ | _
    ·rw [hA] at h
     obtain ⟨rfl, rfl⟩ := Prod.mk.inj h
     have hc := Tryd.strconv_Atoi_ok a0 (by have := HS.out; omega) v hA w2
     clear hA h
     go_wp2_with fail
     refine hc.mono ?_
     rintro e w3 ⟨rfl, hw⟩
     have HB3 : Aside0 (Below w.heap.size w w3) := ⟨HB2.out.trans ((show Below w2.heap.size w2 w3 by rcases hw with rfl | ⟨t, rfl⟩ <;> first | exact Below.refl _ _ | exact Lib.bytesWorld_below _ _ _).mono HB2.out.size)⟩
     clear hw
     go_wp2
     go_ret2
     exact ⟨rfl, HB3.out⟩
    ·rw [hA] at h
     obtain ⟨rfl, rfl⟩ := Prod.mk.inj h
     obtain ⟨_, ⟨tp, p, hv⟩, _⟩ := hG2
     have hc : Calls Tryd.prog 42 #[.string a0] w2 fun e w' => ∃ N, e = .returned (.tuple #[.int .i64 0, .iface 77 (.pointer (some ⟨N, 0, none⟩))]) ∧ w2.heap.size ≤ N ∧ w'.heap[N]? = some (.cells #[.string ⟨#[65, 116, 111, 105]⟩, .string a0, .iface tp p] 89 (0, 0)) ∧ Below w2.heap.size w2 w' := Any.strconv_Atoi_syntax_var Tryd.laysC172 a0 (by have := HS.out; omega) hA tp p w2 hv
     clear hA h hv
     go_wp2_with fail
     refine hc.mono ?_
     rintro e w3 ⟨N, rfl, h1, h2, h3⟩
     have HB3 : Aside0 (Below w.heap.size w w3) := ⟨HB2.out.trans (h3.mono HB2.out.size)⟩
     clear h1 h2 h3
     go_wp2
     go_ret2
     exact ⟨rfl, HB3.out⟩
    ·rw [hA] at h
     obtain ⟨rfl, rfl⟩ := Prod.mk.inj h
     obtain ⟨_, _, ⟨tp, p, hv⟩⟩ := hG2
     have hc := Tryd.strconv_Atoi_range_var a0 (by have := HS.out; omega) hA tp p w2 hv
     clear hA h hv
     go_wp2_with fail
     refine hc.mono ?_
     rintro e w3 ⟨N, rfl, h1, h2, h3⟩
     have HB3 : Aside0 (Below w.heap.size w w3) := ⟨HB2.out.trans (h3.mono HB2.out.size)⟩
     clear h1 h2 h3
     go_wp2
     go_ret2
     exact ⟨rfl, HB3.out⟩
 ·cases h
end Go.Proofs.YtcmppjonpmgncaaDoor.Q
namespace Go.Proofs.YtcmppjonpmgncaaDoor.Q
open Go.RowKit Go.Proofs.YtcmppjonpmgncaaDoorW.PrintWords Go.Proofs.YtcmppjonpmgncaaDoorW.PrintLast Go.Proofs.YtcmppjonpmgncaaDoorW.PrintMore
attribute [local go_sem] max2_int min2_int max_two min_two max_three min_three max_four min_four   -- for this text's walks alone
set_option linter.unusedVariables false
set_option linter.unusedSimpArgs false
/-! ### truantlaw01_awake: function 10 -/
def truantlaw01_awake.f (k : Nat)  : Option (Bool) := (num_Do.f k 10 (-5) 1).bind fun bt177 => ((num_Do.f k 4 (-9223372036854775808) (-1)).bind fun bt179 => ((num_Do.f k 5 5 0).bind fun bt181 => ((num_Do.f k 19 1 1).bind fun bt183 => ((num_Parse.f (⟨#[45, 49, 50]⟩ : ByteArray)).bind fun bt185 => ((num_Signed.f k (⟨#[45]⟩ : ByteArray) 1).bind fun bt187 => (if bt177.2 = 0 then (if bt177.1 = (-3) then (if bt179.2 = 0 then (if bt179.1 = (-9223372036854775808) then (if bt181.2 = 11 then (if bt183.2 = 9 then (if bt185.2 = 0 then (if bt185.1 = (-12) then (if bt187.2 = true then (if bt187.1 = 17 then ((num_Sign.f 9).bind fun t189 => (if t189.toList = ([60, 60] : List UInt8) then ((num_Level.f k 8).bind fun t190 => (if t190 = 4 then ((num_Swap.f k 14).bind fun t191 => (if t191 = 16 then ((num_Text.f (-7)).bind fun t192 => (some (t192.toList == ([45, 55] : List UInt8)))) else (none))) else (none))) else (none))) else (none)) else (none)) else (none)) else (none)) else (none)) else (none)) else (none)) else (none)) else (none)) else (none)))))))
theorem truantlaw01_awake.mono : ∀ k, LeO (truantlaw01_awake.f k ) (truantlaw01_awake.f (k + 1) ) := by
 intro  k
 unfold truantlaw01_awake.f
 repeat' first
   | (with_reducible exact num_Do.mono _ _ _ _)
   | (with_reducible exact num_Level.mono _ _)
   | (with_reducible exact num_Signed.mono _ _ _)
   | (with_reducible exact num_Swap.mono _ _)
   | (with_reducible exact LeO.refl _)
   | (with_reducible exact LeO.none _)
   | (with_reducible refine LeO.ite ?_ ?_)
   | (with_reducible refine LeO.bind ?_ (fun _ => ?_))
   | exact num_Do.mono _ _ _ _
   | exact num_Level.mono _ _
   | exact num_Signed.mono _ _ _
   | exact num_Swap.mono _ _
   | exact LeO.none _
   | refine LeO.ite ?_ ?_
   | refine LeO.bind ?_ (fun _ => ?_)
set_option maxHeartbeats 8000000 in
set_option maxRecDepth 100000 in
theorem truantlaw01_awake.calls (k : Nat)  (r : Bool) (w : World) (h : truantlaw01_awake.f k  = some r) (hG : Glob w := by first | assumption | (refine Glob.below (by assumption) ?_; repeat (first | with_reducible exact (Aside0.out (by assumption)) | (refine below_set ?_ (Aside0.out (by assumption))) | (with_reducible first | apply below_alloc | apply pw_below_drewN | apply below_drew1) | exact (Aside0.out (by assumption))))) :
  Calls Tryd.prog 10 #[] w fun e w' => e = .returned (.bool r) ∧ Below w.heap.size w w' := by
 have HB := Aside0.mk (Below.refl w.heap.size w)
 have H : ((num_Do.f k 10 (-5) 1).bind fun bt177 => ((num_Do.f k 4 (-9223372036854775808) (-1)).bind fun bt179 => ((num_Do.f k 5 5 0).bind fun bt181 => ((num_Do.f k 19 1 1).bind fun bt183 => ((num_Parse.f (⟨#[45, 49, 50]⟩ : ByteArray)).bind fun bt185 => ((num_Signed.f k (⟨#[45]⟩ : ByteArray) 1).bind fun bt187 => (if bt177.2 = 0 then (if bt177.1 = (-3) then (if bt179.2 = 0 then (if bt179.1 = (-9223372036854775808) then (if bt181.2 = 11 then (if bt183.2 = 9 then (if bt185.2 = 0 then (if bt185.1 = (-12) then (if bt187.2 = true then (if bt187.1 = 17 then ((num_Sign.f 9).bind fun t189 => (if t189.toList = ([60, 60] : List UInt8) then ((num_Level.f k 8).bind fun t190 => (if t190 = 4 then ((num_Swap.f k 14).bind fun t191 => (if t191 = 16 then ((num_Text.f (-7)).bind fun t192 => (some (t192.toList == ([45, 55] : List UInt8)))) else (none))) else (none))) else (none))) else (none)) else (none)) else (none)) else (none)) else (none)) else (none)) else (none)) else (none)) else (none)) else (none)))))))) = some r := h
 clear h
 replace H := Option.bind_eq_some_iff.mp H
 obtain ⟨⟨t177, t178⟩, A10, H⟩ := H
 replace H : ((num_Do.f k 4 (-9223372036854775808) (-1)).bind fun bt179 => ((num_Do.f k 5 5 0).bind fun bt181 => ((num_Do.f k 19 1 1).bind fun bt183 => ((num_Parse.f (⟨#[45, 49, 50]⟩ : ByteArray)).bind fun bt185 => ((num_Signed.f k (⟨#[45]⟩ : ByteArray) 1).bind fun bt187 => (if t178 = 0 then (if t177 = (-3) then (if bt179.2 = 0 then (if bt179.1 = (-9223372036854775808) then (if bt181.2 = 11 then (if bt183.2 = 9 then (if bt185.2 = 0 then (if bt185.1 = (-12) then (if bt187.2 = true then (if bt187.1 = 17 then ((num_Sign.f 9).bind fun t189 => (if t189.toList = ([60, 60] : List UInt8) then ((num_Level.f k 8).bind fun t190 => (if t190 = 4 then ((num_Swap.f k 14).bind fun t191 => (if t191 = 16 then ((num_Text.f (-7)).bind fun t192 => (some (t192.toList == ([45, 55] : List UInt8)))) else (none))) else (none))) else (none))) else (none)) else (none)) else (none)) else (none)) else (none)) else (none)) else (none)) else (none)) else (none)) else (none))))))) = some r := H
 have A1 := Aside0.mk A10
 clear A10
 replace H := Option.bind_eq_some_iff.mp H
 obtain ⟨⟨t179, t180⟩, A20, H⟩ := H
 replace H : ((num_Do.f k 5 5 0).bind fun bt181 => ((num_Do.f k 19 1 1).bind fun bt183 => ((num_Parse.f (⟨#[45, 49, 50]⟩ : ByteArray)).bind fun bt185 => ((num_Signed.f k (⟨#[45]⟩ : ByteArray) 1).bind fun bt187 => (if t178 = 0 then (if t177 = (-3) then (if t180 = 0 then (if t179 = (-9223372036854775808) then (if bt181.2 = 11 then (if bt183.2 = 9 then (if bt185.2 = 0 then (if bt185.1 = (-12) then (if bt187.2 = true then (if bt187.1 = 17 then ((num_Sign.f 9).bind fun t189 => (if t189.toList = ([60, 60] : List UInt8) then ((num_Level.f k 8).bind fun t190 => (if t190 = 4 then ((num_Swap.f k 14).bind fun t191 => (if t191 = 16 then ((num_Text.f (-7)).bind fun t192 => (some (t192.toList == ([45, 55] : List UInt8)))) else (none))) else (none))) else (none))) else (none)) else (none)) else (none)) else (none)) else (none)) else (none)) else (none)) else (none)) else (none)) else (none)))))) = some r := H
 have A2 := Aside0.mk A20
 clear A20
 replace H := Option.bind_eq_some_iff.mp H
 obtain ⟨⟨t181, t182⟩, A30, H⟩ := H
 replace H : ((num_Do.f k 19 1 1).bind fun bt183 => ((num_Parse.f (⟨#[45, 49, 50]⟩ : ByteArray)).bind fun bt185 => ((num_Signed.f k (⟨#[45]⟩ : ByteArray) 1).bind fun bt187 => (if t178 = 0 then (if t177 = (-3) then (if t180 = 0 then (if t179 = (-9223372036854775808) then (if t182 = 11 then (if bt183.2 = 9 then (if bt185.2 = 0 then (if bt185.1 = (-12) then (if bt187.2 = true then (if bt187.1 = 17 then ((num_Sign.f 9).bind fun t189 => (if t189.toList = ([60, 60] : List UInt8) then ((num_Level.f k 8).bind fun t190 => (if t190 = 4 then ((num_Swap.f k 14).bind fun t191 => (if t191 = 16 then ((num_Text.f (-7)).bind fun t192 => (some (t192.toList == ([45, 55] : List UInt8)))) else (none))) else (none))) else (none))) else (none)) else (none)) else (none)) else (none)) else (none)) else (none)) else (none)) else (none)) else (none)) else (none))))) = some r := H
 have A3 := Aside0.mk A30
 clear A30
 replace H := Option.bind_eq_some_iff.mp H
 obtain ⟨⟨t183, t184⟩, A40, H⟩ := H
 replace H : ((num_Parse.f (⟨#[45, 49, 50]⟩ : ByteArray)).bind fun bt185 => ((num_Signed.f k (⟨#[45]⟩ : ByteArray) 1).bind fun bt187 => (if t178 = 0 then (if t177 = (-3) then (if t180 = 0 then (if t179 = (-9223372036854775808) then (if t182 = 11 then (if t184 = 9 then (if bt185.2 = 0 then (if bt185.1 = (-12) then (if bt187.2 = true then (if bt187.1 = 17 then ((num_Sign.f 9).bind fun t189 => (if t189.toList = ([60, 60] : List UInt8) then ((num_Level.f k 8).bind fun t190 => (if t190 = 4 then ((num_Swap.f k 14).bind fun t191 => (if t191 = 16 then ((num_Text.f (-7)).bind fun t192 => (some (t192.toList == ([45, 55] : List UInt8)))) else (none))) else (none))) else (none))) else (none)) else (none)) else (none)) else (none)) else (none)) else (none)) else (none)) else (none)) else (none)) else (none)))) = some r := H
 have A4 := Aside0.mk A40
 clear A40
 replace H := Option.bind_eq_some_iff.mp H
 obtain ⟨⟨t185, t186⟩, A50, H⟩ := H
 replace H : ((num_Signed.f k (⟨#[45]⟩ : ByteArray) 1).bind fun bt187 => (if t178 = 0 then (if t177 = (-3) then (if t180 = 0 then (if t179 = (-9223372036854775808) then (if t182 = 11 then (if t184 = 9 then (if t186 = 0 then (if t185 = (-12) then (if bt187.2 = true then (if bt187.1 = 17 then ((num_Sign.f 9).bind fun t189 => (if t189.toList = ([60, 60] : List UInt8) then ((num_Level.f k 8).bind fun t190 => (if t190 = 4 then ((num_Swap.f k 14).bind fun t191 => (if t191 = 16 then ((num_Text.f (-7)).bind fun t192 => (some (t192.toList == ([45, 55] : List UInt8)))) else (none))) else (none))) else (none))) else (none)) else (none)) else (none)) else (none)) else (none)) else (none)) else (none)) else (none)) else (none)) else (none))) = some r := H
 have A5 := Aside0.mk A50
 clear A50
 replace H := Option.bind_eq_some_iff.mp H
 obtain ⟨⟨t187, t188⟩, A60, H⟩ := H
 replace H : (if t178 = 0 then (if t177 = (-3) then (if t180 = 0 then (if t179 = (-9223372036854775808) then (if t182 = 11 then (if t184 = 9 then (if t186 = 0 then (if t185 = (-12) then (if t188 = true then (if t187 = 17 then ((num_Sign.f 9).bind fun t189 => (if t189.toList = ([60, 60] : List UInt8) then ((num_Level.f k 8).bind fun t190 => (if t190 = 4 then ((num_Swap.f k 14).bind fun t191 => (if t191 = 16 then ((num_Text.f (-7)).bind fun t192 => (some (t192.toList == ([45, 55] : List UInt8)))) else (none))) else (none))) else (none))) else (none)) else (none)) else (none)) else (none)) else (none)) else (none)) else (none)) else (none)) else (none)) else (none)) = some r := H
 have A6 := Aside0.mk A60
 clear A60
 by_cases c7 : t178 = 0
 ·rw [if_pos c7] at H
  have c7b0 : (t178 == 0) = true := beq_iff_eq.mpr c7
  have c7b1 : (t178 != 0) = false := bne_eq_false_iff_eq.mpr c7
  clear c7
  by_cases c8 : t177 = (-3)
  ·rw [if_pos c8] at H
   have c8b0 : (t177 == (-3)) = true := beq_iff_eq.mpr c8
   have c8b1 : (t177 != (-3)) = false := bne_eq_false_iff_eq.mpr c8
   clear c8
   by_cases c9 : t180 = 0
   ·rw [if_pos c9] at H
    have c9b0 : (t180 == 0) = true := beq_iff_eq.mpr c9
    have c9b1 : (t180 != 0) = false := bne_eq_false_iff_eq.mpr c9
    clear c9
    by_cases c10 : t179 = (-9223372036854775808)
    ·rw [if_pos c10] at H
     have c10b0 : (t179 == (-9223372036854775808)) = true := beq_iff_eq.mpr c10
     have c10b1 : (t179 != (-9223372036854775808)) = false := bne_eq_false_iff_eq.mpr c10
     clear c10
     by_cases c11 : t182 = 11
     ·rw [if_pos c11] at H
      have c11b0 : (t182 == 11) = true := beq_iff_eq.mpr c11
      have c11b1 : (t182 != 11) = false := bne_eq_false_iff_eq.mpr c11
      clear c11
      by_cases c12 : t184 = 9
      ·rw [if_pos c12] at H
       have c12b0 : (t184 == 9) = true := beq_iff_eq.mpr c12
       have c12b1 : (t184 != 9) = false := bne_eq_false_iff_eq.mpr c12
       clear c12
       by_cases c13 : t186 = 0
       ·rw [if_pos c13] at H
        have c13b0 : (t186 == 0) = true := beq_iff_eq.mpr c13
        have c13b1 : (t186 != 0) = false := bne_eq_false_iff_eq.mpr c13
        clear c13
        by_cases c14 : t185 = (-12)
        ·rw [if_pos c14] at H
         have c14b0 : (t185 == (-12)) = true := beq_iff_eq.mpr c14
         have c14b1 : (t185 != (-12)) = false := bne_eq_false_iff_eq.mpr c14
         clear c14
         by_cases c15 : t188 = true
         ·subst c15
          have H1 : (if t187 = 17 then ((num_Sign.f 9).bind fun t189 => (if t189.toList = ([60, 60] : List UInt8) then ((num_Level.f k 8).bind fun t190 => (if t190 = 4 then ((num_Swap.f k 14).bind fun t191 => (if t191 = 16 then ((num_Text.f (-7)).bind fun t192 => (some (t192.toList == ([45, 55] : List UInt8)))) else (none))) else (none))) else (none))) else (none)) = some r := by rw [if_pos rfl] at H; exact H
          clear H
          have H := H1
          clear H1
          by_cases c16 : t187 = 17
          ·rw [if_pos c16] at H
           have c16b0 : (t187 == 17) = true := beq_iff_eq.mpr c16
           have c16b1 : (t187 != 17) = false := bne_eq_false_iff_eq.mpr c16
           clear c16
           replace H := Option.bind_eq_some_iff.mp H
           obtain ⟨t189, A170, H⟩ := H
           replace H : (if t189.toList = ([60, 60] : List UInt8) then ((num_Level.f k 8).bind fun t190 => (if t190 = 4 then ((num_Swap.f k 14).bind fun t191 => (if t191 = 16 then ((num_Text.f (-7)).bind fun t192 => (some (t192.toList == ([45, 55] : List UInt8)))) else (none))) else (none))) else (none)) = some r := H
           have A17 := Aside0.mk A170
           clear A170
           by_cases c18 : t189.toList = ([60, 60] : List UInt8)
           ·rw [if_pos c18] at H
            have c18b0 : (t189.toList == ([60, 60] : List UInt8)) = true := beq_iff_eq.mpr c18
            have c18b1 : (t189.toList != ([60, 60] : List UInt8)) = false := bne_eq_false_iff_eq.mpr c18
            clear c18
            replace H := Option.bind_eq_some_iff.mp H
            obtain ⟨t190, A190, H⟩ := H
            replace H : (if t190 = 4 then ((num_Swap.f k 14).bind fun t191 => (if t191 = 16 then ((num_Text.f (-7)).bind fun t192 => (some (t192.toList == ([45, 55] : List UInt8)))) else (none))) else (none)) = some r := H
            have A19 := Aside0.mk A190
            clear A190
            by_cases c20 : t190 = 4
            ·rw [if_pos c20] at H
             have c20b0 : (t190 == 4) = true := beq_iff_eq.mpr c20
             have c20b1 : (t190 != 4) = false := bne_eq_false_iff_eq.mpr c20
             clear c20
             replace H := Option.bind_eq_some_iff.mp H
             obtain ⟨t191, A210, H⟩ := H
             replace H : (if t191 = 16 then ((num_Text.f (-7)).bind fun t192 => (some (t192.toList == ([45, 55] : List UInt8)))) else (none)) = some r := H
             have A21 := Aside0.mk A210
             clear A210
             by_cases c22 : t191 = 16
             ·rw [if_pos c22] at H
              have c22b0 : (t191 == 16) = true := beq_iff_eq.mpr c22
              have c22b1 : (t191 != 16) = false := bne_eq_false_iff_eq.mpr c22
              clear c22
              replace H := Option.bind_eq_some_iff.mp H
              obtain ⟨t192, A230, H⟩ := H
              replace H : (some (t192.toList == ([45, 55] : List UInt8))) = some r := H
              have A23 := Aside0.mk A230
              clear A230
              obtain rfl := Option.some.inj H
              go_enter Tryd.func10, Tryd.ntmps10
              go_wp2_with (first | ((with_reducible refine gate_callee (f := 11) rfl ?_); refine goesL_ (some 14) rfl rfl Tryd.func11 (by kernel_rfl) rfl #[.int .i64 10, .int .i64 (-5), .int .i64 1] rfl (by (try simp only [List.map_toArray, List.map_cons, List.map_nil]); first | done | rfl | (simp only [List.length_drop, List.length_take]; rfl)) ?_; (with_reducible refine (num_Do.calls k 10 (-5) 1 t177 t178 _ A1.out).mono ?_); rintro e w24 ⟨rfl, hb⟩; refine ⟨_, rfl, ?_⟩; have n0_ := Aside0.mk (below_step (by repeat (first | (with_reducible first | exact HB.out | apply below_alloc | apply pw_below_drewN | apply below_drew1) | exact HB.out)) hb); clear HB; have HB := n0_; clear n0_; (try clear hb); (try clear hb2); (try clear hk); (try clear hi)) | ((with_reducible refine gate_callee (f := 11) rfl ?_); refine goesL_ (some 18) rfl rfl Tryd.func11 (by kernel_rfl) rfl #[.int .i64 4, .int .i64 (-9223372036854775808), .int .i64 (-1)] rfl (by (try simp only [List.map_toArray, List.map_cons, List.map_nil]); first | done | rfl | (simp only [List.length_drop, List.length_take]; rfl)) ?_; (with_reducible refine (num_Do.calls k 4 (-9223372036854775808) (-1) t179 t180 _ A2.out).mono ?_); rintro e w25 ⟨rfl, hb⟩; refine ⟨_, rfl, ?_⟩; have n0_ := Aside0.mk (below_step (by repeat (first | (with_reducible first | exact HB.out | apply below_alloc | apply pw_below_drewN | apply below_drew1) | exact HB.out)) hb); clear HB; have HB := n0_; clear n0_; (try clear hb); (try clear hb2); (try clear hk); (try clear hi)) | ((with_reducible refine gate_callee (f := 11) rfl ?_); refine goesL_ (some 22) rfl rfl Tryd.func11 (by kernel_rfl) rfl #[.int .i64 5, .int .i64 5, .int .i64 0] rfl (by (try simp only [List.map_toArray, List.map_cons, List.map_nil]); first | done | rfl | (simp only [List.length_drop, List.length_take]; rfl)) ?_; (with_reducible refine (num_Do.calls k 5 5 0 t181 t182 _ A3.out).mono ?_); rintro e w26 ⟨rfl, hb⟩; refine ⟨_, rfl, ?_⟩; have n0_ := Aside0.mk (below_step (by repeat (first | (with_reducible first | exact HB.out | apply below_alloc | apply pw_below_drewN | apply below_drew1) | exact HB.out)) hb); clear HB; have HB := n0_; clear n0_; (try clear hb); (try clear hb2); (try clear hk); (try clear hi)) | ((with_reducible refine gate_callee (f := 11) rfl ?_); refine goesL_ (some 26) rfl rfl Tryd.func11 (by kernel_rfl) rfl #[.int .i64 19, .int .i64 1, .int .i64 1] rfl (by (try simp only [List.map_toArray, List.map_cons, List.map_nil]); first | done | rfl | (simp only [List.length_drop, List.length_take]; rfl)) ?_; (with_reducible refine (num_Do.calls k 19 1 1 t183 t184 _ A4.out).mono ?_); rintro e w27 ⟨rfl, hb⟩; refine ⟨_, rfl, ?_⟩; have n0_ := Aside0.mk (below_step (by repeat (first | (with_reducible first | exact HB.out | apply below_alloc | apply pw_below_drewN | apply below_drew1) | exact HB.out)) hb); clear HB; have HB := n0_; clear n0_; (try clear hb); (try clear hb2); (try clear hk); (try clear hi)) | ((with_reducible refine gate_callee (f := 20) rfl ?_); refine goesL_ (some 30) rfl rfl Tryd.func20 (by kernel_rfl) rfl #[.string (⟨#[45, 49, 50]⟩ : ByteArray)] rfl (by (try simp only [List.map_toArray, List.map_cons, List.map_nil]); first | done | rfl | (simp only [List.length_drop, List.length_take]; rfl)) ?_; (with_reducible refine (num_Parse.calls (⟨#[45, 49, 50]⟩ : ByteArray) t185 t186 _ A5.out).mono ?_); rintro e w28 ⟨rfl, hb⟩; refine ⟨_, rfl, ?_⟩; have n0_ := Aside0.mk (below_step (by repeat (first | (with_reducible first | exact HB.out | apply below_alloc | apply pw_below_drewN | apply below_drew1) | exact HB.out)) hb); clear HB; have HB := n0_; clear n0_; (try clear hb); (try clear hb2); (try clear hk); (try clear hi)) | ((with_reducible refine gate_callee (f := 16) rfl ?_); refine goesL_ (some 34) rfl rfl Tryd.func16 (by kernel_rfl) rfl #[.string (⟨#[45]⟩ : ByteArray), .int .i64 1] rfl (by (try simp only [List.map_toArray, List.map_cons, List.map_nil]); first | done | rfl | (simp only [List.length_drop, List.length_take]; rfl)) ?_; (with_reducible refine (num_Signed.calls k (⟨#[45]⟩ : ByteArray) 1 t187 true _ A6.out).mono ?_); rintro e w29 ⟨rfl, hb⟩; refine ⟨_, rfl, ?_⟩; have n0_ := Aside0.mk (below_step (by repeat (first | (with_reducible first | exact HB.out | apply below_alloc | apply pw_below_drewN | apply below_drew1) | exact HB.out)) hb); clear HB; have HB := n0_; clear n0_; (try clear hb); (try clear hb2); (try clear hk); (try clear hi)) | (go_at_call 17; (with_reducible refine (num_Sign.calls 9 t189 _ A17.out).mono ?_); rintro e w30 ⟨rfl, hb⟩; have n0_ := Aside0.mk (below_step (by repeat (first | (with_reducible first | exact HB.out | apply below_alloc | apply pw_below_drewN | apply below_drew1) | exact HB.out)) hb); clear HB; have HB := n0_; clear n0_; (try clear hb); (try clear hb2); (try clear hk); (try clear hi)) | (go_at_call 18; (with_reducible refine (num_Level.calls k 8 t190 _ A19.out).mono ?_); rintro e w' ⟨rfl, ⟨nd, rfl⟩⟩) | (go_at_call 24; (with_reducible refine (num_Swap.calls k 14 t191 _ A21.out).mono ?_); rintro e w' ⟨rfl, ⟨nd, rfl⟩⟩) | (go_at_call 22; (with_reducible refine (num_Text.calls (-7) t192 _ A23.out).mono ?_); rintro e w31 ⟨rfl, hb⟩; have n0_ := Aside0.mk (below_step (by repeat (first | (with_reducible first | exact HB.out | apply below_alloc | apply pw_below_drewN | apply below_drew1) | exact HB.out)) hb); clear HB; have HB := n0_; clear n0_; (try clear hb); (try clear hb2); (try clear hk); (try clear hi)))
              go_ret
              exact ⟨by first | rfl | (simp [errW_none, errW_some] <;> rfl) | (simp [*, errW_none, errW_some] <;> rfl), by repeat (first | (with_reducible first | exact HB.out | apply below_alloc | apply pw_below_drewN | apply below_drew1) | exact HB.out)⟩
             ·rw [if_neg c22] at H
              exact absurd H (by simp)
            ·rw [if_neg c20] at H
             exact absurd H (by simp)
           ·rw [if_neg c18] at H
            exact absurd H (by simp)
          ·rw [if_neg c16] at H
           exact absurd H (by simp)
         ·replace c15 := Bool.eq_false_iff.mpr c15
          subst c15
          have H1 : (none) = some r := by rw [if_neg (show ¬ (false = true) by decide)] at H; exact H
          clear H
          have H := H1
          clear H1
          exact absurd H (by simp)
        ·rw [if_neg c14] at H
         exact absurd H (by simp)
       ·rw [if_neg c13] at H
        exact absurd H (by simp)
      ·rw [if_neg c12] at H
       exact absurd H (by simp)
     ·rw [if_neg c11] at H
      exact absurd H (by simp)
    ·rw [if_neg c10] at H
     exact absurd H (by simp)
   ·rw [if_neg c9] at H
    exact absurd H (by simp)
  ·rw [if_neg c8] at H
   exact absurd H (by simp)
 ·rw [if_neg c7] at H
  exact absurd H (by simp)
end Go.Proofs.YtcmppjonpmgncaaDoor.Q
/- Small lemmas that the hand-proved contracts of this seat use. -/
namespace Go.Proofs.YtcmppjonpmgncaaDoor.Q
open Go.RowKit Go.Proofs.YtcmppjonpmgncaaDoorW.PrintWords Go.Proofs.YtcmppjonpmgncaaDoorW.PrintLast Go.Proofs.YtcmppjonpmgncaaDoorW.PrintMore
set_option linter.unusedVariables false
set_option linter.unusedSimpArgs false
theorem Drawn0.trans {w w1 w2 : World} (h : Drawn0 w w1) (k : Drawn0 w1 w2) : Drawn0 w w2 := by
 obtain ⟨n, rfl⟩ := k
 exact h.step n
/- shorter words for printed walks (short.py) -/
section
variable {w0 w w1 : World} {g : Nat} {t : TypeId}
end
/-- a times true, then b times false -/
abbrev tf (a b : Nat) : Array Bool := (List.replicate a true ++ List.replicate b false).toArray
abbrev tB : TypeId := 42
/-- The cells of a number's bits. -/
def bitsL (f : Nat → Bool) : List Value := (List.range 64).map fun i => .bool (f i)
structure Bits (C : Array Value) (f : Nat → Bool) : Prop where
 list : C.toList = bitsL f
theorem bitsL_len (f : Nat → Bool) : (bitsL f).length = 64 := by unfold bitsL; rw [List.length_map, List.length_range]
theorem bitsL_get (f : Nat → Bool) {i : Nat} (h : i < 64) : (bitsL f)[i]? = some (.bool (f i)) := by
 unfold bitsL; rw [List.getElem?_map, List.getElem?_range h]; rfl
theorem Bits.size {C : Array Value} {f : Nat → Bool} (h : Bits C f) : C.size = 64 := by rw [← Array.length_toList, h.list, bitsL_len]
theorem Bits.get {C : Array Value} {f : Nat → Bool} (h : Bits C f) {i : Nat} (hi : i < 64) : C[i]? = some (.bool (f i)) := by
 rw [← Array.getElem?_toList, h.list, bitsL_get f hi]
theorem Bits.one {C : Array Value} {f : Nat → Bool} (h : Bits C f) : C.all (·.oneCell') = true := by
 rw [Array.all_eq_true_iff_forall_mem]
 intro v hv
 rw [← Array.mem_toList_iff, h.list] at hv
 unfold bitsL at hv
 obtain ⟨i, _, rfl⟩ := List.mem_map.mp hv
 rfl
theorem Bits.congr {C : Array Value} {f g : Nat → Bool} (h : Bits C f) (e : ∀ i, i < 64 → f i = g i) : Bits C g := ⟨by
 rw [h.list]
 unfold bitsL
 exact List.map_congr_left (fun i hi => by rw [e i (List.mem_range.mp hi)])⟩
theorem Bits.set {C : Array Value} {f : Nat → Bool} (h : Bits C f) {i : Nat} (hi : i < 64) (v : Bool) : Bits (C.setIfInBounds i (.bool v)) (fun j => if j = i then v else f j) := ⟨by
 rw [Array.toList_setIfInBounds, h.list]
 apply List.ext_getElem?
 intro j
 rw [List.getElem?_set, bitsL_len]
 by_cases hj : j < 64
 ·have h1 := bitsL_get (fun j => if j = i then v else f j) hj
  have h2 := bitsL_get f hj
  rw [h1, h2]
  by_cases e : i = j
  ·rw [if_pos e, if_pos hi, if_pos e.symm]
  ·rw [if_neg e, if_neg (fun e2 => e e2.symm)]
 ·have h1 : (bitsL (fun j => if j = i then v else f j))[j]? = none := List.getElem?_eq_none (by rw [bitsL_len]; omega)
  have h2 : (bitsL f)[j]? = none := List.getElem?_eq_none (by rw [bitsL_len]; omega)
  rw [h1, h2, if_neg (by omega)]⟩
theorem sizeB : (Tryd.prog.info? tB).map (·.size) = some 64 := by kernel_rfl
theorem undB : Tryd.prog.underlying tB = some (.array 64 4) := by kernel_rfl
/-- A block that holds an array. -/
def Blk (w : World) (g : Nat) (C : Array Value) : Prop := w.heap[g]? = some (.cells C tB (0, 0))
section
variable {w w1 : World} {g : Nat} {C : Array Value} {f : Nat → Bool}
theorem Blk.below (h : Blk w g C) (hb : Below w.heap.size w w1) : Blk w1 g C := blk_below h hb
theorem Blk.cell (h : Blk w g C) (hC : Bits C f) {i : Nat} (hi : i < 64) : w.cell? ⟨g, i, none⟩ = some (.bool (f i)) := by
 rw [blk_cell h i]; exact hC.get hi
theorem Blk.frozen (h : Blk w g C) (i : Nat) : w.frozen? ⟨g, i, none⟩ = false := blk_frozen h i
theorem Blk.range (h : Blk w g C) (hC : Bits C f) : w.rangeAt g 0 C.toList := fun j v hv => by
 rw [Nat.zero_add, blk_cell h j]; simpa using hv
end
abbrev off : Nat → Bool := fun _ => false
theorem zeroB : (Tryd.prog.info? tB).map (fun i => (match i.zero with | some (.agg Z) => some Z.toList | _ => none, i.size)) = some (some (bitsL off), 64) := by kernel_rfl
theorem zeroB' : ∃ Z : Array Value, Bits Z off ∧ ∀ w, (zeroValue tB).run Tryd.prog w = .ok (.agg Z) w := by
 have h := zeroB
 cases hq : Tryd.prog.info? tB with
 | none => rw [hq] at h; cases h
 | some i =>
  rw [hq] at h
  simp only [Option.map_some, Option.some.injEq, Prod.mk.injEq] at h
  cases hz : i.zero with
  | none => rw [hz] at h; cases h.1
  | some v =>
   rw [hz] at h
   cases v with
   | agg Z =>
    refine ⟨Z, ⟨by simpa using h.1⟩, fun w => ?_⟩
    simp [zeroValue, typeInfo, hq, hz]
   | _ => cases h.1
theorem Blk.lt {w : World} {g : Nat} {C : Array Value} (h : Blk w g C) : g < w.heap.size := blk_lt h
theorem Blk.grown {w w1 : World} {g k : Nat} {C : Array Value} (h : Blk w g C) (hg : w.grownBy w1 (some k)) (hne : g ≠ k) : Blk w1 g C := blk_grown h hg (by simpa using hne)
section
variable {ops : Array Oper} {rest : List Oper} {o : Oper} {a : Act} {w : World} {Q : Exit → Act → World → Prop}
theorem s_alloc (hg : o.guard = none) (ho : o.op = .alloc tB)
  (h : ∀ Z w1, Bits Z off → Blk w1 w.heap.size Z → Below w.heap.size w w1 → w1.heap.size = w.heap.size + 1 → wpList Tryd.prog ops Q rest (a.put o.dst (.pointer (some ⟨w.heap.size, 0, none⟩))) w1) : wpList Tryd.prog ops Q (o :: rest) a w := by
 obtain ⟨Z, hZ, hz⟩ := zeroB'
 refine wpList_plain hg fun _ hK => ?_
 unfold Oper.wp execOp
 simp [ho, Instr.alloc, hz]
 exact hK _ _ (h Z _ hZ (blk_new _ _) (below_alloc (Below.refl _ _) _) (World.size_alloc _ _))
theorem s_box (hg : o.guard = none) (x : Operand) (ho : o.op = .box tB x) {C : Array Value} {f : Nat → Bool} (hx : a.eval x = .agg C) (hC : Bits C f)
  (h : ∀ w1, Blk w1 w.heap.size C → Below w.heap.size w w1 → w1.heap.size = w.heap.size + 1 → wpList Tryd.prog ops Q rest (a.put o.dst (.pointer (some ⟨w.heap.size, 0, none⟩))) w1) : wpList Tryd.prog ops Q (o :: rest) a w := by
 refine wpList_plain hg fun _ hK => ?_
 unfold Oper.wp execOp
 simp [ho, hx]
 exact hK _ _ (h _ (blk_new _ _) (below_alloc (Below.refl _ _) _) (World.size_alloc _ _))
theorem s_build (hg : o.guard = none) (ho : o.op = .build tB #[]) (h : ∀ Z, Bits Z off → wpList Tryd.prog ops Q rest (a.put o.dst (.agg Z)) w) : wpList Tryd.prog ops Q (o :: rest) a w := by
 refine wpList_build hg tB #[] ho (by kernel_rfl) ?_
 exact h _ ⟨by kernel_rfl⟩
theorem s_load (hg : o.guard = none) (x : Operand) (ho : o.op = .load tB x) {g : Nat} {C : Array Value} {f : Nat → Bool} (hx : a.eval x = .pointer (some ⟨g, 0, none⟩)) (hb : Blk w g C) (hC : Bits C f)
  (h : wpList Tryd.prog ops Q rest (a.put o.dst (.agg C)) w) : wpList Tryd.prog ops Q (o :: rest) a w := by
 refine wpList_load_mid hg tB x ho g 0 hx C.toList (.array 64 4) (hb.range hC) undB rfl (by rw [Array.length_toList, hC.size]; exact sizeB) ?_
 simpa using h
theorem s_store (hg : o.guard = none) (x y : Operand) (ho : o.op = .store tB x y) {g : Nat} {C D : Array Value} {f k : Nat → Bool} (hx : a.eval x = .pointer (some ⟨g, 0, none⟩)) (hy : a.eval y = .agg D) (hb : Blk w g C) (hC : Bits C f) (hD : Bits D k)
  (h : ∀ w1, Blk w1 g D → w.grownBy w1 (some g) → wpList Tryd.prog ops Q rest (a.put o.dst undef) w1) : wpList Tryd.prog ops Q (o :: rest) a w := by
 refine wpList_plain hg fun _ hK => ?_
 unfold Oper.wp execOp
 have hst : (storeVar tB ⟨g, 0, none⟩ (.agg D)).run Tryd.prog w = .ok () (w.setRow g D) := run_storeVar_row _ _ tB tB C D hb (by rw [hD.size]; exact sizeB) (by rw [hC.size, hD.size]) hD.one
 simp only [ho, hx, hy, Instr.storeAt, Instr.sureAddr, Sem.run_bind, Sem.run_pure, Result.andThen_ok, hst]
 refine hK _ _ (h _ ?_ ?_)
 ·exact setRow_heap w g C D tB (0, 0) hb
 ·refine ⟨rfl, rfl, rfl, ?_, fun j hj hne => setRow_other w g j D (fun e => hne (by rw [e]))⟩
  show w.heap.size ≤ (w.heap.modify g _).size
  rw [Array.size_modify]; exact Nat.le_refl _
end
theorem grownBy_setCellB (W : World) (b i : Nat) (v : Value) : W.grownBy (W.setCell ⟨b, i, none⟩ v) (some b) :=
 ⟨rfl, rfl, rfl, by unfold World.setCell; simp, fun k _ hk => Below.heap_setCell _ _ _ k (fun e => hk (by rw [e]))⟩
theorem set_bit {w : World} {g : Nat} {C : Array Value} {f : Nat → Bool} (hb : Blk w g C) (hC : Bits C f) {i : Nat} (hi : i < 64) (v : Bool) :
  ∃ D, Bits D (fun j => if j = i then v else f j) ∧ Blk (w.setCell ⟨g, i, none⟩ (.bool v)) g D ∧ w.grownBy (w.setCell ⟨g, i, none⟩ (.bool v)) (some g) :=
 ⟨_, hC.set hi v, blk_put hb i (.bool v) rfl, grownBy_setCellB w g i (.bool v)⟩
theorem x64 {b : BitVec 64} {i : Nat} (h : i < 64) : (b.toNat / 2 ^ i) % 2 = (b.getLsbD i).toNat := by
 rw [← BitVec.testBit_toNat, Nat.testBit_eq_decide_div_mod_eq]
 have : b.toNat / 2 ^ i % 2 < 2 := Nat.mod_lt _ (by decide)
 generalize b.toNat / 2 ^ i % 2 = z at this
 match z, this with
 | 0, _ => rfl
 | 1, _ => rfl
set_option maxRecDepth 100000 in
set_option maxHeartbeats 4000000 in
theorem From_calls (x : Int) (w : World) :
  Calls Tryd.prog 28 #[.int .i64 x] w fun e w' => ∃ C, e = .returned (.agg C) ∧ Bits C (fun i => (BitVec.ofInt 64 x).getLsbD i) ∧ Below w.heap.size w w' := by
 go_enter Tryd.func28, Tryd.ntmps28
 go_upto_region 0 with (fail)
 apply wp_region_lit
 refine s_alloc rfl rfl ?_
 intro Z w1 hZ hb1 hB1 hs1
 go_upto_region 1 with (fail)
 apply wp_region_lit
 refine s_build rfl rfl ?_
 intro Z2 hZ2
 refine s_alloc rfl rfl ?_
 intro Z3 w2 hZ3 hb2 hB2 hs2
 refine s_store rfl _ _ rfl rfl rfl hb2 hZ3 hZ2 ?_
 intro w3 hb3 hg3
 have HR : Aside0 (Blk w3 w.heap.size Z) := ⟨(hb1.below hB2).grown hg3 (by omega)⟩
 have HT := Aside0.mk hb3
 have HB : Aside0 (Below w.heap.size w w3) := ⟨(below_step hB1 hB2).grown hg3 (below_step hB1 hB2).size (fun k e => by cases e; omega)⟩
 have HG : Aside0 (w.heap.size ≤ w1.heap.size ∧ w.heap.size ≠ w1.heap.size) := ⟨by omega⟩
 have HZ := Aside0.mk hZ; have HZ2 := Aside0.mk hZ2
 clear hZ hb1 hB1 hs1 hZ3 hb2 hB2 hs2 hb3 hg3 hZ2
 generalize w1.heap.size = g2 at HT HG ⊢
 obtain ⟨g1, hg1⟩ : ∃ g, g = w.heap.size := ⟨_, rfl⟩
 rw [← hg1] at HR HG ⊢
 obtain ⟨X, hX⟩ : ∃ X, X = BitVec.ofInt 64 x := ⟨_, rfl⟩
 have HGE : Aside0 (w.heap.size ≤ g2 ∧ g1 ≠ g2 ∧ w.heap.size ≤ g1) := ⟨by rw [hg1] at HG ⊢; exact ⟨HG.out.1, HG.out.2, Nat.le_refl _⟩⟩
 clear hg1 HG
 go_upto_region 4 with (fail)
 have hu : IntKind.u64.wrap x = ((X.toNat / 2 ^ 0 : Nat) : Int) := by
  rw [hX, Nat.pow_zero, Nat.div_one, BitVec.toNat_ofInt]
  simp [IntKind.wrap, IntKind.bits, IntKind.signed]
  omega
 rw [hu]
 have HX := Aside0.mk hX
 clear hu hX
 have H0 : Aside0 (Bits Z2 (fun j => decide (j < 0) && X.getLsbD j)) := ⟨HZ2.out.congr (fun i _ => by simp [off])⟩
 clear HZ2
 go_loopw [4, 5] (fun v4 v5 wr => ∃ (i : Nat) (C : Array Value), v5 = .int .i64 i ∧ i ≤ 64 ∧ v4 = .int .u64 ((X.toNat / 2 ^ i : Nat) : Int) ∧ Aside0 (Bits C (fun j => decide (j < i) && X.getLsbD j)) ∧ Aside0 (Blk wr g2 C) ∧ Aside0 (Blk wr g1 Z) ∧ Aside0 (Below w.heap.size w wr)) (fun _ v5 _ => 64 - (intOf v5).toNat)
 case atStart => exact ⟨0, Z2, rfl, by decide, rfl, H0, HT, HR, HB⟩
 case round =>
  clear H0 HT HR HB
  obtain ⟨i, C, rfl, hi, rfl, HC, HT, HR, HB⟩ := hrel
  by_cases hlt : i < 64
  ·obtain ⟨u, hu⟩ : ∃ u : Nat, u = X.toNat / 2 ^ i := ⟨_, rfl⟩
   rw [← hu]
   have HV : Aside0 (((u : Int) % 2 == 1) = X.getLsbD i) := ⟨by
    have hb : u % 2 = (X.getLsbD i).toNat := by rw [hu]; exact x64 hlt
    rw [show ((u : Int) % 2) = ((u % 2 : Nat) : Int) by omega, hb]
    cases X.getLsbD i <;> rfl⟩
   have HQ : Aside0 (IntKind.u64.wrap ((u : Int) / 2) = ((X.toNat / 2 ^ (i + 1) : Nat) : Int)) := ⟨by
    have hq : u / 2 = X.toNat / 2 ^ (i + 1) := by rw [hu, Nat.div_div_eq_div_mul, Nat.pow_succ]
    have hub : u < 18446744073709551616 := by rw [hu]; exact Nat.lt_of_le_of_lt (Nat.div_le_self _ _) X.isLt
    rw [show ((u : Int) / 2) = ((u / 2 : Nat) : Int) by omega, ← hq]
    simp [IntKind.wrap, IntKind.bits, IntKind.signed]
    omega⟩
   clear hu
   have hc0 := HT.out.cell HC.out hlt
   have hf0 := HT.out.frozen i
   obtain ⟨D, hD, hbD, hgD⟩ := set_bit HT.out HC.out hlt (X.getLsbD i)
   have HD := Aside0.mk hD; have HBD := Aside0.mk hbD; have HGD := Aside0.mk hgD
   clear hD hbD hgD
   go_wp2
   rw [HV.out, HQ.out]
   generalize wr.setCell { block := g2, off := i } (.bool (X.getLsbD i)) = w5 at HBD HGD ⊢
   go_roundw
   case rel => exact ⟨i + 1, D, by simp, by omega, rfl, ⟨HD.out.congr (fun j hj => by
    by_cases e : j = i
    ·subst e; simp
    ·show (if j = i then X.getLsbD i else (decide (j < i) && X.getLsbD j)) = _
     rw [if_neg e, show decide (j < i) = decide (j < i + 1) from decide_eq_decide.mpr (by omega)])⟩, HBD, ⟨HR.out.grown HGD.out HGE.out.2.1⟩, ⟨HB.out.grown HGD.out HB.out.size (fun k e => by cases e; exact HGE.out.1)⟩⟩
   case measure => show 64 - ((i : Int) + 1).toNat < 64 - (i : Int).toNat; omega
  ·have e : i = 64 := by omega
   subst e
   go_upto_region 8 with (fail)
   apply wp_region_lit
   refine s_load rfl _ rfl rfl HT.out HC.out ?_
   refine s_store rfl _ _ rfl rfl rfl HR.out HZ.out HC.out ?_
   intro w9 hb9 hg9
   have HB9 := Aside0.mk (HB.out.grown hg9 HB.out.size (fun k e => by cases e; exact HGE.out.2.2))
   have HBB := Aside0.mk hb9
   clear hb9 hg9
   go_wp2
   refine bodyPost_ret (results_cell_row rfl _ _ g1 tB C (0, 0) _ rfl HBB.out undB rfl (by rw [HC.out.size]; exact sizeB)) rfl ?_
   exact ⟨C, rfl, HC.out.congr (fun i hi => by rw [← HX.out]; simp [hi]), HB9.out⟩
set_option maxRecDepth 100000 in
set_option maxHeartbeats 4000000 in
theorem To_calls (C : Array Value) (X : BitVec 64) (w : World) (hC : Bits C (fun j => X.getLsbD j)) :
  Calls Tryd.prog 37 #[.agg C] w fun e w' => e = .returned (.int .i64 X.toInt) ∧ Below w.heap.size w w' := by
 have HC := Aside0.mk hC
 go_enter Tryd.func37, Tryd.ntmps37
 go_upto_region 0 with (fail)
 apply wp_region_lit
 refine s_box rfl _ rfl rfl hC ?_
 intro w1 hb1 hB1 hs1
 have HT := Aside0.mk hb1; have HB := Aside0.mk hB1
 clear hb1 hB1 hs1 hC
 obtain ⟨g1, hg1⟩ : ∃ g, g = w.heap.size := ⟨_, rfl⟩
 rw [← hg1] at HT ⊢
 clear hg1
 have H0 : X.toNat / 2 ^ 64 = 0 := Nat.div_eq_of_lt X.isLt
 have HX0 := Aside0.mk H0
 clear H0
 go_upto_region 3 with (fail)
 go_loopw [3, 4] (fun v3 v4 wr => ∃ (n : Nat), v4 = .int .i64 ((n : Int) - 1) ∧ n ≤ 64 ∧ v3 = .int .u64 ((X.toNat / 2 ^ n : Nat) : Int) ∧ Aside0 (Blk wr g1 C) ∧ Aside0 (Below w.heap.size w wr)) (fun _ v4 _ => ((intOf v4) + 1).toNat)
 case atStart => exact ⟨64, rfl, by decide, by rw [HX0.out]; rfl, HT, HB⟩
 case round =>
  clear HT HB
  obtain ⟨n, rfl, hn, rfl, HT, HB⟩ := hrel
  cases n with
  | zero =>
   have HV : Aside0 (wrap64 (X.toNat : Int) = X.toInt) := ⟨by
    have := X.isLt
    rw [BitVec.toInt_eq_toNat_bmod]
    unfold wrap64
    simp only [Int.bmod]
    split <;> omega⟩
   go_wp2
   go_ret
   exact ⟨by rw [HV.out]; rfl, HB.out⟩
  | succ m =>
   rw [show (((m + 1 : Nat) : Int) - 1) = (m : Int) by omega]
   obtain ⟨u, hu⟩ : ∃ u : Nat, u = X.toNat / 2 ^ (m + 1) := ⟨_, rfl⟩
   have hs : X.toNat / 2 ^ m = 2 * u + (X.getLsbD m).toNat := by
    have h1 := x64 (b := X) (i := m) (by omega)
    have h2 : X.toNat / 2 ^ m / 2 = X.toNat / 2 ^ (m + 1) := by rw [Nat.div_div_eq_div_mul, Nat.pow_succ]
    omega
   have hz : X.toNat / 2 ^ m < 18446744073709551616 := Nat.lt_of_le_of_lt (Nat.div_le_self _ _) X.isLt
   rw [← hu]
   clear hu
   have hc0 := HT.out.cell HC.out (i := m) (by omega)
   cases hb : X.getLsbD m with
   | true =>
    have HQ : Aside0 (IntKind.u64.wrap (IntKind.u64.wrap ((u : Int) * 2) + 1) = ((X.toNat / 2 ^ m : Nat) : Int)) := ⟨by
     rw [hb] at hs
     simp only [Bool.toNat_true] at hs
     generalize X.toNat / 2 ^ m = z at hs hz
     simp [IntKind.wrap, IntKind.bits, IntKind.signed]
     omega⟩
    rw [hb] at hc0
    clear hb hs hz
    go_wp2
    rw [HQ.out]
    go_roundw
    case rel => exact ⟨m, rfl, by omega, rfl, HT, HB⟩
    case measure => show ((m : Int) - 1 + 1).toNat < ((m : Int) + 1).toNat; omega
   | false =>
    have HQ : Aside0 (IntKind.u64.wrap ((u : Int) * 2) = ((X.toNat / 2 ^ m : Nat) : Int)) := ⟨by
     rw [hb] at hs
     simp only [Bool.toNat_false] at hs
     generalize X.toNat / 2 ^ m = z at hs hz
     simp [IntKind.wrap, IntKind.bits, IntKind.signed]
     omega⟩
    rw [hb] at hc0
    clear hb hs hz
    go_wp2
    rw [HQ.out]
    go_roundw
    case rel => exact ⟨m, rfl, by omega, rfl, HT, HB⟩
    case measure => show ((m : Int) - 1 + 1).toNat < ((m : Int) + 1).toNat; omega
set_option maxRecDepth 100000 in
set_option maxHeartbeats 4000000 in
theorem not_calls (C : Array Value) (f : Nat → Bool) (w : World) (hC : Bits C f) :
  Calls Tryd.prog 30 #[.agg C] w fun e w' => ∃ D, e = .returned (.agg D) ∧ Bits D (fun j => !f j) ∧ Below w.heap.size w w' := by
 have HC := Aside0.mk hC
 go_enter Tryd.func30, Tryd.ntmps30
 go_upto_region 0 with (fail)
 apply wp_region_lit
 refine s_box rfl _ rfl rfl hC ?_
 intro w1 hb1 hB1 hs1
 refine s_alloc rfl rfl ?_
 intro Z w2 hZ hb2 hB2 hs2
 have HR := Aside0.mk hb2; have HT := Aside0.mk (hb1.below hB2); have HB := Aside0.mk (below_step hB1 hB2); have HZ := Aside0.mk hZ
 obtain ⟨g1, hg1⟩ : ∃ g, g = w.heap.size := ⟨_, rfl⟩
 obtain ⟨g2, hg2⟩ : ∃ g, g = w1.heap.size := ⟨_, rfl⟩
 have HGE : Aside0 (w.heap.size ≤ g1 ∧ w.heap.size ≤ g2 ∧ g2 ≠ g1) := ⟨by omega⟩
 rw [← hg2] at HR ⊢
 rw [← hg1] at HT ⊢
 clear hg1 hg2 hb1 hB1 hs1 hC hZ hb2 hB2 hs2
 have H0 : Aside0 (Bits C (fun j => if j < 0 then !f j else f j)) := ⟨HC.out.congr (fun i _ => by simp)⟩
 go_upto_region 2 with (fail)
 go_loopw [3] (fun v3 wr => ∃ (i : Nat) (D : Array Value), v3 = .int .i64 i ∧ i ≤ 64 ∧ Aside0 (Bits D (fun j => if j < i then !f j else f j)) ∧ Aside0 (Blk wr g1 D) ∧ Aside0 (Blk wr g2 Z) ∧ Aside0 (Below w.heap.size w wr)) (fun v3 _ => 64 - (intOf v3).toNat)
 case atStart => exact ⟨0, C, rfl, by decide, H0, HT, HR, HB⟩
 case round =>
  clear H0 HT HR HB
  obtain ⟨i, D, rfl, hi, HD, HT, HR, HB⟩ := hrel
  by_cases hlt : i < 64
  ·have hc0 := HT.out.cell HD.out hlt
   rw [if_neg (Nat.lt_irrefl i)] at hc0
   have hf0 := HT.out.frozen i
   obtain ⟨E, hE, hbE, hgE⟩ := set_bit HT.out HD.out hlt (!f i)
   have HE := Aside0.mk hE; have HBE := Aside0.mk hbE; have HGD := Aside0.mk hgE
   clear hE hbE hgE
   go_wp2
   generalize wr.setCell { block := g1, off := i } (.bool (!f i)) = w5 at HBE HGD ⊢
   go_roundw
   case rel => exact ⟨i + 1, E, by simp, by omega, ⟨HE.out.congr (fun j hj => by
    by_cases e : j = i
    ·subst e; simp
    ·show (if j = i then (!f i) else (if j < i then !f j else f j)) = _
     rw [if_neg e]
     by_cases e2 : j < i
     ·rw [if_pos e2, if_pos (by omega)]
     ·rw [if_neg e2, if_neg (by omega)])⟩, HBE, ⟨HR.out.grown HGD.out HGE.out.2.2⟩, ⟨HB.out.grown HGD.out HB.out.size (fun k e => by cases e; exact HGE.out.1)⟩⟩
   case measure => show 64 - ((i : Int) + 1).toNat < 64 - (i : Int).toNat; omega
  ·have e : i = 64 := by omega
   subst e
   go_upto_region 5 with (fail)
   apply wp_region_lit
   refine s_load rfl _ rfl rfl HT.out HD.out ?_
   refine s_store rfl _ _ rfl rfl rfl HR.out HZ.out HD.out ?_
   intro w9 hb9 hg9
   have HB9 := Aside0.mk (HB.out.grown hg9 HB.out.size (fun k e => by cases e; exact HGE.out.2.1))
   have HBB := Aside0.mk hb9
   clear hb9 hg9
   go_wp2
   refine bodyPost_ret (results_cell_row rfl _ _ g2 tB D (0, 0) _ rfl HBB.out undB rfl (by rw [HD.out.size]; exact sizeB)) rfl ?_
   exact ⟨D, rfl, HD.out.congr (fun i hi => by rw [if_pos hi]), HB9.out⟩
abbrev ofB (c : Bool) : BitVec 64 := BitVec.setWidth 64 (BitVec.ofBool c)
set_option maxRecDepth 100000 in
set_option maxHeartbeats 4000000 in
theorem add_calls (A B : Array Value) (a b : BitVec 64) (c : Bool) (w : World) (hA : Bits A (fun j => a.getLsbD j)) (hB : Bits B (fun j => b.getLsbD j)) :
  Calls Tryd.prog 29 #[.agg A, .agg B, .bool c] w fun e w' => ∃ D, e = .returned (.agg D) ∧ Bits D (fun j => (a + b + ofB c).getLsbD j) ∧ Below w.heap.size w w' := by
 have HA := Aside0.mk hA; have HBb := Aside0.mk hB
 go_enter Tryd.func29, Tryd.ntmps29
 go_upto_region 0 with (fail)
 apply wp_region_lit
 refine s_box rfl _ rfl rfl hA ?_
 intro w1 hb1 hB1 hs1
 refine s_box rfl _ rfl rfl hB ?_
 intro w2 hb2 hB2 hs2
 refine s_alloc rfl rfl ?_
 intro Z w3 hZ hb3 hB3 hs3
 go_upto_region 1 with (fail)
 apply wp_region_lit
 refine s_build rfl rfl ?_
 intro Z2 hZ2
 refine s_alloc rfl rfl ?_
 intro Z3 w4 hZ3 hb4 hB4 hs4
 refine s_store rfl _ _ rfl rfl rfl hb4 hZ3 hZ2 ?_
 intro w5 hb5 hg5
 have HX : Aside0 (Blk w5 w.heap.size A) := ⟨(((hb1.below hB2).below hB3).below hB4).grown hg5 (by omega)⟩
 have HY : Aside0 (Blk w5 w1.heap.size B) := ⟨((hb2.below hB3).below hB4).grown hg5 (by omega)⟩
 have HR : Aside0 (Blk w5 w2.heap.size Z) := ⟨(hb3.below hB4).grown hg5 (by omega)⟩
 have HT := Aside0.mk hb5
 have hB34 := below_step (below_step (below_step hB1 hB2) hB3) hB4
 have HB : Aside0 (Below w.heap.size w w5) := ⟨hB34.grown hg5 hB34.size (fun k e => by cases e; omega)⟩
 have HZ := Aside0.mk hZ
 obtain ⟨g1, hg1⟩ : ∃ g, g = w.heap.size := ⟨_, rfl⟩
 obtain ⟨g2, hg2⟩ : ∃ g, g = w1.heap.size := ⟨_, rfl⟩
 obtain ⟨g3, hg3⟩ : ∃ g, g = w2.heap.size := ⟨_, rfl⟩
 obtain ⟨g4, hg4⟩ : ∃ g, g = w3.heap.size := ⟨_, rfl⟩
 have HGE : Aside0 (w.heap.size ≤ g3 ∧ w.heap.size ≤ g4 ∧ g1 ≠ g4 ∧ g2 ≠ g4 ∧ g3 ≠ g4) := ⟨by omega⟩
 have H0 : Aside0 (Bits Z2 (fun j => decide (j < 0) && (a + b + ofB c).getLsbD j)) := ⟨hZ2.congr (fun i _ => by simp [off])⟩
 rw [← hg4] at HT ⊢
 rw [← hg3] at HR ⊢
 rw [← hg2] at HY ⊢
 rw [← hg1] at HX ⊢
 clear hg1 hg2 hg3 hg4 hA hB hb1 hB1 hs1 hb2 hB2 hs2 hZ hb3 hB3 hs3 hZ2 hZ3 hb4 hB4 hs4 hb5 hg5 hB34
 go_upto_region 3 with (fail)
 go_loopw [2, 8] (fun v2 v8 wr => ∃ (i : Nat) (D : Array Value), v8 = .int .i64 i ∧ i ≤ 64 ∧ v2 = .bool (BitVec.carry i a b c) ∧ Aside0 (Bits D (fun j => decide (j < i) && (a + b + ofB c).getLsbD j)) ∧ Aside0 (Blk wr g4 D) ∧ Aside0 (Blk wr g1 A) ∧ Aside0 (Blk wr g2 B) ∧ Aside0 (Blk wr g3 Z) ∧ Aside0 (Below w.heap.size w wr)) (fun _ v8 _ => 64 - (intOf v8).toNat)
 case atStart => exact ⟨0, Z2, rfl, by decide, by rw [BitVec.carry_zero], H0, HT, HX, HY, HR, HB⟩
 case round =>
  clear H0 HT HX HY HR HB
  obtain ⟨i, D, rfl, hi, rfl, HD, HT, HX, HY, HR, HB⟩ := hrel
  by_cases hlt : i < 64
  ·have hc0 := HX.out.cell HA.out hlt
   have hc1 := HY.out.cell HBb.out hlt
   have hc2 := HT.out.cell HD.out hlt
   have hf0 := HT.out.frozen i
   have HV := Aside0.mk (BitVec.getLsbD_add_add_bool hlt a b c)
   have HCS := Aside0.mk (BitVec.carry_succ i a b c)
   obtain ⟨E, hE, hbE, hgE⟩ := set_bit HT.out HD.out hlt ((a + b + ofB c).getLsbD i)
   have HE := Aside0.mk hE; have HBE := Aside0.mk hbE; have HGD := Aside0.mk hgE
   clear hE hbE hgE
   have HJ : Aside0 (∀ j, j < 64 → (if j = i then (a + b + ofB c).getLsbD i else (decide (j < i) && (a + b + ofB c).getLsbD j)) = (decide (j < i + 1) && (a + b + ofB c).getLsbD j)) := ⟨fun j hj => by
    by_cases e : j = i
    ·subst e; simp
    ·rw [if_neg e, show decide (j < i) = decide (j < i + 1) from decide_eq_decide.mpr (by omega)]⟩
   obtain ⟨p, hp⟩ : ∃ p, p = a.getLsbD i := ⟨_, rfl⟩
   obtain ⟨q, hq⟩ : ∃ q, q = b.getLsbD i := ⟨_, rfl⟩
   obtain ⟨r, hr⟩ : ∃ r, r = BitVec.carry i a b c := ⟨_, rfl⟩
   rw [← hp] at hc0 HV HCS
   rw [← hq] at hc1 HV HCS
   rw [← hr] at HV HCS ⊢
   clear hp hq hr
   cases p <;> cases q <;> cases r <;> (have HV2 := HV.out; have HC2 := HCS.out; simp only [Bool.xor_false, Bool.xor_true, Bool.false_xor, Bool.true_xor, Bool.not_true, Bool.not_false, Bool.atLeastTwo_false_left, Bool.atLeastTwo_true_left, Bool.and_true, Bool.and_false, Bool.or_true, Bool.or_false] at HV2 HC2; rw [show (a + b + ofB c).getLsbD i = _ from HV2] at HBE HGD; have HC3 := Aside0.mk HC2; clear HV2 HC2; go_wp2; refine ⟨⟨i + 1, E, by simp, by omega, by rw [HC3.out], ⟨HE.out.congr HJ.out⟩, HBE, ⟨HX.out.grown HGD.out HGE.out.2.2.1⟩, ⟨HY.out.grown HGD.out HGE.out.2.2.2.1⟩, ⟨HR.out.grown HGD.out HGE.out.2.2.2.2⟩, ⟨HB.out.grown HGD.out HB.out.size (fun k e => by cases e; exact HGE.out.2.1)⟩⟩, ?_⟩; show 64 - ((i : Int) + 1).toNat < 64 - (i : Int).toNat; omega)
  ·have e : i = 64 := by omega
   subst e
   go_upto_region 14 with (fail)
   apply wp_region_lit
   refine s_load rfl _ rfl rfl HT.out HD.out ?_
   refine s_store rfl _ _ rfl rfl rfl HR.out HZ.out HD.out ?_
   intro w9 hb9 hg9
   have HB9 := Aside0.mk (HB.out.grown hg9 HB.out.size (fun k e => by cases e; exact HGE.out.1))
   have HBB := Aside0.mk hb9
   clear hb9 hg9
   go_wp2
   refine bodyPost_ret (results_cell_row rfl _ _ g3 tB D (0, 0) _ rfl HBB.out undB rfl (by rw [HD.out.size]; exact sizeB)) rfl ?_
   exact ⟨D, rfl, HD.out.congr (fun i hi => by simp [hi]), HB9.out⟩
set_option maxRecDepth 100000 in
set_option maxHeartbeats 4000000 in
theorem left_calls (A : Array Value) (f : Nat → Bool) (n : Nat) (w : World) (hA : Bits A f) (hn : n ≤ 64) :
  Calls Tryd.prog 31 #[.agg A, .int .i64 n] w fun e w' => ∃ D, e = .returned (.agg D) ∧ Bits D (fun j => decide (n ≤ j) && f (j - n)) ∧ Below w.heap.size w w' := by
 have HA := Aside0.mk hA
 go_enter Tryd.func31, Tryd.ntmps31
 go_upto_region 0 with (fail)
 apply wp_region_lit
 refine s_box rfl _ rfl rfl hA ?_
 intro w1 hb1 hB1 hs1
 refine s_alloc rfl rfl ?_
 intro Z w2 hZ hb2 hB2 hs2
 go_upto_region 1 with (fail)
 apply wp_region_lit
 refine s_build rfl rfl ?_
 intro Z2 hZ2
 refine s_alloc rfl rfl ?_
 intro Z3 w4 hZ3 hb4 hB4 hs4
 refine s_store rfl _ _ rfl rfl rfl hb4 hZ3 hZ2 ?_
 intro w5 hb5 hg5
 have HX : Aside0 (Blk w5 w.heap.size A) := ⟨((hb1.below hB2).below hB4).grown hg5 (by omega)⟩
 have HR : Aside0 (Blk w5 w1.heap.size Z) := ⟨(hb2.below hB4).grown hg5 (by omega)⟩
 have HT := Aside0.mk hb5
 have hB34 := below_step (below_step hB1 hB2) hB4
 have HB : Aside0 (Below w.heap.size w w5) := ⟨hB34.grown hg5 hB34.size (fun k e => by cases e; omega)⟩
 have HZ := Aside0.mk hZ
 obtain ⟨g1, hg1⟩ : ∃ g, g = w.heap.size := ⟨_, rfl⟩
 obtain ⟨g3, hg3⟩ : ∃ g, g = w1.heap.size := ⟨_, rfl⟩
 obtain ⟨g4, hg4⟩ : ∃ g, g = w2.heap.size := ⟨_, rfl⟩
 have HGE : Aside0 (w.heap.size ≤ g3 ∧ w.heap.size ≤ g4 ∧ g1 ≠ g4 ∧ g3 ≠ g4) := ⟨by omega⟩
 have H0 : Aside0 (Bits Z2 (fun j => decide (n ≤ j ∧ j < 0 + n) && f (j - n))) := ⟨hZ2.congr (fun i _ => by
  have : decide (n ≤ i ∧ i < 0 + n) = false := decide_eq_false (by omega)
  show false = _
  rw [this]; rfl)⟩
 rw [← hg4] at HT ⊢
 rw [← hg3] at HR ⊢
 rw [← hg1] at HX ⊢
 clear hg1 hg3 hg4 hA hb1 hB1 hs1 hb2 hB2 hs2 hZ hZ2 hZ3 hb4 hB4 hs4 hb5 hg5 hB34
 go_upto_region 3 with (fail)
 go_loopw [6] (fun v6 wr => ∃ (i : Nat) (D : Array Value), v6 = .int .i64 i ∧ i ≤ 64 ∧ Aside0 (Bits D (fun j => decide (n ≤ j ∧ j < i + n) && f (j - n))) ∧ Aside0 (Blk wr g4 D) ∧ Aside0 (Blk wr g1 A) ∧ Aside0 (Blk wr g3 Z) ∧ Aside0 (Below w.heap.size w wr)) (fun v6 _ => 64 - (intOf v6).toNat)
 case atStart => exact ⟨0, Z2, rfl, by decide, H0, HT, HX, HR, HB⟩
 case round =>
  clear H0 HT HX HR HB
  obtain ⟨i, D, rfl, hi, HD, HT, HX, HR, HB⟩ := hrel
  have hw : wrap64 ((i : Int) + (n : Int)) = ((i + n : Nat) : Int) := by unfold wrap64; omega
  by_cases hlt : i + n < 64
  ·have hc0 := HX.out.cell HA.out (i := i) (by omega)
   have hc2 := HT.out.cell HD.out (i := i + n) hlt
   have hf0 := HT.out.frozen (i + n)
   have hw2 : wrap64 ((i : Int) + 1) = ((i + 1 : Nat) : Int) := by unfold wrap64; omega
   obtain ⟨E, hE, hbE, hgE⟩ := set_bit HT.out HD.out hlt (f i)
   have HE := Aside0.mk hE; have HBE := Aside0.mk hbE; have HGD := Aside0.mk hgE
   clear hE hbE hgE
   go_wp2
   refine ⟨⟨i + 1, E, by simp, by omega, ⟨HE.out.congr (fun j hj => by
    by_cases e : j = i + n
    ·subst e
     rw [if_pos rfl, Nat.add_sub_cancel, decide_eq_true (by omega)]; rfl
    ·rw [if_neg e, show decide (n ≤ j ∧ j < i + n) = decide (n ≤ j ∧ j < i + 1 + n) from decide_eq_decide.mpr (by omega)])⟩, HBE, ⟨HX.out.grown HGD.out HGE.out.2.2.1⟩, ⟨HR.out.grown HGD.out HGE.out.2.2.2⟩, ⟨HB.out.grown HGD.out HB.out.size (fun k e => by cases e; exact HGE.out.2.1)⟩⟩, ?_⟩
   show 64 - ((i : Int) + 1).toNat < 64 - (i : Int).toNat
   omega
  ·go_upto_region 6 with (fail)
   apply wp_region_lit
   refine s_load rfl _ rfl rfl HT.out HD.out ?_
   refine s_store rfl _ _ rfl rfl rfl HR.out HZ.out HD.out ?_
   intro w9 hb9 hg9
   have HB9 := Aside0.mk (HB.out.grown hg9 HB.out.size (fun k e => by cases e; exact HGE.out.1))
   have HBB := Aside0.mk hb9
   clear hb9 hg9
   go_wp2
   refine bodyPost_ret (results_cell_row rfl _ _ g3 tB D (0, 0) _ rfl HBB.out undB rfl (by rw [HD.out.size]; exact sizeB)) rfl ?_
   exact ⟨D, rfl, HD.out.congr (fun j hj => by rw [show decide (n ≤ j ∧ j < i + n) = decide (n ≤ j) from decide_eq_decide.mpr (by omega)]), HB9.out⟩
def sizeBV (a : BitVec 64) : BitVec 64 := if a.getLsbD 63 = true then -a else a
theorem neg_bv (a : BitVec 64) : ~~~a + 0#64 + ofB true = -a := by
 rw [BitVec.neg_eq_not_add, BitVec.add_zero]; rfl
set_option maxRecDepth 100000 in
set_option maxHeartbeats 4000000 in
theorem neg_calls (A : Array Value) (a : BitVec 64) (w : World) (hA : Bits A (fun j => a.getLsbD j)) :
  Calls Tryd.prog 34 #[.agg A] w fun e w' => ∃ D, e = .returned (.agg D) ∧ Bits D (fun j => (-a).getLsbD j) ∧ Below w.heap.size w w' := by
 go_enter Tryd.func34, Tryd.ntmps34
 go_upto_region 0 with (fail)
 apply wp_region_lit
 refine s_box rfl _ rfl rfl hA ?_
 intro w1 hb1 hB1 hs1
 refine s_alloc rfl rfl ?_
 intro Z w2 hZ hb2 hB2 hs2
 obtain ⟨g1, hg1⟩ : ∃ g, g = w1.heap.size := ⟨_, rfl⟩
 have HG : Aside0 (w.heap.size ≤ g1) := ⟨by omega⟩
 rw [← hg1] at hb2 ⊢
 clear hg1
 go_upto_region 1 with (fail)
 apply wp_region_lit
 refine s_load rfl _ rfl rfl (hb1.below hB2) hA ?_
 have HB2 := Aside0.mk (below_step hB1 hB2); have HR2 := Aside0.mk hb2; have HZ := Aside0.mk hZ
 clear hb1 hB1 hs1 hb2 hB2 hs2 hZ
 go_wp2_with fail
 refine (not_calls A _ w2 hA).mono ?_
 rintro e w3 ⟨D, rfl, hD, hB3⟩
 have hD' : Bits D (fun j => (~~~a).getLsbD j) := hD.congr (fun i hi => by simp [hi])
 have HR3 := Aside0.mk (HR2.out.below hB3); have HB3 := Aside0.mk (below_step HB2.out hB3)
 clear hB3 hD
 go_wp2_with (refine s_build rfl rfl ?_; intro Z2 hZ2)
 have hZ' : Bits Z2 (fun j => (0#64).getLsbD j) := hZ2.congr (fun i hi => by simp [off])
 clear hZ2
 refine (add_calls D Z2 (~~~a) 0#64 true w3 hD' hZ').mono ?_
 rintro e w4 ⟨E, rfl, hE, hB4⟩
 rw [neg_bv] at hE
 have HR4 := Aside0.mk (HR3.out.below hB4); have HB4 := Aside0.mk (below_step HB3.out hB4); have HE := Aside0.mk hE
 clear hB4 hE hD' hZ'
 go_wp2_with (refine s_store rfl _ _ rfl rfl rfl HR4.out HZ.out HE.out ?_; intro w9 hb9 hg9; have HB9 := Aside0.mk (HB4.out.grown hg9 HB4.out.size (fun k e => by cases e; exact HG.out)); have HBB := Aside0.mk hb9; clear hb9 hg9)
 refine bodyPost_ret (results_cell_row rfl _ _ g1 tB E (0, 0) _ rfl HBB.out undB rfl (by rw [HE.out.size]; exact sizeB)) rfl ?_
 exact ⟨E, rfl, HE.out, HB9.out⟩
set_option maxRecDepth 100000 in
set_option maxHeartbeats 4000000 in
theorem size_calls (A : Array Value) (a : BitVec 64) (w : World) (hA : Bits A (fun j => a.getLsbD j)) :
  Calls Tryd.prog 33 #[.agg A] w fun e w' => ∃ D, e = .returned (.agg D) ∧ Bits D (fun j => (sizeBV a).getLsbD j) ∧ Below w.heap.size w w' := by
 go_enter Tryd.func33, Tryd.ntmps33
 go_upto_region 0 with (fail)
 apply wp_region_lit
 refine s_box rfl _ rfl rfl hA ?_
 intro w1 hb1 hB1 hs1
 refine s_alloc rfl rfl ?_
 intro Z w2 hZ hb2 hB2 hs2
 obtain ⟨g0, hg0⟩ : ∃ g, g = w.heap.size := ⟨_, rfl⟩
 obtain ⟨g1, hg1⟩ : ∃ g, g = w1.heap.size := ⟨_, rfl⟩
 have HG : Aside0 (w.heap.size ≤ g1) := ⟨by omega⟩
 rw [← hg1] at hb2 ⊢
 rw [← hg0] at hb1 ⊢
 clear hg0 hg1
 have HX2 := Aside0.mk (hb1.below hB2)
 have hc0 := HX2.out.cell hA (i := 63) (by decide)
 have HB2 := Aside0.mk (below_step hB1 hB2); have HR2 := Aside0.mk hb2; have HZ := Aside0.mk hZ
 have HA := Aside0.mk hA
 clear hb1 hB1 hs1 hb2 hB2 hs2 hZ hA
 cases ht : a.getLsbD 63 with
 | true =>
  have HS : Aside0 (sizeBV a = -a) := ⟨by unfold sizeBV; rw [if_pos ht]⟩
  rw [ht] at hc0
  clear ht
  go_upto_region 2 with (fail)
  apply wp_region_lit
  refine s_load rfl _ rfl rfl HX2.out HA.out ?_
  go_wp2_with fail
  refine (neg_calls A a w2 HA.out).mono ?_
  rintro e w3 ⟨D, rfl, hD, hB3⟩
  have HR4 := Aside0.mk (HR2.out.below hB3); have HB4 := Aside0.mk (below_step HB2.out hB3); have HE := Aside0.mk hD
  clear hB3 hD hc0
  go_wp2_with (refine s_store rfl _ _ rfl rfl rfl HR4.out HZ.out HE.out ?_; intro w9 hb9 hg9; have HB9 := Aside0.mk (HB4.out.grown hg9 HB4.out.size (fun k e => by cases e; exact HG.out)); have HBB := Aside0.mk hb9; clear hb9 hg9)
  refine bodyPost_ret (results_cell_row rfl _ _ g1 tB D (0, 0) _ rfl HBB.out undB rfl (by rw [HE.out.size]; exact sizeB)) rfl ?_
  exact ⟨D, rfl, by rw [HS.out]; exact HE.out, HB9.out⟩
 | false =>
  have HS : Aside0 (sizeBV a = a) := ⟨by unfold sizeBV; rw [if_neg (by rw [ht]; decide)]⟩
  rw [ht] at hc0
  clear ht
  go_upto_region 3 with (fail)
  apply wp_region_lit
  refine s_load rfl _ rfl rfl HX2.out HA.out ?_
  refine s_store rfl _ _ rfl rfl rfl HR2.out HZ.out HA.out ?_
  intro w9 hb9 hg9
  have HB9 := Aside0.mk (HB2.out.grown hg9 HB2.out.size (fun k e => by cases e; exact HG.out))
  have HBB := Aside0.mk hb9
  clear hb9 hg9 hc0
  go_wp2
  refine bodyPost_ret (results_cell_row rfl _ _ g1 tB A (0, 0) _ rfl HBB.out undB rfl (by rw [HA.out.size]; exact sizeB)) rfl ?_
  exact ⟨A, rfl, by rw [HS.out]; exact HA.out, HB9.out⟩
def below_calls.T4 : Bool × List (List Nat × List Nat) := (true, [([], []), ([0], [0]), ([1], [1]), ([], []), ([3], [3]), ([4], [4]), ([2, 5], [2, 5])])
def below_calls.B4 : List Nat := [0, 1, 3, 0, 8, 24, 63]
theorem below_calls.tab4 : rtab .any (opsOf Tryd.f46 4) = below_calls.T4 := by kernel_rfl
theorem below_calls.bits4 : waitsOk below_calls.T4.2 below_calls.B4 = true := by kernel_rfl
set_option maxRecDepth 100000 in
set_option maxHeartbeats 4000000 in
theorem below_calls (A B : Array Value) (a b : BitVec 64) (w : World) (hA : Bits A (fun j => a.getLsbD j)) (hB : Bits B (fun j => b.getLsbD j)) :
  Calls Tryd.prog 46 #[.agg A, .agg B] w fun e w' => e = .returned (.bool (decide (a.toNat < b.toNat))) ∧ Below w.heap.size w w' := by
 have HA := Aside0.mk hA; have HBb := Aside0.mk hB
 go_enter Tryd.func46, Tryd.ntmps46
 go_upto_region 0 with (fail)
 apply wp_region_lit
 refine s_box rfl _ rfl rfl hA ?_
 intro w1 hb1 hB1 hs1
 refine s_box rfl _ rfl rfl hB ?_
 intro w2 hb2 hB2 hs2
 have HX := Aside0.mk (hb1.below hB2); have HY := Aside0.mk hb2; have HB := Aside0.mk (below_step hB1 hB2)
 obtain ⟨g1, hg1⟩ : ∃ g, g = w.heap.size := ⟨_, rfl⟩
 obtain ⟨g2, hg2⟩ : ∃ g, g = w1.heap.size := ⟨_, rfl⟩
 rw [← hg2] at HY ⊢
 rw [← hg1] at HX ⊢
 clear hg1 hg2 hA hB hb1 hB1 hs1 hb2 hB2 hs2
 have H0 : Aside0 (a.toNat / 2 ^ 64 = b.toNat / 2 ^ 64) := ⟨by rw [Nat.div_eq_of_lt a.isLt, Nat.div_eq_of_lt b.isLt]⟩
 go_upto_region 2 with (fail)
 go_loopw [5] (fun v5 wr => ∃ (n : Nat), v5 = .int .i64 ((n : Int) - 1) ∧ n ≤ 64 ∧ Aside0 (a.toNat / 2 ^ n = b.toNat / 2 ^ n) ∧ Aside0 (Blk wr g1 A) ∧ Aside0 (Blk wr g2 B) ∧ Aside0 (Below w.heap.size w wr)) (fun v5 _ => ((intOf v5) + 1).toNat)
 case atStart => exact ⟨64, rfl, by decide, H0, HX, HY, HB⟩
 case round =>
  clear H0 HX HY HB
  obtain ⟨n, rfl, hn, HE, HX, HY, HB⟩ := hrel
  cases n with
  | zero =>
   have hd : decide (a.toNat < b.toNat) = false := decide_eq_false (by have := HE.out; rw [Nat.pow_zero, Nat.div_one, Nat.div_one] at this; omega)
   have HD := Aside0.mk hd
   clear hd
   go_wp2
   go_ret
   exact ⟨by rw [HD.out]; rfl, HB.out⟩
  | succ m =>
   rw [show (((m + 1 : Nat) : Int) - 1) = (m : Int) by omega]
   have hs : a.toNat / 2 ^ m / 2 = b.toNat / 2 ^ m / 2 := by have := HE.out; rw [Nat.pow_succ, ← Nat.div_div_eq_div_mul, ← Nat.div_div_eq_div_mul] at this; exact this
   have ha := x64 (b := a) (i := m) (by omega)
   have hb := x64 (b := b) (i := m) (by omega)
   have HCA : Aside0 (∀ w', Below wr.heap.size wr w' → w'.cell? ⟨g1, m, none⟩ = some (.bool (a.getLsbD m))) := ⟨fun w' h => (HX.out.below h).cell HA.out (by omega)⟩
   have HCB : Aside0 (∀ w', Below wr.heap.size wr w' → w'.cell? ⟨g2, m, none⟩ = some (.bool (b.getLsbD m))) := ⟨fun w' h => (HY.out.below h).cell HBb.out (by omega)⟩
   have hm64 : ((m : Int) < 64) = True := eq_true (by omega)
   by_cases he : a.getLsbD m = b.getLsbD m
   ·have HN : Aside0 (a.toNat / 2 ^ m = b.toNat / 2 ^ m) := ⟨by rw [he] at ha; omega⟩
    have hq : (a.getLsbD m == b.getLsbD m) = true := by rw [he]; simp
    clear hs ha hb he
    go_upto_region 4 with (fail)
    refine start_ (n := 7) (S := fun w' => Below wr.heap.size wr w') (ds := []) (tf 0 7) (by kernel_rfl) rfl rfl ((below_drew1 (Below.refl _ _))) (fun hHeld => ?_)
    refine with_tabW below_calls.tab4 below_calls.bits4 (fun HT_ HW_ => ?_)
    refine pure_ (i := 0) (N := some 10) (v := ?_) (a' := ?_) (tf 1 6) rfl rfl (any_of HT_.out (by kernel_rfl)) (fun _ _ _ h => h) (Or.inl ⟨by rfl, ?_⟩) ?_ ?_
    rotate_left
    ·intro w'
     go_simp
     with_reducible rfl
    rotate_left
    ·simp only [Act.put, List.setIfInBounds_toArray, List.set_cons_zero, List.set_cons_succ, i64_w, i32_w]
     rfl
    refine pure_ (i := 1) (N := some 11) (v := ?_) (a' := ?_) (tf 2 5) rfl rfl (any_of HT_.out (by kernel_rfl)) (fun _ _ _ h => h) (Or.inl ⟨by rfl, ?_⟩) ?_ ?_
    rotate_left
    ·intro w'
     go_simp
     with_reducible rfl
    rotate_left
    ·simp only [Act.put, List.setIfInBounds_toArray, List.set_cons_zero, List.set_cons_succ, i64_w, i32_w]
     rfl
    refine pure_ (i := 3) (N := some 13) (v := ?_) (a' := ?_) #[true, true, false, true, false, false, false] rfl rfl (any_of HT_.out (by kernel_rfl)) (fun _ _ _ h => h) (Or.inl ⟨by rfl, ?_⟩) ?_ ?_
    rotate_left
    ·intro w'
     go_simp
     with_reducible rfl
    rotate_left
    ·simp only [Act.put, List.setIfInBounds_toArray, List.set_cons_zero, List.set_cons_succ, i64_w, i32_w]
     rfl
    refine pure_ (i := 4) (N := some 14) (v := ?_) (a' := ?_) #[true, true, false, true, true, false, false] rfl rfl (any_of HT_.out (by kernel_rfl)) (fun _ _ _ h => h) (Or.inl ⟨by rfl, ?_⟩) ?_ ?_
    rotate_left
    ·intro w'
     go_simp
     with_reducible rfl
    rotate_left
    ·simp only [Act.put, List.setIfInBounds_toArray, List.set_cons_zero, List.set_cons_succ, i64_w, i32_w]
     rfl
    refine take_ (i := 2) (N := some 12) (v := ?_) (a' := ?_) (tf 5 2) rfl rfl (take_ofW HT_.out HW_.out (by kernel_rfl)) (fun _ _ _ h => h) (Or.inl ⟨by rfl, ?_⟩) hHeld ?_ ?_
    rotate_left
    ·intro w' s0
     have x0 := HCA.out w' s0
     go_simp
     with_reducible rfl
    rotate_left
    ·simp only [Act.put, List.setIfInBounds_toArray, List.set_cons_zero, List.set_cons_succ, i64_w, i32_w]
     rfl
    refine take_ (i := 5) (N := some 15) (v := ?_) (a' := ?_) (tf 6 1) rfl rfl (take_ofW HT_.out HW_.out (by kernel_rfl)) (fun _ _ _ h => h) (Or.inl ⟨by rfl, ?_⟩) hHeld ?_ ?_
    rotate_left
    ·intro w' s0
     have x0 := HCB.out w' s0
     go_simp
     with_reducible rfl
    rotate_left
    ·simp only [Act.put, List.setIfInBounds_toArray, List.set_cons_zero, List.set_cons_succ, i64_w, i32_w]
     rfl
    refine pure_ (i := 6) (N := some 16) (v := ?_) (a' := ?_) (tf 7 0) rfl rfl (any_of HT_.out (by kernel_rfl)) (fun _ _ _ h => h) (Or.inl ⟨by rfl, ?_⟩) ?_ ?_
    rotate_left
    ·intro w'
     go_simp
     with_reducible rfl
    rotate_left
    ·simp only [Act.put, List.setIfInBounds_toArray, List.set_cons_zero, List.set_cons_succ, i64_w, i32_w]
     rfl
    refine done_ (done_of HT_.out (by kernel_rfl)) ?_
    have HX2 := Aside0.mk (HX.out.below hHeld); have HY2 := Aside0.mk (HY.out.below hHeld); have HB2 := Aside0.mk (below_step HB.out hHeld)
    clear hHeld HX HY HB HCA HCB
    go_wp2
    refine ⟨⟨m, rfl, by omega, HN, HX2, HY2, HB2⟩, ?_⟩
    show ((m : Int) - 1 + 1).toNat < ((m : Int) + 1).toNat
    omega
   ·have hq : (a.getLsbD m == b.getLsbD m) = false := by simpa using he
    have hd : decide (a.toNat < b.toNat) = b.getLsbD m := by
     have h1 : a.toNat / 2 ^ m < b.toNat / 2 ^ m ∨ b.toNat / 2 ^ m < a.toNat / 2 ^ m := by
      cases h2 : a.getLsbD m <;> cases h3 : b.getLsbD m <;> rw [h2] at ha he <;> rw [h3] at hb he <;> simp at ha hb he <;> omega
     cases h3 : b.getLsbD m with
     | true =>
      have h2 : a.getLsbD m = false := by cases h2 : a.getLsbD m <;> simp_all
      rw [h2] at ha; rw [h3] at hb
      simp at ha hb
      have h4 : a.toNat / 2 ^ m < b.toNat / 2 ^ m := by omega
      exact decide_eq_true (Nat.lt_of_not_le (fun h => absurd (Nat.div_le_div_right (c := 2 ^ m) h) (by omega)))
     | false =>
      have h2 : a.getLsbD m = true := by cases h2 : a.getLsbD m <;> simp_all
      rw [h2] at ha; rw [h3] at hb
      simp at ha hb
      have h4 : b.toNat / 2 ^ m < a.toNat / 2 ^ m := by omega
      exact decide_eq_false (fun h => absurd (Nat.div_le_div_right (c := 2 ^ m) (Nat.le_of_lt h)) (by omega))
    have HD := Aside0.mk hd
    clear hs ha hb he hd
    go_upto_region 4 with (fail)
    refine start_ (n := 7) (S := fun w' => Below wr.heap.size wr w') (ds := []) (tf 0 7) (by kernel_rfl) rfl rfl ((below_drew1 (Below.refl _ _))) (fun hHeld => ?_)
    refine with_tabW below_calls.tab4 below_calls.bits4 (fun HT_ HW_ => ?_)
    refine pure_ (i := 0) (N := some 10) (v := ?_) (a' := ?_) (tf 1 6) rfl rfl (any_of HT_.out (by kernel_rfl)) (fun _ _ _ h => h) (Or.inl ⟨by rfl, ?_⟩) ?_ ?_
    rotate_left
    ·intro w'
     go_simp
     with_reducible rfl
    rotate_left
    ·simp only [Act.put, List.setIfInBounds_toArray, List.set_cons_zero, List.set_cons_succ, i64_w, i32_w]
     rfl
    refine pure_ (i := 1) (N := some 11) (v := ?_) (a' := ?_) (tf 2 5) rfl rfl (any_of HT_.out (by kernel_rfl)) (fun _ _ _ h => h) (Or.inl ⟨by rfl, ?_⟩) ?_ ?_
    rotate_left
    ·intro w'
     go_simp
     with_reducible rfl
    rotate_left
    ·simp only [Act.put, List.setIfInBounds_toArray, List.set_cons_zero, List.set_cons_succ, i64_w, i32_w]
     rfl
    refine pure_ (i := 3) (N := some 13) (v := ?_) (a' := ?_) #[true, true, false, true, false, false, false] rfl rfl (any_of HT_.out (by kernel_rfl)) (fun _ _ _ h => h) (Or.inl ⟨by rfl, ?_⟩) ?_ ?_
    rotate_left
    ·intro w'
     go_simp
     with_reducible rfl
    rotate_left
    ·simp only [Act.put, List.setIfInBounds_toArray, List.set_cons_zero, List.set_cons_succ, i64_w, i32_w]
     rfl
    refine pure_ (i := 4) (N := some 14) (v := ?_) (a' := ?_) #[true, true, false, true, true, false, false] rfl rfl (any_of HT_.out (by kernel_rfl)) (fun _ _ _ h => h) (Or.inl ⟨by rfl, ?_⟩) ?_ ?_
    rotate_left
    ·intro w'
     go_simp
     with_reducible rfl
    rotate_left
    ·simp only [Act.put, List.setIfInBounds_toArray, List.set_cons_zero, List.set_cons_succ, i64_w, i32_w]
     rfl
    refine take_ (i := 2) (N := some 12) (v := ?_) (a' := ?_) (tf 5 2) rfl rfl (take_ofW HT_.out HW_.out (by kernel_rfl)) (fun _ _ _ h => h) (Or.inl ⟨by rfl, ?_⟩) hHeld ?_ ?_
    rotate_left
    ·intro w' s0
     have x0 := HCA.out w' s0
     go_simp
     with_reducible rfl
    rotate_left
    ·simp only [Act.put, List.setIfInBounds_toArray, List.set_cons_zero, List.set_cons_succ, i64_w, i32_w]
     rfl
    refine take_ (i := 5) (N := some 15) (v := ?_) (a' := ?_) (tf 6 1) rfl rfl (take_ofW HT_.out HW_.out (by kernel_rfl)) (fun _ _ _ h => h) (Or.inl ⟨by rfl, ?_⟩) hHeld ?_ ?_
    rotate_left
    ·intro w' s0
     have x0 := HCB.out w' s0
     go_simp
     with_reducible rfl
    rotate_left
    ·simp only [Act.put, List.setIfInBounds_toArray, List.set_cons_zero, List.set_cons_succ, i64_w, i32_w]
     rfl
    refine pure_ (i := 6) (N := some 16) (v := ?_) (a' := ?_) (tf 7 0) rfl rfl (any_of HT_.out (by kernel_rfl)) (fun _ _ _ h => h) (Or.inl ⟨by rfl, ?_⟩) ?_ ?_
    rotate_left
    ·intro w'
     go_simp
     with_reducible rfl
    rotate_left
    ·simp only [Act.put, List.setIfInBounds_toArray, List.set_cons_zero, List.set_cons_succ, i64_w, i32_w]
     rfl
    refine done_ (done_of HT_.out (by kernel_rfl)) ?_
    have hc9 := HCB.out _ hHeld
    go_wp2
    go_ret
    exact ⟨by rw [HD.out]; rfl, below_step HB.out hHeld⟩
def tr (c : Bool) : Int := if c = true then 1 else 0
set_option maxRecDepth 100000 in
theorem truth_calls (c : Bool) (w : World) :
  Calls Tryd.prog 35 #[.bool c] w fun e w' => e = .returned (.int .i64 (tr c)) ∧ Below w.heap.size w w' := by
 have HB := Aside0.mk (Below.refl w.heap.size w)
 go_enter Tryd.func35, Tryd.ntmps35
 cases c with
 | true =>
  go_wp2
  go_ret
  exact ⟨rfl, HB.out⟩
 | false =>
  go_wp2
  go_ret
  exact ⟨rfl, HB.out⟩
theorem toInt_of (a : BitVec 64) : a.toInt = (a.toNat : Int) - (if a.getLsbD 63 = true then 18446744073709551616 else 0) := by
 rw [BitVec.toInt_eq_msb_cond, BitVec.msb_eq_getLsbD_last]
 by_cases h : a.getLsbD 63 = true
 ·rw [if_pos h, if_pos (by simpa using h)]; rfl
 ·rw [if_neg h, if_neg (by simpa using h)]; omega
set_option maxRecDepth 100000 in
set_option maxHeartbeats 4000000 in
theorem less_calls (A B : Array Value) (a b : BitVec 64) (w : World) (hA : Bits A (fun j => a.getLsbD j)) (hB : Bits B (fun j => b.getLsbD j)) :
  Calls Tryd.prog 36 #[.agg A, .agg B] w fun e w' => e = .returned (.bool (decide (a.toInt < b.toInt))) ∧ Below w.heap.size w w' := by
 have HA := Aside0.mk hA; have HBb := Aside0.mk hB
 go_enter Tryd.func36, Tryd.ntmps36
 go_upto_region 0 with (fail)
 apply wp_region_lit
 refine s_box rfl _ rfl rfl hA ?_
 intro w1 hb1 hB1 hs1
 refine s_box rfl _ rfl rfl hB ?_
 intro w2 hb2 hB2 hs2
 have HX := Aside0.mk (hb1.below hB2); have HY := Aside0.mk hb2; have HB := Aside0.mk (below_step hB1 hB2)
 obtain ⟨g1, hg1⟩ : ∃ g, g = w.heap.size := ⟨_, rfl⟩
 obtain ⟨g2, hg2⟩ : ∃ g, g = w1.heap.size := ⟨_, rfl⟩
 rw [← hg2] at HY ⊢
 rw [← hg1] at HX ⊢
 clear hg1 hg2 hA hB hb1 hB1 hs1 hb2 hB2 hs2
 have hc0 := HX.out.cell HA.out (i := 63) (by decide)
 have hc1 := HY.out.cell HBb.out (i := 63) (by decide)
 have hea := toInt_of a
 have heb := toInt_of b
 have hla := a.isLt
 have hlb := b.isLt
 have hma : a.toNat / 2 ^ 63 % 2 = (a.getLsbD 63).toNat := x64 (by decide)
 have hmb : b.toNat / 2 ^ 63 % 2 = (b.getLsbD 63).toNat := x64 (by decide)
 have HD : Aside0 (decide (a.toInt < b.toInt) = if a.getLsbD 63 = b.getLsbD 63 then decide (a.toNat < b.toNat) else a.getLsbD 63) := ⟨by
  cases h2 : a.getLsbD 63 <;> cases h3 : b.getLsbD 63 <;> rw [h2] at hea hma <;> rw [h3] at heb hmb <;> simp at hea heb hma hmb
  ·rw [if_pos rfl]; exact decide_eq_decide.mpr (by omega)
  ·rw [if_neg (by decide)]; exact decide_eq_false (by omega)
  ·rw [if_neg (by decide)]; exact decide_eq_true (by omega)
  ·rw [if_pos rfl]; exact decide_eq_decide.mpr (by omega)⟩
 clear hea heb hla hlb hma hmb
 obtain ⟨p, hp⟩ : ∃ p, p = a.getLsbD 63 := ⟨_, rfl⟩
 obtain ⟨q, hq0⟩ : ∃ q, q = b.getLsbD 63 := ⟨_, rfl⟩
 rw [← hp] at hc0
 rw [← hq0] at hc1
 rw [← hp, ← hq0] at HD
 clear hp hq0
 by_cases he : p = q
 ·have hq : (p == q) = true := by rw [he]; simp
  have HD2 : Aside0 (decide (a.toInt < b.toInt) = decide (a.toNat < b.toNat)) := ⟨by rw [HD.out, if_pos he]⟩
  clear HD he
  go_upto_region 3 with (fail)
  apply wp_region_lit
  refine s_load rfl _ rfl rfl HX.out HA.out ?_
  refine s_load rfl _ rfl rfl HY.out HBb.out ?_
  clear hc0 hc1
  go_wp2_with fail
  refine (below_calls A B a b w2 HA.out HBb.out).mono ?_
  rintro e w3 ⟨rfl, hB3⟩
  go_wp2
  go_ret
  exact ⟨by rw [HD2.out]; rfl, below_step HB.out hB3⟩
 ·have hq : (p == q) = false := by simpa using he
  have HD2 : Aside0 (decide (a.toInt < b.toInt) = p) := ⟨by rw [HD.out, if_neg he]⟩
  clear HD he
  go_wp2
  go_ret
  exact ⟨by rw [HD2.out]; rfl, HB.out⟩
theorem ld {w : World} {g : Nat} {C : Array Value} {f : Nat → Bool} (h : Blk w g C) (hC : Bits C f) : (Instr.loadAt tB (.pointer (some ⟨g, 0, none⟩))).run Tryd.prog w = .ok (.agg C) w := by
 have := run_loadAt_mid w g 0 tB C.toList (.array 64 4) (h.range hC) undB rfl (by rw [Array.length_toList, hC.size]; exact sizeB)
 simpa using this
theorem st {w : World} {g : Nat} {C D : Array Value} {f k : Nat → Bool} (h : Blk w g C) (hC : Bits C f) (hD : Bits D k) : (Instr.storeAt tB (.pointer (some ⟨g, 0, none⟩)) (.agg D)).run Tryd.prog w = .ok () (w.setRow g D) := by
 have hst : (storeVar tB ⟨g, 0, none⟩ (.agg D)).run Tryd.prog w = .ok () (w.setRow g D) := run_storeVar_row _ _ tB tB C D h (by rw [hD.size]; exact sizeB) (by rw [hC.size, hD.size]) hD.one
 simp only [Instr.storeAt, Instr.sureAddr, Sem.run_bind, Sem.run_pure, Result.andThen_ok, hst]
section
variable {ops : Array Oper} {rest : List Oper} {o : Oper} {a : Act} {w : World} {Q : Exit → Act → World → Prop}
theorem ex_ld (x : Operand) (ho : o.op = .load tB x) {g : Nat} {C : Array Value} {f : Nat → Bool} (hx : a.eval x = .pointer (some ⟨g, 0, none⟩)) (h : Blk w g C) (hC : Bits C f) : (execOp a.eval o).run Tryd.prog w = .ok (.value (.agg C)) w := by
 unfold execOp; simp [ho, hx, ld h hC]
theorem ex_st (x y : Operand) (ho : o.op = .store tB x y) {g : Nat} {C D : Array Value} {f k : Nat → Bool} (hx : a.eval x = .pointer (some ⟨g, 0, none⟩)) (hy : a.eval y = .agg D) (h : Blk w g C) (hC : Bits C f) (hD : Bits D k) : (execOp a.eval o).run Tryd.prog w = .ok .skip (w.setRow g D) := by
 unfold execOp; simp [ho, hx, hy, st h hC hD]
theorem s_loadG (hw : Region.wanted o (yielded ops a.tmps) = true) (x : Operand) (ho : o.op = .load tB x) {g : Nat} {C : Array Value} {f : Nat → Bool} (hx : a.eval x = .pointer (some ⟨g, 0, none⟩)) (hb : Blk w g C) (hC : Bits C f)
  (h : wpList Tryd.prog ops Q rest (a.put o.dst (.agg C)) w) : wpList Tryd.prog ops Q (o :: rest) a w := by
 unfold wpList
 rw [hw, if_pos rfl]
 refine Or.inl ?_
 exact wp_load_mid tB x ho g 0 hx C.toList (.array 64 4) (hb.range hC) undB rfl (by rw [Array.length_toList, hC.size]; exact sizeB) (by simpa using h)
end
theorem grownBy_setRow {w : World} {g : Nat} {D : Array Value} : w.grownBy (w.setRow g D) (some g) := by
 refine ⟨rfl, rfl, rfl, ?_, fun j hj hne => setRow_other w g j D (fun e => hne (by rw [e]))⟩
 show w.heap.size ≤ (w.heap.modify g _).size
 rw [Array.size_modify]; exact Nat.le_refl _
theorem Blk.row {w : World} {g : Nat} {C : Array Value} (h : Blk w g C) (D : Array Value) : Blk (w.setRow g D) g D := setRow_heap w g C D tB (0, 0) h
theorem results_two {fn : Func} {p q : Tmp} (h : fn.results = #[.cell p tB, .cell q tB]) (tmps : Array Value) (w : World) (g k : Nat) (C D : Array Value) {f e : Nat → Bool}
  (hp : tmps.getD p undef = .pointer (some ⟨g, 0, none⟩)) (hq : tmps.getD q undef = .pointer (some ⟨k, 0, none⟩)) (hg : Blk w g C) (hk : Blk w k D) (hC : Bits C f) (hD : Bits D e) :
  (results fn tmps).run Tryd.prog w = .ok (.tuple #[.agg C, .agg D]) w := by
 have hp' : tmps[p]?.getD undef = .pointer (some ⟨g, 0, none⟩) := by simpa using hp
 have hq' : tmps[q]?.getD undef = .pointer (some ⟨k, 0, none⟩) := by simpa using hq
 simp [results, h, hp', hq', asAddr, run_loadVar_row w g tB tB C (0, 0) _ hg undB rfl (by rw [hC.size]; exact sizeB), run_loadVar_row w k tB tB D (0, 0) _ hk undB rfl (by rw [hD.size]; exact sizeB)]
/-! One step of the long division. -/
theorem step_t (x m : Nat) (b : Nat) (hb : 0 < b) (p : Nat) (hp : p < 2) (hx : x / 2 ^ m = 2 * (x / 2 ^ (m + 1)) + p) :
  (x / 2 ^ m) % b = (if b ≤ 2 * ((x / 2 ^ (m + 1)) % b) + p then 2 * ((x / 2 ^ (m + 1)) % b) + p - b else 2 * ((x / 2 ^ (m + 1)) % b) + p) ∧
  (x / b / 2 ^ m) % 2 = (if b ≤ 2 * ((x / 2 ^ (m + 1)) % b) + p then 1 else 0) := by
 rw [Nat.div_div_eq_div_mul, Nat.mul_comm b, ← Nat.div_div_eq_div_mul, hx]
 generalize x / 2 ^ (m + 1) = y
 have h1 := Nat.div_add_mod y b
 have h2 := Nat.mod_lt y hb
 generalize y / b = q at h1
 generalize y % b = r at h1 h2 ⊢
 subst h1
 have e : 2 * (b * q + r) + p = b * (2 * q) + (2 * r + p) := by rw [Nat.mul_add, Nat.mul_left_comm]; omega
 rw [e, Nat.mul_add_mod, Nat.mul_add_div hb]
 by_cases h : b ≤ 2 * r + p
 ·rw [if_pos h, if_pos h]
  have h3 : (2 * r + p) / b = 1 := Nat.div_eq_of_lt_le (by omega) (by omega)
  rw [h3]
  refine ⟨?_, by omega⟩
  rw [Nat.mod_eq_sub_mod h, Nat.mod_eq_of_lt (by omega)]
 ·rw [if_neg h, if_neg h]
  have h3 : (2 * r + p) / b = 0 := Nat.div_eq_of_lt (by omega)
  rw [h3]
  exact ⟨Nat.mod_eq_of_lt (by omega), by omega⟩
theorem bits_t (r : Nat) (p : Bool) (j : Nat) (hj : j < 64) : (if j = 0 then p else (decide (1 ≤ j) && (BitVec.ofNat 64 r).getLsbD (j - 1))) = (BitVec.ofNat 64 (2 * r + p.toNat)).getLsbD j := by
 rw [BitVec.getLsbD_ofNat, BitVec.getLsbD_ofNat, decide_eq_true hj, Bool.true_and]
 cases j with
 | zero =>
  rw [if_pos rfl, Nat.testBit_zero]
  cases p <;> simp <;> omega
 | succ k =>
  rw [if_neg (by omega), decide_eq_true (show 1 ≤ k + 1 by omega), Bool.true_and, Nat.add_sub_cancel, decide_eq_true (show k < 64 by omega), Bool.true_and, Nat.testBit_succ]
  congr 1
  cases p <;> simp <;> omega
theorem sub_bv (t : Nat) (b : BitVec 64) (h : b.toNat ≤ t) : BitVec.ofNat 64 t + ~~~b + ofB true = BitVec.ofNat 64 (t - b.toNat) := by
 rw [BitVec.add_assoc, show ~~~b + ofB true = -b from by rw [BitVec.neg_eq_not_add]; rfl, ← BitVec.sub_eq_add_neg]
 apply BitVec.eq_of_toNat_eq
 have := b.isLt
 rw [BitVec.toNat_sub, BitVec.toNat_ofNat, BitVec.toNat_ofNat]
 omega
theorem bit_div (a b : BitVec 64) (m : Nat) (hm : m < 64) : (a / b).getLsbD m = decide ((a.toNat / b.toNat / 2 ^ m) % 2 = 1) := by
 have := x64 (b := a / b) hm
 rw [BitVec.toNat_udiv] at this
 rw [this]
 cases (a / b).getLsbD m <;> rfl
def divide_calls.T10 : Bool × List (List Nat × List Nat) := (true, [([], []), ([], []), ([1], [1]), ([0, 2, 2], [0, 2]), ([3, 3, 0, 1, 2, 3], [3])])
def divide_calls.B10 : List Nat := [0, 0, 2, 7, 15]
theorem divide_calls.tab10 : rtab .any (opsOf Tryd.f32 10) = divide_calls.T10 := by kernel_rfl
theorem divide_calls.bits10 : waitsOk divide_calls.T10.2 divide_calls.B10 = true := by kernel_rfl
def divide_calls.T12 : Bool × List (List Nat × List Nat) := (true, [([], []), ([], []), ([0, 0], [0]), ([1, 2, 0, 1, 2], [1])])
def divide_calls.B12 : List Nat := [0, 0, 1, 7]
theorem divide_calls.tab12 : rtab .any (opsOf Tryd.f32 12) = divide_calls.T12 := by kernel_rfl
theorem divide_calls.bits12 : waitsOk divide_calls.T12.2 divide_calls.B12 = true := by kernel_rfl
set_option maxRecDepth 100000 in
set_option maxHeartbeats 8000000 in
theorem divide_calls (A B : Array Value) (a b : BitVec 64) (w : World) (hA : Bits A (fun j => a.getLsbD j)) (hB : Bits B (fun j => b.getLsbD j)) (hb0 : 0 < b.toNat) :
  Calls Tryd.prog 32 #[.agg A, .agg B] w fun e w' => ∃ Q R, e = .returned (.tuple #[.agg Q, .agg R]) ∧ Bits Q (fun j => (a / b).getLsbD j) ∧ Bits R (fun j => (a % b).getLsbD j) ∧ Below w.heap.size w w' := by
 have HA := Aside0.mk hA; have HBb := Aside0.mk hB; have HP := Aside0.mk hb0
 go_enter Tryd.func32, Tryd.ntmps32
 go_upto_region 0 with (fail)
 apply wp_region_lit
 refine s_box rfl _ rfl rfl hA ?_
 intro w1 hb1 hB1 hs1
 refine s_box rfl _ rfl rfl hB ?_
 intro w2 hb2 hB2 hs2
 refine s_alloc rfl rfl ?_
 intro Z4 w3 hZ4 hb3 hB3 hs3
 refine s_alloc rfl rfl ?_
 intro Z5 w4 hZ5 hb4 hB4 hs4
 go_upto_region 1 with (fail)
 apply wp_region_lit
 refine s_build rfl rfl ?_
 intro Y6 hY6
 refine s_alloc rfl rfl ?_
 intro Z6 w5 hZ6 hb5 hB5 hs5
 refine s_store rfl _ _ rfl rfl rfl hb5 hZ6 hY6 ?_
 intro w6 hb6 hg6
 go_upto_region 2 with (fail)
 apply wp_region_lit
 refine s_build rfl rfl ?_
 intro Y7 hY7
 refine s_alloc rfl rfl ?_
 intro Z7 w7 hZ7 hb7 hB7 hs7
 refine s_store rfl _ _ rfl rfl rfl hb7 hZ7 hY7 ?_
 intro w8 hb8 hg8
 have hs6 := hg6.size
 have hs8 := hg8.size
 have hl6 := hb6.lt
 have HX : Aside0 (Blk w8 w.heap.size A) := ⟨(((((((hb1.below hB2).below hB3).below hB4).below hB5).grown hg6 (by omega)).below hB7).grown hg8 (by omega))⟩
 have HY : Aside0 (Blk w8 w1.heap.size B) := ⟨((((((hb2.below hB3).below hB4).below hB5).grown hg6 (by omega)).below hB7).grown hg8 (by omega))⟩
 have H4 : Aside0 (Blk w8 w2.heap.size Z4) := ⟨(((((hb3.below hB4).below hB5).grown hg6 (by omega)).below hB7).grown hg8 (by omega))⟩
 have H5 : Aside0 (Blk w8 w3.heap.size Z5) := ⟨((((hb4.below hB5).grown hg6 (by omega)).below hB7).grown hg8 (by omega))⟩
 have H6 : Aside0 (Blk w8 w4.heap.size Y6) := ⟨((hb6.below hB7).grown hg8 (by omega))⟩
 have H7 : Aside0 (Blk w8 w6.heap.size Y7) := ⟨hb8⟩
 have hBa := below_step (below_step (below_step (below_step hB1 hB2) hB3) hB4) hB5
 have hBb := hBa.grown hg6 hBa.size (fun k e => by cases e; omega)
 have hBc := below_step hBb hB7
 have HB : Aside0 (Below w.heap.size w w8) := ⟨hBc.grown hg8 hBc.size (fun k e => by cases e; omega)⟩
 obtain ⟨g2, hg2⟩ : ∃ g, g = w.heap.size := ⟨_, rfl⟩
 obtain ⟨g3, hg3⟩ : ∃ g, g = w1.heap.size := ⟨_, rfl⟩
 obtain ⟨g4, hg4⟩ : ∃ g, g = w2.heap.size := ⟨_, rfl⟩
 obtain ⟨g5, hg5⟩ : ∃ g, g = w3.heap.size := ⟨_, rfl⟩
 obtain ⟨q6, hq6⟩ : ∃ g, g = w4.heap.size := ⟨_, rfl⟩
 obtain ⟨q7, hq7⟩ : ∃ g, g = w6.heap.size := ⟨_, rfl⟩
 have HG4 : Aside0 (w.heap.size ≤ g4 ∧ w.heap.size ≤ g5 ∧ w.heap.size ≤ q6 ∧ w.heap.size ≤ q7) := ⟨by omega⟩
 have HN : Aside0 (g2 ≠ q6 ∧ g3 ≠ q6 ∧ g4 ≠ q6 ∧ g5 ≠ q6 ∧ g2 ≠ q7 ∧ g3 ≠ q7 ∧ g4 ≠ q7 ∧ g5 ≠ q7 ∧ q6 ≠ q7 ∧ g4 ≠ g5) := ⟨by omega⟩
 rw [← hg2] at HX ⊢
 rw [← hg3] at HY ⊢
 rw [← hg4] at H4 ⊢
 rw [← hg5] at H5 ⊢
 rw [← hq6] at H6 ⊢
 rw [← hq7] at H7 ⊢
 have HQ0 : Aside0 (Bits Y6 (fun j => decide (64 ≤ j) && (a / b).getLsbD j)) := ⟨hY6.congr (fun i hi => by rw [decide_eq_false (by omega)]; rfl)⟩
 have HR0 : Aside0 (Bits Y7 (fun j => (BitVec.ofNat 64 ((a.toNat / 2 ^ 64) % b.toNat)).getLsbD j)) := ⟨hY7.congr (fun i hi => by rw [Nat.div_eq_of_lt a.isLt]; simp [off])⟩
 have HZ4 := Aside0.mk hZ4; have HZ5 := Aside0.mk hZ5
 clear hg2 hg3 hg4 hg5 hq6 hq7 hA hB hb0 hb1 hB1 hs1 hb2 hB2 hs2 hZ4 hb3 hB3 hs3 hZ5 hb4 hB4 hs4 hY6 hZ6 hb5 hB5 hs5 hb6 hg6 hY7 hZ7 hb7 hB7 hs7 hb8 hg8 hs6 hs8 hl6 hBa hBb hBc
 go_upto_region 4 with (fail)
 go_loopw [8] (fun v8 wr => ∃ (n : Nat) (Q R : Array Value), v8 = .int .i64 ((n : Int) - 1) ∧ n ≤ 64 ∧ Aside0 (Bits Q (fun j => decide (n ≤ j) && (a / b).getLsbD j)) ∧ Aside0 (Bits R (fun j => (BitVec.ofNat 64 ((a.toNat / 2 ^ n) % b.toNat)).getLsbD j)) ∧ Aside0 (Blk wr q6 Q) ∧ Aside0 (Blk wr q7 R) ∧ Aside0 (Blk wr g2 A) ∧ Aside0 (Blk wr g3 B) ∧ Aside0 (Blk wr g4 Z4) ∧ Aside0 (Blk wr g5 Z5) ∧ Aside0 (Below w.heap.size w wr)) (fun v8 _ => ((intOf v8) + 1).toNat)
 case atStart => exact ⟨64, Y6, Y7, rfl, by decide, HQ0, HR0, H6, H7, HX, HY, H4, H5, HB⟩
 case round =>
  clear HQ0 HR0 H6 H7 HX HY H4 H5 HB
  obtain ⟨n, Q, R, rfl, hn, HQ, HR, H6, H7, HX, HY, H4, H5, HB⟩ := hrel
  cases n with
  | zero =>
   go_upto_region 12 with (fail)
   refine start_ (n := 4) (S := fun w' => Blk w' q6 Q ∧ Blk w' q7 R) (ds := [3]) #[false, false, false, false] (by kernel_rfl) rfl rfl ⟨H6.out, H7.out⟩ (fun hHeld => ?_)
   refine with_tabW divide_calls.tab12 divide_calls.bits12 (fun HT_ HW_ => ?_)
   refine take_ (i := 0) (N := some 37) (v := .agg Q) (a' := ?_) #[true, false, false, false] rfl rfl (take_ofW HT_.out HW_.out (by kernel_rfl)) (fun _ _ _ h => h) (Or.inl ⟨by rfl, ?_⟩) hHeld ?_ ?_
   ·rintro w' ⟨s0, s1⟩
    exact ex_ld _ rfl rfl s0 HQ.out
   rotate_left
   ·simp only [Act.put, List.setIfInBounds_toArray, List.set_cons_zero, List.set_cons_succ, i64_w, i32_w]
    rfl
   refine take_ (i := 1) (N := some 38) (v := .agg R) (a' := ?_) #[true, true, false, false] rfl rfl (take_ofW HT_.out HW_.out (by kernel_rfl)) (fun _ _ _ h => h) (Or.inl ⟨by rfl, ?_⟩) hHeld ?_ ?_
   ·rintro w' ⟨s0, s1⟩
    exact ex_ld _ rfl rfl s1 HR.out
   rotate_left
   ·simp only [Act.put, List.setIfInBounds_toArray, List.set_cons_zero, List.set_cons_succ, i64_w, i32_w]
    rfl
   refine one_ (i := 2) (N := none) #[true, true, true, false] rfl rfl (one_of HT_.out (by kernel_rfl)) (by decide) (fun K hK => ?_)
   refine skip_ (by rfl) rfl (ex_st _ _ rfl rfl rfl (show Blk wr.drew g4 Z4 from H4.out) HZ4.out HQ.out) ?_
   refine hK.out _ _ ⟨(Blk.grown (w := wr.drew) H6.out grownBy_setRow (Ne.symm HN.out.2.2.1)), (Blk.grown (w := wr.drew) H7.out grownBy_setRow (Ne.symm HN.out.2.2.2.2.2.2.1))⟩ (fun hHeld => ?_)
   clear hK K
   refine last_ (i := 3) (N := none) #[true, true, true, true] rfl rfl (one_of HT_.out (by kernel_rfl)) (by decide) (fun K hK => ?_)
   refine skip_ (by rfl) rfl (ex_st _ _ rfl rfl rfl (Blk.grown (w := wr.drew) H5.out (grownBy_setRow (D := Q)) (Ne.symm HN.out.2.2.2.2.2.2.2.2.2)) HZ5.out HR.out) ?_
   refine hK.out _ _ ?_
   clear hK K
   refine done_ (done_of HT_.out (by kernel_rfl)) ?_
   have HQ1 : Aside0 (Bits Q (fun j => (a / b).getLsbD j)) := ⟨HQ.out.congr (fun i hi => by simp)⟩
   have HR1 : Aside0 (Bits R (fun j => (a % b).getLsbD j)) := ⟨HR.out.congr (fun i hi => by
    rw [Nat.pow_zero, Nat.div_one]
    congr 1
    apply BitVec.eq_of_toNat_eq
    rw [BitVec.toNat_ofNat, BitVec.toNat_umod, Nat.mod_eq_of_lt]
    exact Nat.lt_of_le_of_lt (Nat.mod_le _ _) a.isLt)⟩
   have HE4 : Aside0 (Blk ((wr.drew.setRow g4 Q).setRow g5 R) g4 Q) := ⟨(Blk.row (w := wr.drew) H4.out Q).grown grownBy_setRow HN.out.2.2.2.2.2.2.2.2.2⟩
   have HE5 : Aside0 (Blk ((wr.drew.setRow g4 Q).setRow g5 R) g5 R) := ⟨Blk.row (Blk.grown (w := wr.drew) H5.out grownBy_setRow (Ne.symm HN.out.2.2.2.2.2.2.2.2.2)) R⟩
   have HB9 : Aside0 (Below w.heap.size w ((wr.drew.setRow g4 Q).setRow g5 R)) := ⟨by
    have h1 := Below.grown (below_drew1 HB.out) (grownBy_setRow (g := g4) (D := Q)) (below_drew1 HB.out).size (fun k e => by cases e; exact HG4.out.1)
    exact h1.grown (grownBy_setRow (g := g5) (D := R)) h1.size (fun k e => by cases e; exact HG4.out.2.1)⟩
   go_wp2
   refine bodyPost_ret (results_two rfl _ _ g4 g5 Q R rfl rfl HE4.out HE5.out HQ1.out HR1.out) rfl ?_
   exact ⟨Q, R, rfl, HQ1.out, HR1.out, HB9.out⟩
  | succ m =>
   rw [show (((m + 1 : Nat) : Int) - 1) = (m : Int) by omega]
   have hm64 : ((m : Int) < 64) = True := eq_true (by omega)
   have hm : m < 64 := by omega
   obtain ⟨p, hp⟩ : ∃ p, p = a.getLsbD m := ⟨_, rfl⟩
   obtain ⟨r, hr⟩ : ∃ r, r = (a.toNat / 2 ^ (m + 1)) % b.toNat := ⟨_, rfl⟩
   have hx : a.toNat / 2 ^ m = 2 * (a.toNat / 2 ^ (m + 1)) + p.toNat := by
    have h1 := x64 (b := a) hm
    have h2 : a.toNat / 2 ^ m / 2 = a.toNat / 2 ^ (m + 1) := by rw [Nat.div_div_eq_div_mul, Nat.pow_succ]
    rw [← hp] at h1
    omega
   obtain ⟨hS1, hS2⟩ := step_t a.toNat m b.toNat HP.out p.toNat (by cases p <;> decide) hx
   have hrb : r < b.toNat := by rw [hr]; exact Nat.mod_lt _ HP.out
   rw [← hr] at hS1 hS2 HR
   have hbit := bit_div a b m hm
   rw [hS2] at hbit
   obtain ⟨t, ht⟩ : ∃ t, t = 2 * r + p.toNat := ⟨_, rfl⟩
   rw [← ht] at hS1 hS2 hbit
   have htop : (BitVec.ofNat 64 r).getLsbD 63 = decide (18446744073709551616 ≤ t) := by
    have hbl := b.isLt
    rw [BitVec.getLsbD_ofNat, decide_eq_true (show 63 < 64 by omega), Bool.true_and, Nat.testBit_eq_decide_div_mod_eq]
    have : p.toNat < 2 := by cases p <;> decide
    apply decide_eq_decide.mpr
    omega
   have hc7 := H7.out.cell HR.out (i := 63) (by decide)
   obtain ⟨tp, htp⟩ : ∃ tp, tp = decide (18446744073709551616 ≤ t) := ⟨_, rfl⟩
   rw [htop, ← htp] at hc7
   have HTP := Aside0.mk htp; have HS1 := Aside0.mk hS1; have HBIT := Aside0.mk hbit; have HM := Aside0.mk hm; have HM64 := Aside0.mk hm64
   have HTT : Aside0 (t = 2 * r + p.toNat) := ⟨ht⟩
   have HPA := Aside0.mk hp
   clear htp htop hS1 hS2 hbit hx hrb ht hr hp
   go_upto_region 7 with (fail)
   apply wp_region_lit
   refine s_load rfl _ rfl rfl H7.out HR.out ?_
   clear hc7
   go_wp2_with fail
   refine (left_calls R _ 1 wr HR.out (by decide)).mono ?_
   rintro e w3 ⟨L, rfl, hL, hB3⟩
   have HL := Aside0.mk hL
   have H6 := Aside0.mk (H6.out.below hB3); have H7 := Aside0.mk (H7.out.below hB3); have HX := Aside0.mk (HX.out.below hB3); have HY := Aside0.mk (HY.out.below hB3); have H4 := Aside0.mk (H4.out.below hB3); have H5 := Aside0.mk (H5.out.below hB3); have HB := Aside0.mk (below_step HB.out hB3)
   clear hL hB3
   go_upto_region 9 with (refine s_store rfl _ _ rfl rfl rfl H7.out HR.out HL.out ?_; intro w4 hb4 hg4; have H6 := Aside0.mk (H6.out.grown hg4 HN.out.2.2.2.2.2.2.2.2.1); have HX := Aside0.mk (HX.out.grown hg4 HN.out.2.2.2.2.1); have HY := Aside0.mk (HY.out.grown hg4 HN.out.2.2.2.2.2.1); have H4 := Aside0.mk (H4.out.grown hg4 HN.out.2.2.2.2.2.2.1); have H5 := Aside0.mk (H5.out.grown hg4 HN.out.2.2.2.2.2.2.2.1); have HB := Aside0.mk (HB.out.grown hg4 HB.out.size (fun k e => by cases e; exact HG4.out.2.2.2)); have H7 := Aside0.mk hb4; have hpa := HX.out.cell HA.out HM.out; rw [← HPA.out] at hpa; have hc70 := hb4.cell HL.out (i := 0) (by decide); have hf70 := hb4.frozen 0; clear hb4 hg4)
   obtain ⟨T, hT, hbT, hgT⟩ := set_bit H7.out HL.out (i := 0) (by decide) p
   have HT : Aside0 (Bits T (fun j => (BitVec.ofNat 64 t).getLsbD j)) := ⟨hT.congr (fun j hj => by rw [HTT.out]; exact bits_t r p j hj)⟩
   have H7n := Aside0.mk hbT; have HG := Aside0.mk hgT
   clear hT hbT hgT hpa hc70 hf70
   have H6n := Aside0.mk (H6.out.grown HG.out HN.out.2.2.2.2.2.2.2.2.1); have HXn := Aside0.mk (HX.out.grown HG.out HN.out.2.2.2.2.1); have HYn := Aside0.mk (HY.out.grown HG.out HN.out.2.2.2.2.2.1); have H4n := Aside0.mk (H4.out.grown HG.out HN.out.2.2.2.2.2.2.1); have H5n := Aside0.mk (H5.out.grown HG.out HN.out.2.2.2.2.2.2.2.1); have HBn := Aside0.mk (HB.out.grown HG.out HB.out.size (fun k e => by cases e; exact HG4.out.2.2.2))
   clear H6 H7 HX HY H4 H5 HB HG
   generalize w4.setCell { block := q7, off := 0 } (.bool p) = ws at H6n H7n HXn HYn H4n H5n HBn ⊢
   have H6 := H6n; have H7 := H7n; have HX := HXn; have HY := HYn; have H4 := H4n; have H5 := H5n; have HB := HBn
   clear H6n H7n HXn HYn H4n H5n HBn
   have hm := HM.out
   have hm64 := HM64.out
   by_cases hbt : b.toNat ≤ t
   ·have HJ1 : Aside0 (∀ j, j < 64 → (if j = m then true else (decide (m + 1 ≤ j) && (a / b).getLsbD j)) = (decide (m ≤ j) && (a / b).getLsbD j)) := ⟨fun j hj => by
     have h1 := HBIT.out
     rw [if_pos hbt] at h1
     by_cases e : j = m
     ·subst e; rw [h1]; simp
     ·rw [if_neg e, show decide (m + 1 ≤ j) = decide (m ≤ j) from decide_eq_decide.mpr (by omega)]⟩
    have HJ2 : Aside0 (∀ j, j < 64 → (BitVec.ofNat 64 t + ~~~b + ofB true).getLsbD j = (BitVec.ofNat 64 (a.toNat / 2 ^ m % b.toNat)).getLsbD j) := ⟨fun j hj => by
     have h1 := HS1.out
     rw [if_pos hbt] at h1
     rw [sub_bv t b hbt, h1]⟩
    cases tp with
    | true =>
     clear hbt
     go_upto_region 10 with (fail)
     refine start_ (n := 5) (S := fun w' => Below ws.heap.size ws w') (ds := [4]) #[false, false, false, false, false] (by kernel_rfl) rfl rfl ((below_drew1 (Below.refl _ _))) (fun hHeld => ?_)
     refine with_tabW divide_calls.tab10 divide_calls.bits10 (fun HT_ HW_ => ?_)
     refine take_ (i := 0) (N := some 31) (v := .agg T) (a' := ?_) #[true, false, false, false, false] rfl rfl (take_ofW HT_.out HW_.out (by kernel_rfl)) (fun _ _ _ h => h) (Or.inl ⟨by rfl, ?_⟩) hHeld ?_ ?_
     ·intro w' s0
      exact ex_ld _ rfl rfl (H7.out.below s0) HT.out
     rotate_left
     ·simp only [Act.put, List.setIfInBounds_toArray, List.set_cons_zero, List.set_cons_succ, i64_w, i32_w]
      rfl
     refine take_ (i := 1) (N := some 32) (v := .agg B) (a' := ?_) #[true, true, false, false, false] rfl rfl (take_ofW HT_.out HW_.out (by kernel_rfl)) (fun _ _ _ h => h) (Or.inl ⟨by rfl, ?_⟩) hHeld ?_ ?_
     ·intro w' s0
      exact ex_ld _ rfl rfl (HY.out.below s0) HBb.out
     rotate_left
     ·simp only [Act.put, List.setIfInBounds_toArray, List.set_cons_zero, List.set_cons_succ, i64_w, i32_w]
      rfl
     refine one_ (i := 2) (N := some 33) #[true, true, true, false, false] rfl rfl (one_of HT_.out (by kernel_rfl)) (by decide) (fun K hK => ?_)
     refine goes_ Tryd.func30 (by kernel_rfl) rfl #[.agg B] (by rfl) rfl rfl (by simp only [List.map_toArray, List.map_cons, List.map_nil]; rfl) ?_
     refine (not_calls B _ _ HBb.out).mono ?_
     rintro e w902 ⟨D2, rfl, hD2, hb⟩
     refine ⟨_, rfl, ?_⟩
     have HD2 := Aside0.mk hD2
     clear hD2
     refine hK.out _ _ (below_step hHeld hb) (fun hHeld => ?_)
     clear hK K
     refine norm_ (a' := ?_) ?_ ?_
     rotate_left
     ·show Act.put _ (some 33) _ = _
      simp only [Act.put, List.setIfInBounds_toArray, List.set_cons_zero, List.set_cons_succ, i64_w, i32_w]
      rfl
     refine one_ (i := 3) (N := some 34) #[true, true, true, true, false] rfl rfl (one_of HT_.out (by kernel_rfl)) (by decide) (fun K hK => ?_)
     refine goes_ Tryd.func29 (by kernel_rfl) rfl #[.agg T, .agg D2, .bool true] (by rfl) rfl rfl (by simp only [List.map_toArray, List.map_cons, List.map_nil]; rfl) ?_
     refine (add_calls T D2 (BitVec.ofNat 64 t) (~~~b) true _ HT.out (HD2.out.congr (fun i hi => by simp [hi]))).mono ?_
     rintro e w903 ⟨D3, rfl, hD3, hb⟩
     refine ⟨_, rfl, ?_⟩
     have HD3 := Aside0.mk hD3
     clear hD3
     have H73 := Aside0.mk (H7.out.below (below_step hHeld hb))
     have HB73 := Aside0.mk (below_step hHeld hb)
     refine hK.out _ _ (below_step hHeld hb) (fun hHeld => ?_)
     clear hK K
     refine norm_ (a' := ?_) ?_ ?_
     rotate_left
     ·show Act.put _ (some 34) _ = _
      simp only [Act.put, List.setIfInBounds_toArray, List.set_cons_zero, List.set_cons_succ, i64_w, i32_w]
      rfl
     refine last_ (i := 4) (N := none) #[true, true, true, true, true] rfl rfl (one_of HT_.out (by kernel_rfl)) (by decide) (fun K hK => ?_)
     refine skip_ (by rfl) rfl (ex_st _ _ rfl rfl rfl H73.out HT.out HD3.out) ?_
     refine hK.out _ _ ?_
     clear hK K
     refine done_ (done_of HT_.out (by kernel_rfl)) ?_
     have HG := Aside0.mk (grownBy_setRow (w := w903) (g := q7) (D := D3))
     have H7n := Aside0.mk (H73.out.row D3)
     have H6n := Aside0.mk ((H6.out.below HB73.out).grown HG.out HN.out.2.2.2.2.2.2.2.2.1)
     have HXn := Aside0.mk ((HX.out.below HB73.out).grown HG.out HN.out.2.2.2.2.1)
     have HYn := Aside0.mk ((HY.out.below HB73.out).grown HG.out HN.out.2.2.2.2.2.1)
     have H4n := Aside0.mk ((H4.out.below HB73.out).grown HG.out HN.out.2.2.2.2.2.2.1)
     have H5n := Aside0.mk ((H5.out.below HB73.out).grown HG.out HN.out.2.2.2.2.2.2.2.1)
     have HBn := Aside0.mk ((below_step HB.out HB73.out).grown HG.out (below_step HB.out HB73.out).size (fun k e => by cases e; exact HG4.out.2.2.2))
     clear HG H73 hHeld HB73
     generalize w903.setRow q7 D3 = wn at H7n H6n HXn HYn H4n H5n HBn ⊢
     have hc6 := H6n.out.cell HQ.out hm
     have hf6 := H6n.out.frozen m
     obtain ⟨E, hE, hbE, hgE⟩ := set_bit H6n.out HQ.out hm true
     have HE := Aside0.mk hE; have HBE := Aside0.mk hbE; have HGD := Aside0.mk hgE
     clear hE hbE hgE
     go_wp2
     refine ⟨⟨m, E, D3, rfl, by omega, ⟨HE.out.congr HJ1.out⟩, ⟨HD3.out.congr HJ2.out⟩, HBE, ⟨H7n.out.grown HGD.out (Ne.symm HN.out.2.2.2.2.2.2.2.2.1)⟩, ⟨HXn.out.grown HGD.out HN.out.1⟩, ⟨HYn.out.grown HGD.out HN.out.2.1⟩, ⟨H4n.out.grown HGD.out HN.out.2.2.1⟩, ⟨H5n.out.grown HGD.out HN.out.2.2.2.1⟩, ⟨HBn.out.grown HGD.out HBn.out.size (fun k e => by cases e; exact HG4.out.2.2.1)⟩⟩, ?_⟩
     show ((m : Int) - 1 + 1).toNat < ((m : Int) + 1).toNat
     omega
    | false =>
     have e1 : decide ((BitVec.ofNat 64 t).toNat < b.toNat) = false := decide_eq_false (by
      have h1 := of_decide_eq_false HTP.out.symm
      rw [BitVec.toNat_ofNat]; omega)
     have HE1 := Aside0.mk e1
     clear e1 hbt
     go_wp2_with (first | (refine s_loadG (by rfl) _ rfl rfl H7.out HT.out ?_) | (refine s_loadG (by rfl) _ rfl rfl HY.out HBb.out ?_))
     refine (below_calls T B (BitVec.ofNat 64 t) b ws HT.out HBb.out).mono ?_
     rintro e w6 ⟨rfl, hB6⟩
     rw [HE1.out]
     have H6n := Aside0.mk (H6.out.below hB6); have H7n := Aside0.mk (H7.out.below hB6); have HXn := Aside0.mk (HX.out.below hB6); have HYn := Aside0.mk (HY.out.below hB6); have H4n := Aside0.mk (H4.out.below hB6); have H5n := Aside0.mk (H5.out.below hB6); have HBn := Aside0.mk (below_step HB.out hB6)
     clear hB6 H6 H7 HX HY H4 H5 HB
     have H6 := H6n; have H7 := H7n; have HX := HXn; have HY := HYn; have H4 := H4n; have H5 := H5n; have HB := HBn
     clear H6n H7n HXn HYn H4n H5n HBn
     obtain ⟨ws, hws⟩ : ∃ z, z = w6 := ⟨_, rfl⟩
     subst hws
     go_upto_region 10 with (fail)
     refine start_ (n := 5) (S := fun w' => Below ws.heap.size ws w') (ds := [4]) #[false, false, false, false, false] (by kernel_rfl) rfl rfl ((below_drew1 (Below.refl _ _))) (fun hHeld => ?_)
     refine with_tabW divide_calls.tab10 divide_calls.bits10 (fun HT_ HW_ => ?_)
     refine take_ (i := 0) (N := some 31) (v := .agg T) (a' := ?_) #[true, false, false, false, false] rfl rfl (take_ofW HT_.out HW_.out (by kernel_rfl)) (fun _ _ _ h => h) (Or.inl ⟨by rfl, ?_⟩) hHeld ?_ ?_
     ·intro w' s0
      exact ex_ld _ rfl rfl (H7.out.below s0) HT.out
     rotate_left
     ·simp only [Act.put, List.setIfInBounds_toArray, List.set_cons_zero, List.set_cons_succ, i64_w, i32_w]
      rfl
     refine take_ (i := 1) (N := some 32) (v := .agg B) (a' := ?_) #[true, true, false, false, false] rfl rfl (take_ofW HT_.out HW_.out (by kernel_rfl)) (fun _ _ _ h => h) (Or.inl ⟨by rfl, ?_⟩) hHeld ?_ ?_
     ·intro w' s0
      exact ex_ld _ rfl rfl (HY.out.below s0) HBb.out
     rotate_left
     ·simp only [Act.put, List.setIfInBounds_toArray, List.set_cons_zero, List.set_cons_succ, i64_w, i32_w]
      rfl
     refine one_ (i := 2) (N := some 33) #[true, true, true, false, false] rfl rfl (one_of HT_.out (by kernel_rfl)) (by decide) (fun K hK => ?_)
     refine goes_ Tryd.func30 (by kernel_rfl) rfl #[.agg B] (by rfl) rfl rfl (by simp only [List.map_toArray, List.map_cons, List.map_nil]; rfl) ?_
     refine (not_calls B _ _ HBb.out).mono ?_
     rintro e w902 ⟨D2, rfl, hD2, hb⟩
     refine ⟨_, rfl, ?_⟩
     have HD2 := Aside0.mk hD2
     clear hD2
     refine hK.out _ _ (below_step hHeld hb) (fun hHeld => ?_)
     clear hK K
     refine norm_ (a' := ?_) ?_ ?_
     rotate_left
     ·show Act.put _ (some 33) _ = _
      simp only [Act.put, List.setIfInBounds_toArray, List.set_cons_zero, List.set_cons_succ, i64_w, i32_w]
      rfl
     refine one_ (i := 3) (N := some 34) #[true, true, true, true, false] rfl rfl (one_of HT_.out (by kernel_rfl)) (by decide) (fun K hK => ?_)
     refine goes_ Tryd.func29 (by kernel_rfl) rfl #[.agg T, .agg D2, .bool true] (by rfl) rfl rfl (by simp only [List.map_toArray, List.map_cons, List.map_nil]; rfl) ?_
     refine (add_calls T D2 (BitVec.ofNat 64 t) (~~~b) true _ HT.out (HD2.out.congr (fun i hi => by simp [hi]))).mono ?_
     rintro e w903 ⟨D3, rfl, hD3, hb⟩
     refine ⟨_, rfl, ?_⟩
     have HD3 := Aside0.mk hD3
     clear hD3
     have H73 := Aside0.mk (H7.out.below (below_step hHeld hb))
     have HB73 := Aside0.mk (below_step hHeld hb)
     refine hK.out _ _ (below_step hHeld hb) (fun hHeld => ?_)
     clear hK K
     refine norm_ (a' := ?_) ?_ ?_
     rotate_left
     ·show Act.put _ (some 34) _ = _
      simp only [Act.put, List.setIfInBounds_toArray, List.set_cons_zero, List.set_cons_succ, i64_w, i32_w]
      rfl
     refine last_ (i := 4) (N := none) #[true, true, true, true, true] rfl rfl (one_of HT_.out (by kernel_rfl)) (by decide) (fun K hK => ?_)
     refine skip_ (by rfl) rfl (ex_st _ _ rfl rfl rfl H73.out HT.out HD3.out) ?_
     refine hK.out _ _ ?_
     clear hK K
     refine done_ (done_of HT_.out (by kernel_rfl)) ?_
     have HG := Aside0.mk (grownBy_setRow (w := w903) (g := q7) (D := D3))
     have H7n := Aside0.mk (H73.out.row D3)
     have H6n := Aside0.mk ((H6.out.below HB73.out).grown HG.out HN.out.2.2.2.2.2.2.2.2.1)
     have HXn := Aside0.mk ((HX.out.below HB73.out).grown HG.out HN.out.2.2.2.2.1)
     have HYn := Aside0.mk ((HY.out.below HB73.out).grown HG.out HN.out.2.2.2.2.2.1)
     have H4n := Aside0.mk ((H4.out.below HB73.out).grown HG.out HN.out.2.2.2.2.2.2.1)
     have H5n := Aside0.mk ((H5.out.below HB73.out).grown HG.out HN.out.2.2.2.2.2.2.2.1)
     have HBn := Aside0.mk ((below_step HB.out HB73.out).grown HG.out (below_step HB.out HB73.out).size (fun k e => by cases e; exact HG4.out.2.2.2))
     clear HG H73 hHeld HB73
     generalize w903.setRow q7 D3 = wn at H7n H6n HXn HYn H4n H5n HBn ⊢
     have hc6 := H6n.out.cell HQ.out hm
     have hf6 := H6n.out.frozen m
     obtain ⟨E, hE, hbE, hgE⟩ := set_bit H6n.out HQ.out hm true
     have HE := Aside0.mk hE; have HBE := Aside0.mk hbE; have HGD := Aside0.mk hgE
     clear hE hbE hgE
     go_wp2
     refine ⟨⟨m, E, D3, rfl, by omega, ⟨HE.out.congr HJ1.out⟩, ⟨HD3.out.congr HJ2.out⟩, HBE, ⟨H7n.out.grown HGD.out (Ne.symm HN.out.2.2.2.2.2.2.2.2.1)⟩, ⟨HXn.out.grown HGD.out HN.out.1⟩, ⟨HYn.out.grown HGD.out HN.out.2.1⟩, ⟨H4n.out.grown HGD.out HN.out.2.2.1⟩, ⟨H5n.out.grown HGD.out HN.out.2.2.2.1⟩, ⟨HBn.out.grown HGD.out HBn.out.size (fun k e => by cases e; exact HG4.out.2.2.1)⟩⟩, ?_⟩
     show ((m : Int) - 1 + 1).toNat < ((m : Int) + 1).toNat
     omega
   ·have HJ1 : Aside0 (∀ j, j < 64 → (decide (m + 1 ≤ j) && (a / b).getLsbD j) = (decide (m ≤ j) && (a / b).getLsbD j)) := ⟨fun j hj => by
     have h1 := HBIT.out
     rw [if_neg hbt] at h1
     by_cases e : j = m
     ·subst e; rw [h1]; simp
     ·rw [show decide (m + 1 ≤ j) = decide (m ≤ j) from decide_eq_decide.mpr (by omega)]⟩
    have HJ2 : Aside0 (∀ j, j < 64 → (BitVec.ofNat 64 t).getLsbD j = (BitVec.ofNat 64 (a.toNat / 2 ^ m % b.toNat)).getLsbD j) := ⟨fun j hj => by
     have h1 := HS1.out
     rw [if_neg hbt] at h1
     rw [h1]⟩
    have hbl := b.isLt
    have e0 : tp = false := by rw [HTP.out]; exact decide_eq_false (by omega)
    subst e0
    have e1 : decide ((BitVec.ofNat 64 t).toNat < b.toNat) = true := decide_eq_true (by rw [BitVec.toNat_ofNat]; omega)
    have HE1 := Aside0.mk e1
    clear e1 hbt hbl
    go_wp2_with (first | (refine s_loadG (by rfl) _ rfl rfl H7.out HT.out ?_) | (refine s_loadG (by rfl) _ rfl rfl HY.out HBb.out ?_))
    refine (below_calls T B (BitVec.ofNat 64 t) b ws HT.out HBb.out).mono ?_
    rintro e w6 ⟨rfl, hB6⟩
    rw [HE1.out]
    go_wp2
    refine ⟨⟨m, Q, T, rfl, by omega, ⟨HQ.out.congr HJ1.out⟩, ⟨HT.out.congr HJ2.out⟩, ⟨H6.out.below hB6⟩, ⟨H7.out.below hB6⟩, ⟨HX.out.below hB6⟩, ⟨HY.out.below hB6⟩, ⟨H4.out.below hB6⟩, ⟨H5.out.below hB6⟩, ⟨below_step HB.out hB6⟩⟩, ?_⟩
    show ((m : Int) - 1 + 1).toNat < ((m : Int) + 1).toNat
    omega
end Go.Proofs.YtcmppjonpmgncaaDoor.Q
