/- What the row of NumSigns rests on, part 0: contracts of the functions that it reaches, and the plain law. -/
import Derived.Test.YtcmppjonpmgncaaDoorProg
import Derived.Below
import Derived.Deep.Draws
import Derived.Deep.AppendLies
import Derived.Maps.AppendAt
import Derived.OwnWalk
import Derived.Laws.BytesArg
import Derived.Laws.MakeOwn
import Derived.Laws.OwnMore
import Derived.Deep.OwnRows
import Derived.Tactics
import Derived.Lib.ConvBytes
import Derived.Laws.Slices
import Derived.WalkKit
import Derived.KernelRfl
import Derived.RowKit3
import Derived.Deep.LoopGhost
import Derived.Deep.QuietTactic
import Derived.BigQuiet
import Derived.WideLaws
import Derived.Deep.DeepCutAuto
import Derived.Deep.CutBlock
import Derived.Deep.RegionHeld3
import Derived.Laws.Rows
import Derived.Lib.AppendStr
import Derived.ArgAppend
import Derived.Laws.IdiomCopy
import Derived.OrdersHeld
import Derived.Laws.BitsLemmas
import Derived.RowKit
import Derived.Test.YtcmppjonpmgncaaDoorWWords
import Derived.Test.YtcmppjonpmgncaaDoorWLast
import Derived.Test.YtcmppjonpmgncaaDoorWTab
import Derived.Test.YtcmppjonpmgncaaDoorWQPut
import Derived.Test.YtcmppjonpmgncaaDoorWApart
import Derived.Test.YtcmppjonpmgncaaDoorWArr
import Derived.Test.YtcmppjonpmgncaaDoorWZeros
import Derived.Test.YtcmppjonpmgncaaDoorWFoot
import Derived.Test.YtcmppjonpmgncaaDoorWKept
import Derived.Test.YtcmppjonpmgncaaDoorWShare
import Derived.Test.YtcmppjonpmgncaaDoorWN
import Derived.Test.YtcmppjonpmgncaaDoorWRepsOne
import Derived.Test.YtcmppjonpmgncaaDoorWInv
import Derived.Test.YtcmppjonpmgncaaDoorWNEv
import Derived.Test.YtcmppjonpmgncaaDoorWMore
import Derived.Shelf.LaysM
import Derived.Shelf.LaysC
import Derived.Shelf.Strconv.Itoa3
import Derived.Shelf.Strconv.ErrVarAll
import Derived.Shelf.Strings.SlTrimAscii
import Derived.Lib.AppendIntMem
import Derived.Deep.WholeRow
import Derived.Deep.Slices
import Derived.SizedLaws
import Derived.ProofKit
import Derived.OpenShut
import Derived.ShutString
import Derived.ChangeOld
import Derived.Test.YtcmppjonpmgncaaDoorCards
import Derived.Test.YtcmppjonpmgncaaDoorTie
import Derived.Stop.LaidErr
import Derived.Stop.Joined
import Derived.Lib.LaidTab
import Derived.LaidMore
import Derived.Lay
import Derived.SevenTiedAt
namespace Go.Proofs.YtcmppjonpmgncaaDoor.Q
open Go.RowKit Go.Proofs.YtcmppjonpmgncaaDoorW.PrintWords Go.Proofs.YtcmppjonpmgncaaDoorW.PrintLast Go.Proofs.YtcmppjonpmgncaaDoorW.PrintMore
attribute [local go_sem] max2_int min2_int max_two min_two max_three min_three max_four min_four   -- for this text's walks alone
set_option linter.unusedVariables false
set_option linter.unusedSimpArgs false



def errW : Option Int → Value
 | none => .nilIface
 | some c => .iface 74 (.int .i64 c)
theorem errW_none : errW none = .nilIface := rfl
theorem errW_some (c : Int) : errW (some c) = .iface 74 (.int .i64 c) := rfl

theorem info5 : (Tryd.prog.info? 5).map (fun i => (i.zero, i.size, i.bytes)) = some (some (.int .u8 0), 1, 1) := by kernel_rfl
theorem info9 : (Tryd.prog.info? 9).map (fun i => (i.zero, i.size, i.bytes)) = some (some (.string ⟨#[]⟩), 1, 16) := by kernel_rfl
-- the values' own types

end Go.Proofs.YtcmppjonpmgncaaDoor.Q

namespace Go.Proofs.YtcmppjonpmgncaaDoor.Q
open Go.RowKit Go.Proofs.YtcmppjonpmgncaaDoorW.PrintWords Go.Proofs.YtcmppjonpmgncaaDoorW.PrintLast Go.Proofs.YtcmppjonpmgncaaDoorW.PrintMore
attribute [local go_sem] max2_int min2_int max_two min_two max_three min_three max_four min_four   -- for this text's walks alone
set_option linter.unusedVariables false
set_option linter.unusedSimpArgs false

/-! ### num_signs: function 38 -/
def num_signs.f  : Option (List ByteArray) := some (([(⟨#[]⟩ : ByteArray), (⟨#[43]⟩ : ByteArray), (⟨#[45]⟩ : ByteArray), (⟨#[42]⟩ : ByteArray), (⟨#[47]⟩ : ByteArray), (⟨#[37]⟩ : ByteArray), (⟨#[38]⟩ : ByteArray), (⟨#[124]⟩ : ByteArray), (⟨#[94]⟩ : ByteArray), (⟨#[60, 60]⟩ : ByteArray), (⟨#[62, 62]⟩ : ByteArray), (⟨#[61, 61]⟩ : ByteArray), (⟨#[33, 61]⟩ : ByteArray), (⟨#[60]⟩ : ByteArray), (⟨#[60, 61]⟩ : ByteArray), (⟨#[62]⟩ : ByteArray), (⟨#[62, 61]⟩ : ByteArray), (⟨#[45]⟩ : ByteArray), (⟨#[33]⟩ : ByteArray)] : List ByteArray))
set_option maxHeartbeats 8000000 in
set_option maxRecDepth 100000 in
theorem num_signs.calls  (r : List ByteArray) (w : World) (h : num_signs.f  = some r) :
  Calls Tryd.prog 38 #[] w fun e w' => ∃ v0_ : Value, e = .returned (v0_) ∧ Kd.R Kd.string 9 w' w.heap.size (fun _ => True) v0_ r ∧ Below w.heap.size w w' := by
 have HB := Aside0.mk (Below.refl w.heap.size w)
 have H : (some (([(⟨#[]⟩ : ByteArray), (⟨#[43]⟩ : ByteArray), (⟨#[45]⟩ : ByteArray), (⟨#[42]⟩ : ByteArray), (⟨#[47]⟩ : ByteArray), (⟨#[37]⟩ : ByteArray), (⟨#[38]⟩ : ByteArray), (⟨#[124]⟩ : ByteArray), (⟨#[94]⟩ : ByteArray), (⟨#[60, 60]⟩ : ByteArray), (⟨#[62, 62]⟩ : ByteArray), (⟨#[61, 61]⟩ : ByteArray), (⟨#[33, 61]⟩ : ByteArray), (⟨#[60]⟩ : ByteArray), (⟨#[60, 61]⟩ : ByteArray), (⟨#[62]⟩ : ByteArray), (⟨#[62, 61]⟩ : ByteArray), (⟨#[45]⟩ : ByteArray), (⟨#[33]⟩ : ByteArray)] : List ByteArray))) = some r := h
 clear h
 obtain ⟨y111, hy111⟩ : ∃ y_ : List ByteArray, y_ = (([(⟨#[]⟩ : ByteArray), (⟨#[43]⟩ : ByteArray), (⟨#[45]⟩ : ByteArray), (⟨#[42]⟩ : ByteArray), (⟨#[47]⟩ : ByteArray), (⟨#[37]⟩ : ByteArray), (⟨#[38]⟩ : ByteArray), (⟨#[124]⟩ : ByteArray), (⟨#[94]⟩ : ByteArray), (⟨#[60, 60]⟩ : ByteArray), (⟨#[62, 62]⟩ : ByteArray), (⟨#[61, 61]⟩ : ByteArray), (⟨#[33, 61]⟩ : ByteArray), (⟨#[60]⟩ : ByteArray), (⟨#[60, 61]⟩ : ByteArray), (⟨#[62]⟩ : ByteArray), (⟨#[62, 61]⟩ : ByteArray), (⟨#[45]⟩ : ByteArray), (⟨#[33]⟩ : ByteArray)] : List ByteArray)) := ⟨_, rfl⟩
 replace H : (some y111) = some r := by first | (rw [hy111]; with_reducible exact H) | (have H2_ := (Option.bind_some _ _).symm.trans H; rw [hy111]; with_reducible exact H2_) | (have H2_ := (Option.bind_some _ _).symm.trans H; with_reducible exact H2_) | with_reducible exact H | (rw [hy111]; exact H) | exact H
 have Ny111 := Aside0.mk hy111
 clear hy111
 obtain rfl := Option.some.inj H
 go_enter Tryd.func38, Tryd.ntmps38
 go_wp2_with (first | ((with_reducible refine gate_dst (N := 1) rfl ?_); refine Kd.R_lit Kd.string _ 9 ?hg (N := 1) ?hd (xs := ([(⟨#[]⟩ : ByteArray), (⟨#[43]⟩ : ByteArray), (⟨#[45]⟩ : ByteArray), (⟨#[42]⟩ : ByteArray), (⟨#[47]⟩ : ByteArray), (⟨#[37]⟩ : ByteArray), (⟨#[38]⟩ : ByteArray), (⟨#[124]⟩ : ByteArray), (⟨#[94]⟩ : ByteArray), (⟨#[60, 60]⟩ : ByteArray), (⟨#[62, 62]⟩ : ByteArray), (⟨#[61, 61]⟩ : ByteArray), (⟨#[33, 61]⟩ : ByteArray), (⟨#[60]⟩ : ByteArray), (⟨#[60, 61]⟩ : ByteArray), (⟨#[62]⟩ : ByteArray), (⟨#[62, 61]⟩ : ByteArray), (⟨#[45]⟩ : ByteArray), (⟨#[33]⟩ : ByteArray)] : List ByteArray)) (inner := [.string (⟨#[]⟩ : ByteArray), .string (⟨#[43]⟩ : ByteArray), .string (⟨#[45]⟩ : ByteArray), .string (⟨#[42]⟩ : ByteArray), .string (⟨#[47]⟩ : ByteArray), .string (⟨#[37]⟩ : ByteArray), .string (⟨#[38]⟩ : ByteArray), .string (⟨#[124]⟩ : ByteArray), .string (⟨#[94]⟩ : ByteArray), .string (⟨#[60, 60]⟩ : ByteArray), .string (⟨#[62, 62]⟩ : ByteArray), .string (⟨#[61, 61]⟩ : ByteArray), .string (⟨#[33, 61]⟩ : ByteArray), .string (⟨#[60]⟩ : ByteArray), .string (⟨#[60, 61]⟩ : ByteArray), .string (⟨#[62]⟩ : ByteArray), .string (⟨#[62, 61]⟩ : ByteArray), .string (⟨#[45]⟩ : ByteArray), .string (⟨#[33]⟩ : ByteArray)]) (ok := fun _ => True) (okp := fun _ => True) ?hr ?hp (fun _ hk => hk) trivial (Below.refl _ _) (Nat.le_refl _) (by simp) ?_; (case hd => rfl); (case hg => rfl); (case hr => first | (go_simp; done) | (go_simp; rfl)); (case hp => exact (Reps.one (show Kd.M Kd.string _ _ _ (⟨#[]⟩ : ByteArray) [.string (⟨#[]⟩ : ByteArray)] from rfl) (Reps.one (show Kd.M Kd.string _ _ _ (⟨#[43]⟩ : ByteArray) [.string (⟨#[43]⟩ : ByteArray)] from rfl) (Reps.one (show Kd.M Kd.string _ _ _ (⟨#[45]⟩ : ByteArray) [.string (⟨#[45]⟩ : ByteArray)] from rfl) (Reps.one (show Kd.M Kd.string _ _ _ (⟨#[42]⟩ : ByteArray) [.string (⟨#[42]⟩ : ByteArray)] from rfl) (Reps.one (show Kd.M Kd.string _ _ _ (⟨#[47]⟩ : ByteArray) [.string (⟨#[47]⟩ : ByteArray)] from rfl) (Reps.one (show Kd.M Kd.string _ _ _ (⟨#[37]⟩ : ByteArray) [.string (⟨#[37]⟩ : ByteArray)] from rfl) (Reps.one (show Kd.M Kd.string _ _ _ (⟨#[38]⟩ : ByteArray) [.string (⟨#[38]⟩ : ByteArray)] from rfl) (Reps.one (show Kd.M Kd.string _ _ _ (⟨#[124]⟩ : ByteArray) [.string (⟨#[124]⟩ : ByteArray)] from rfl) (Reps.one (show Kd.M Kd.string _ _ _ (⟨#[94]⟩ : ByteArray) [.string (⟨#[94]⟩ : ByteArray)] from rfl) (Reps.one (show Kd.M Kd.string _ _ _ (⟨#[60, 60]⟩ : ByteArray) [.string (⟨#[60, 60]⟩ : ByteArray)] from rfl) (Reps.one (show Kd.M Kd.string _ _ _ (⟨#[62, 62]⟩ : ByteArray) [.string (⟨#[62, 62]⟩ : ByteArray)] from rfl) (Reps.one (show Kd.M Kd.string _ _ _ (⟨#[61, 61]⟩ : ByteArray) [.string (⟨#[61, 61]⟩ : ByteArray)] from rfl) (Reps.one (show Kd.M Kd.string _ _ _ (⟨#[33, 61]⟩ : ByteArray) [.string (⟨#[33, 61]⟩ : ByteArray)] from rfl) (Reps.one (show Kd.M Kd.string _ _ _ (⟨#[60]⟩ : ByteArray) [.string (⟨#[60]⟩ : ByteArray)] from rfl) (Reps.one (show Kd.M Kd.string _ _ _ (⟨#[60, 61]⟩ : ByteArray) [.string (⟨#[60, 61]⟩ : ByteArray)] from rfl) (Reps.one (show Kd.M Kd.string _ _ _ (⟨#[62]⟩ : ByteArray) [.string (⟨#[62]⟩ : ByteArray)] from rfl) (Reps.one (show Kd.M Kd.string _ _ _ (⟨#[62, 61]⟩ : ByteArray) [.string (⟨#[62, 61]⟩ : ByteArray)] from rfl) (Reps.one (show Kd.M Kd.string _ _ _ (⟨#[45]⟩ : ByteArray) [.string (⟨#[45]⟩ : ByteArray)] from rfl) (Reps.one (show Kd.M Kd.string _ _ _ (⟨#[33]⟩ : ByteArray) [.string (⟨#[33]⟩ : ByteArray)] from rfl) (Reps.none _ _))))))))))))))))))))); intro v112 w1 ho2 hb hg_ hnew_; clear hg_ hnew_; (first | rw [← Ny111.out] at ho2 | (simp only [Int.reduceToNat] at ho2; rw [← Ny111.out] at ho2)); have n0_ := Aside0.mk (Kd.R_lower ho2 (below_size (by repeat (first | (with_reducible first | exact HB.out | apply below_alloc | apply pw_below_drewN | apply below_drew1) | exact HB.out)))); have n1_ := Aside0.mk (below_step (by repeat (first | (with_reducible first | exact HB.out | apply below_alloc | apply pw_below_drewN | apply below_drew1) | exact HB.out)) hb); clear HB; have HO113 := n0_; have HB := n1_; clear n0_ n1_; clear hb ho2))
 go_ret
 exact ⟨_, by first | rfl | (simp [errW_none, errW_some] <;> rfl) | (simp [*, errW_none, errW_some] <;> rfl), by (with_reducible repeat (first | apply Kd.R_alloc | apply Kd.R_drewN | apply Kd.R_drew)); exact HO113.out, by repeat (first | (with_reducible first | exact HB.out | apply below_alloc | apply pw_below_drewN | apply below_drew1) | exact HB.out)⟩

end Go.Proofs.YtcmppjonpmgncaaDoor.Q

namespace Go.Proofs.YtcmppjonpmgncaaDoor.Q
open Go.RowKit Go.Proofs.YtcmppjonpmgncaaDoorW.PrintWords Go.Proofs.YtcmppjonpmgncaaDoorW.PrintLast Go.Proofs.YtcmppjonpmgncaaDoorW.PrintMore
attribute [local go_sem] max2_int min2_int max_two min_two max_three min_three max_four min_four   -- for this text's walks alone
set_option linter.unusedVariables false
set_option linter.unusedSimpArgs false

/-! ### slices_Index_string_string: function 39 -/
def slices_Index_string_string.l0 : Nat → List ByteArray → ByteArray → Int → Int → Option (Int)
 | 0, _, _, _, _ => none
 | k + 1, x0, x1, x7, x8 => if x8 < x7 then (if 0 ≤ x8 then (if x8 < (x0.length : Int) then (if x1.toList = (rdOf ByteArray.empty x0 x8).toList then (some x8) else (slices_Index_string_string.l0 k x0 x1 x7 (wrap64 (x8 + 1)))) else (none)) else (none)) else (some (-1))
def slices_Index_string_string.f (k : Nat) (l0 : List ByteArray) (a1 : ByteArray) : Option (Int) := slices_Index_string_string.l0 k l0 a1 (l0.length : Int) 0
theorem slices_Index_string_string.mono_l : ∀ k, (∀ y0 y1 y2 y3, LeO (slices_Index_string_string.l0 k y0 y1 y2 y3) (slices_Index_string_string.l0 (k + 1) y0 y1 y2 y3))
 | 0 => fun _ _ _ _ r h => by simp [slices_Index_string_string.l0] at h
 | k + 1 => by
  have ih0 := slices_Index_string_string.mono_l k
  ·intro y0 y1 y2 y3
   unfold slices_Index_string_string.l0
   repeat' first
   | (with_reducible exact ih0 _ _ _ _)
   | (with_reducible exact LeO.refl _)
   | (with_reducible exact LeO.none _)
   | (with_reducible refine LeO.ite ?_ ?_)
   | (with_reducible refine LeO.bind ?_ (fun _ => ?_))
   | exact ih0 _ _ _ _
   | exact LeO.none _
   | refine LeO.ite ?_ ?_
   | refine LeO.bind ?_ (fun _ => ?_)
theorem slices_Index_string_string.mono : ∀ a0 a1 k, LeO (slices_Index_string_string.f k a0 a1) (slices_Index_string_string.f (k + 1) a0 a1) := by
 intro a0 a1 k
 have ih0 := slices_Index_string_string.mono_l k
 unfold slices_Index_string_string.f
 repeat' first
   | (with_reducible exact ih0 _ _ _ _)
   | (with_reducible exact LeO.refl _)
   | (with_reducible exact LeO.none _)
   | (with_reducible refine LeO.ite ?_ ?_)
   | (with_reducible refine LeO.bind ?_ (fun _ => ?_))
   | exact ih0 _ _ _ _
   | exact LeO.none _
   | refine LeO.ite ?_ ?_
   | refine LeO.bind ?_ (fun _ => ?_)
set_option maxHeartbeats 8000000 in
set_option maxRecDepth 100000 in
theorem slices_Index_string_string.calls (k : Nat) (A0 : Option Addr) (c0 : Nat) (l0 : List ByteArray) (a1 : ByteArray) (r : Int) (w : World) (hr0 : Kd.C Kd.string w A0 l0.length l0) (hc0 : l0.length ≤ c0) (h : slices_Index_string_string.f k l0 a1 = some r) :
  Calls Tryd.prog 39 #[.slice A0 l0.length c0, .string a1] w fun e w' => e = .returned (.int .i64 r) ∧ Drawn0 w w' := by
 have HR0 := Aside0.mk hr0
 have HC0 := Aside0.mk hc0
 clear hr0 hc0
 have H : (slices_Index_string_string.l0 k l0 a1 (l0.length : Int) 0) = some r := h
 clear h
 have H' := Aside0.mk H
 clear H
 go_enter Tryd.func39, Tryd.ntmps39
 go_wp2
 go_loopg [8] k (fun kq v8 w' => ∃ (x8_1 : Int), v8 = .int .i64 x8_1 ∧ Aside0 (slices_Index_string_string.l0 kq l0 a1 (l0.length : Int) x8_1 = some r) ∧ Aside0 (kq ≤ k) ∧ Drawn0 w w')
 case atStart => exact ⟨(0), (by first | rfl | (simp; done) | (simp [*]; done)), H', ⟨Nat.le_refl _⟩, by repeat (first | exact Drawn0.refl _ | apply Drawn0.step)⟩
 case round =>
  clear H'
  try clear p2
  obtain ⟨x8_1, rfl, HA, HK1, ⟨m1, rfl⟩⟩ := hrel
  cases gk with
  | zero => exact absurd HA.out (by simp [slices_Index_string_string.l0])
  | succ k1 =>
   have H := HA.out
   clear HA
   simp only [slices_Index_string_string.l0] at H
   by_cases c3 : x8_1 < (l0.length : Int)
   ·rw [if_pos c3] at H
    have c3b0 : decide (x8_1 < (l0.length : Int)) = true := decide_eq_true c3
    clear c3
    by_cases c4 : 0 ≤ x8_1
    ·rw [if_pos c4] at H
     have c4b0 : decide (0 ≤ x8_1) = true := decide_eq_true c4
     clear c4
     by_cases c5 : x8_1 < (l0.length : Int)
     ·rw [if_pos c5] at H
      have c5b0 : decide (x8_1 < (l0.length : Int)) = true := decide_eq_true c5
      clear c5
      by_cases c6 : a1.toList = (rdOf ByteArray.empty l0 x8_1).toList
      ·rw [if_pos c6] at H
       have c6b0 : (a1.toList == (rdOf ByteArray.empty l0 x8_1).toList) = true := beq_iff_eq.mpr c6
       have c6b1 : (a1.toList != (rdOf ByteArray.empty l0 x8_1).toList) = false := bne_eq_false_iff_eq.mpr c6
       clear c6
       obtain rfl := Option.some.inj H
       have p114 : 0 ≤ (x8_1 : Int) := of_decide_eq_true (by first | (with_reducible assumption) | assumption)
       have q114 : x8_1 < (l0.length : Int) := of_decide_eq_true (by first | (with_reducible assumption) | assumption)
       obtain ⟨ad114, e114, hx114_0⟩ := Kd.at_string HR0.out x8_1 p114 q114
       cases e114
       replace p114 := eq_true p114
       replace q114 := eq_true q114
       go_wp2
       go_ret
       exact ⟨by first | rfl | (simp; done) | (simp [*]; done), by repeat (first | exact Drawn0.refl _ | apply Drawn0.step)⟩
      ·rw [if_neg c6] at H
       have c6b0 : (a1.toList == (rdOf ByteArray.empty l0 x8_1).toList) = false := beq_eq_false_iff_ne.mpr c6
       have c6b1 : (a1.toList != (rdOf ByteArray.empty l0 x8_1).toList) = true := bne_iff_ne.mpr c6
       have H' := Aside0.mk H
       clear H
       have p114 : 0 ≤ (x8_1 : Int) := of_decide_eq_true (by first | (with_reducible assumption) | assumption)
       have q114 : x8_1 < (l0.length : Int) := of_decide_eq_true (by first | (with_reducible assumption) | assumption)
       obtain ⟨ad114, e114, hx114_0⟩ := Kd.at_string HR0.out x8_1 p114 q114
       cases e114
       replace p114 := eq_true p114
       replace q114 := eq_true q114
       go_wp2
       go_roundg k1
       case measure => have := HK1.out; omega
       case rel => exact ⟨(wrap64 (x8_1 + 1)), (by first | rfl | (simp; done) | (simp [*]; done)), H', ⟨by have := HK1.out; omega⟩, by repeat (first | exact Drawn0.refl _ | apply Drawn0.step)⟩
     ·rw [if_neg c5] at H
      exact absurd H (by simp)
    ·rw [if_neg c4] at H
     exact absurd H (by simp)
   ·rw [if_neg c3] at H
    have c3b0 : decide (x8_1 < (l0.length : Int)) = false := decide_eq_false c3
    clear c3
    obtain rfl := Option.some.inj H
    go_wp2
    go_ret
    exact ⟨by first | rfl | (simp; done) | (simp [*]; done), by repeat (first | exact Drawn0.refl _ | apply Drawn0.step)⟩

end Go.Proofs.YtcmppjonpmgncaaDoor.Q

namespace Go.Proofs.YtcmppjonpmgncaaDoor.Q
open Go.RowKit Go.Proofs.YtcmppjonpmgncaaDoorW.PrintWords Go.Proofs.YtcmppjonpmgncaaDoorW.PrintLast Go.Proofs.YtcmppjonpmgncaaDoorW.PrintMore
attribute [local go_sem] max2_int min2_int max_two min_two max_three min_three max_four min_four   -- for this text's walks alone
set_option linter.unusedVariables false
set_option linter.unusedSimpArgs false

/-! ### num_Signed: function 16 -/
def num_Signed.j0 : Nat → ByteArray → Int → List ByteArray → Bool → Option (Int × Bool)
 | 0, _, _, _, _ => none
 | k + 1, x0, x1, x6, x10 => if x10 = true then (some (0, false)) else (if x1 = 2 then (if 17 ≤ (x6.length : Int) then ((slices_Index_string_string.f k (x6.take 17) x0).bind fun t122 => (some (mx t122 0, decide (t122 > 0)))) else (none)) else (if 17 ≤ (x6.length : Int) then ((slices_Index_string_string.f k (x6.drop 17) x0).bind fun t127 => (if t127 < 0 then (some (0, false)) else (some (wrap64 (t127 + 17), true)))) else (none)))
def num_Signed.f (k : Nat) (a0 : ByteArray) (a1 : Int) : Option (Int × Bool) := (num_signs.f).bind fun t115 => (if a0.toList = ([] : List UInt8) then (num_Signed.j0 k a0 a1 t115 true) else (if a1 < 1 then (num_Signed.j0 k a0 a1 t115 true) else (num_Signed.j0 k a0 a1 t115 (decide (a1 > 2)))))
theorem num_Signed.mono_l : ∀ k, (∀ y0 y1 y2 y3, LeO (num_Signed.j0 k y0 y1 y2 y3) (num_Signed.j0 (k + 1) y0 y1 y2 y3))
 | 0 => fun _ _ _ _ r h => by simp [num_Signed.j0] at h
 | k + 1 => by
  have ih0 := num_Signed.mono_l k
  ·intro y0 y1 y2 y3
   unfold num_Signed.j0
   repeat' first
   | (with_reducible exact ih0 _ _ _ _)
   | (with_reducible exact slices_Index_string_string.mono _ _ _)
   | (with_reducible exact LeO.refl _)
   | (with_reducible exact LeO.none _)
   | (with_reducible refine LeO.ite ?_ ?_)
   | (with_reducible refine LeO.bind ?_ (fun _ => ?_))
   | exact ih0 _ _ _ _
   | exact slices_Index_string_string.mono _ _ _
   | exact LeO.none _
   | refine LeO.ite ?_ ?_
   | refine LeO.bind ?_ (fun _ => ?_)
theorem num_Signed.mono : ∀ a0 a1 k, LeO (num_Signed.f k a0 a1) (num_Signed.f (k + 1) a0 a1) := by
 intro a0 a1 k
 have ih0 := num_Signed.mono_l k
 unfold num_Signed.f
 repeat' first
   | (with_reducible exact ih0 _ _ _ _)
   | (with_reducible exact slices_Index_string_string.mono _ _ _)
   | (with_reducible exact LeO.refl _)
   | (with_reducible exact LeO.none _)
   | (with_reducible refine LeO.ite ?_ ?_)
   | (with_reducible refine LeO.bind ?_ (fun _ => ?_))
   | exact ih0 _ _ _ _
   | exact slices_Index_string_string.mono _ _ _
   | exact LeO.none _
   | refine LeO.ite ?_ ?_
   | refine LeO.bind ?_ (fun _ => ?_)
set_option maxHeartbeats 8000000 in
set_option maxRecDepth 100000 in
theorem num_Signed.calls (k : Nat) (a0 : ByteArray) (a1 : Int) (r1 : Int) (r2 : Bool) (w : World) (h : num_Signed.f k a0 a1 = some (r1, r2)) :
  Calls Tryd.prog 16 #[.string a0, .int .i64 a1] w fun e w' => e = .returned (.tuple #[.int .i64 r1, .bool r2]) ∧ Below w.heap.size w w' := by
 have HB := Aside0.mk (Below.refl w.heap.size w)
 have H : ((num_signs.f).bind fun t115 => (if a0.toList = ([] : List UInt8) then (num_Signed.j0 k a0 a1 t115 true) else (if a1 < 1 then (num_Signed.j0 k a0 a1 t115 true) else (num_Signed.j0 k a0 a1 t115 (decide (a1 > 2)))))) = some (r1, r2) := h
 clear h
 replace H := Option.bind_eq_some_iff.mp H
 obtain ⟨t115, A30, H⟩ := H
 replace H : (if a0.toList = ([] : List UInt8) then (num_Signed.j0 k a0 a1 t115 true) else (if a1 < 1 then (num_Signed.j0 k a0 a1 t115 true) else (num_Signed.j0 k a0 a1 t115 (decide (a1 > 2))))) = some (r1, r2) := H
 have A3 := Aside0.mk A30
 clear A30
 have HC4 := Aside0.mk H
 clear H
 go_enter Tryd.func16, Tryd.ntmps16
 go_upto_region 2 with (first | ((with_reducible refine gate_callee (f := 38) rfl ?_); refine goesL_ (some 9) rfl rfl Tryd.func38 (by kernel_rfl) rfl #[] rfl (by (try simp only [List.map_toArray, List.map_cons, List.map_nil]); first | done | rfl | (simp only [List.length_drop, List.length_take]; rfl)) ?_; (with_reducible refine (num_signs.calls  t115 _ A3.out).mono ?_); rintro e w5 ⟨v116, rfl, ho0, hb⟩; refine ⟨_, rfl, ?_⟩; have n0_ := Aside0.mk (Kd.R_lower ho0 (below_size (by repeat (first | (with_reducible first | exact HB.out | apply below_alloc | apply pw_below_drewN | apply below_drew1) | exact HB.out)))); have n1_ := Aside0.mk (below_step (by repeat (first | (with_reducible first | exact HB.out | apply below_alloc | apply pw_below_drewN | apply below_drew1) | exact HB.out)) hb); clear HB; have HO117 := n0_; have HB := n1_; clear n0_ n1_; (try clear hb); (try clear hb2); (try clear hk); (try clear hi); (try clear ho0)))
 (try simp only [Act.put, List.setIfInBounds_toArray, List.set_cons_zero, List.set_cons_succ])
 go_cut [10] (fun v10 wc => ∃ (kq : Nat) (x10_3 : Bool), v10 = .bool x10_3 ∧ Aside0 (num_Signed.j0 kq a0 a1 t115 x10_3 = some (r1, r2)) ∧ Aside0 (kq ≤ k) ∧ Aside0 (Kd.R Kd.string 9 wc w.heap.size (fun _ => True) v116 t115) ∧ Aside0 (Below w.heap.size w wc))
 case first =>
  have H := HC4.out
  clear HC4
  by_cases c6 : a0.toList = ([] : List UInt8)
  ·rw [if_pos c6] at H
   have c6b0 : (a0.toList == ([] : List UInt8)) = true := beq_iff_eq.mpr c6
   have c6b1 : (a0.toList != ([] : List UInt8)) = false := bne_eq_false_iff_eq.mpr c6
   clear c6
   (first | rw [c6b0] | (simp only [i64_w, i32_w]; rw [c6b0]) | skip)
   have H' := Aside0.mk H
   clear H
   go_wp2
   go_meet
   case rel => exact ⟨_, (true), (by first | rfl | (simp; done) | (simp [*]; done)), H', ⟨by first | omega | exact Nat.le_refl _⟩, ⟨by (with_reducible repeat (first | apply Kd.R_alloc | apply Kd.R_drewN | apply Kd.R_drew)); exact HO117.out⟩, ⟨by repeat (first | (with_reducible first | exact HB.out | apply below_alloc | apply pw_below_drewN | apply below_drew1) | exact HB.out)⟩⟩
  ·rw [if_neg c6] at H
   have c6b0 : (a0.toList == ([] : List UInt8)) = false := beq_eq_false_iff_ne.mpr c6
   have c6b1 : (a0.toList != ([] : List UInt8)) = true := bne_iff_ne.mpr c6
   (first | rw [c6b0] | (simp only [i64_w, i32_w]; rw [c6b0]) | skip)
   by_cases c7 : a1 < 1
   ·rw [if_pos c7] at H
    have c7b0 : decide (a1 < 1) = true := decide_eq_true c7
    clear c7
    have H' := Aside0.mk H
    clear H
    go_wp2
    go_meet
    case rel => exact ⟨_, (true), (by first | rfl | (simp; done) | (simp [*]; done)), H', ⟨by first | omega | exact Nat.le_refl _⟩, ⟨by (with_reducible repeat (first | apply Kd.R_alloc | apply Kd.R_drewN | apply Kd.R_drew)); exact HO117.out⟩, ⟨by repeat (first | (with_reducible first | exact HB.out | apply below_alloc | apply pw_below_drewN | apply below_drew1) | exact HB.out)⟩⟩
   ·rw [if_neg c7] at H
    have c7b0 : decide (a1 < 1) = false := decide_eq_false c7
    clear c7
    have H' := Aside0.mk H
    clear H
    go_wp2
    go_meet
    case rel => exact ⟨_, (decide (a1 > 2)), (by first | rfl | (simp; done) | (simp [*]; done)), H', ⟨by first | omega | exact Nat.le_refl _⟩, ⟨by (with_reducible repeat (first | apply Kd.R_alloc | apply Kd.R_drewN | apply Kd.R_drew)); exact HO117.out⟩, ⟨by repeat (first | (with_reducible first | exact HB.out | apply below_alloc | apply pw_below_drewN | apply below_drew1) | exact HB.out)⟩⟩
 case rest =>
  clear HC4
  try clear c1
  try clear p2
  try clear c3
  try clear c6
  try clear c6b0
  try clear c6b1
  try clear c7
  try clear c7b0
  obtain ⟨kq, x10_3, rfl, HA, HJ3, HO_6, HB⟩ := hcut
  cases kq with
  | zero => exact absurd HA.out (by simp [num_Signed.j0])
  | succ kj3 =>
   have H := HA.out
   clear HA
   simp only [num_Signed.j0] at H
   by_cases c8 : x10_3 = true
   ·subst c8
    have H1 : (some (0, false)) = some (r1, r2) := by rw [if_pos rfl] at H; exact H
    clear H
    have H := H1
    clear H1
    simp only [Option.some.injEq, Prod.mk.injEq] at H
    obtain ⟨rfl, rfl⟩ := H
    go_wp2
    go_ret2
    exact ⟨by first | rfl | (simp [errW_none, errW_some] <;> rfl) | (simp [*, errW_none, errW_some] <;> rfl), by repeat (first | (with_reducible first | exact HB.out | apply below_alloc | apply pw_below_drewN | apply below_drew1) | exact HB.out)⟩
   ·replace c8 := Bool.eq_false_iff.mpr c8
    subst c8
    have H1 : (if a1 = 2 then (if 17 ≤ (t115.length : Int) then ((slices_Index_string_string.f kj3 (t115.take 17) a0).bind fun t122 => (some (mx t122 0, decide (t122 > 0)))) else (none)) else (if 17 ≤ (t115.length : Int) then ((slices_Index_string_string.f kj3 (t115.drop 17) a0).bind fun t127 => (if t127 < 0 then (some (0, false)) else (some (wrap64 (t127 + 17), true)))) else (none))) = some (r1, r2) := by rw [if_neg (show ¬ (false = true) by decide)] at H; exact H
    clear H
    have H := H1
    clear H1
    by_cases c9 : a1 = 2
    ·rw [if_pos c9] at H
     have c9b0 : (a1 == 2) = true := beq_iff_eq.mpr c9
     have c9b1 : (a1 != 2) = false := bne_eq_false_iff_eq.mpr c9
     clear c9
     by_cases c10 : 17 ≤ (t115.length : Int)
     ·rw [if_pos c10] at H
      have c10b0 := eq_true c10
      have c10b1 : decide (17 ≤ (t115.length : Int)) = true := decide_eq_true c10
      clear c10
      obtain ⟨y118, hy118⟩ : ∃ y_ : List ByteArray, y_ = (t115.take 17) := ⟨_, rfl⟩
      replace H : ((slices_Index_string_string.f kj3 y118 a0).bind fun t122 => (some (mx t122 0, decide (t122 > 0)))) = some (r1, r2) := by first | (rw [hy118]; with_reducible exact H) | (have H2_ := (Option.bind_some _ _).symm.trans H; rw [hy118]; with_reducible exact H2_) | (have H2_ := (Option.bind_some _ _).symm.trans H; with_reducible exact H2_) | with_reducible exact H | (rw [hy118]; exact H) | exact H
      have Ny118 := Aside0.mk hy118
      clear hy118
      replace H := Option.bind_eq_some_iff.mp H
      obtain ⟨t122, A110, H⟩ := H
      replace H : (some (mx t122 0, decide (t122 > 0))) = some (r1, r2) := H
      have A11 := Aside0.mk A110
      clear A110
      obtain ⟨ji12, hji12⟩ : ∃ j_ : Int, (mx t122 0) = j_ := ⟨_, rfl⟩
      replace H : (some (ji12, decide (t122 > 0))) = some (r1, r2) := by first | (rw [hji12] at H; exact H) | (simp only [hji12] at H ⊢; exact H)
      (try rw [hji12] at A11)
      (try (have hji12l : 0 ≤ ji12 := by (rw [← hji12]; unfold mx; (repeat' split) <;> omega)))
      (try (have hji12m : 0 ≤ ji12 := by omega))
      have hji12_ : (if t122 < 0 then 0 else t122) = ji12 := hji12
      simp only [Option.some.injEq, Prod.mk.injEq] at H
      obtain ⟨rfl, rfl⟩ := H
      obtain ⟨Ao14, co14, eo14⟩ := Kd.R_slice HO_6.out
      subst eo14
      have q13 : (17 : Int) ≤ ((t115.length : Int) : Int) := of_decide_eq_true (by first | (with_reducible assumption) | assumption)
      obtain ⟨i013, hi013, _, hsz13, _⟩ := info_parts info9
      have hroom13 : t115.length ≤ co14 := (Kd.R_reads' HO_6.out).2.1
      have hC13 : Kd.C Kd.string _ Ao14 t115.length t115 := (Kd.R_reads' HO_6.out).2.2
      have hcut13 := cut_to (P := Tryd.prog) 53 9 .i64 Tryd.underlying53 hi013 Ao14 t115.length co14 17 (by omega) q13 hroom13
      have hr13 := Kd.C_take (m := 17) hC13 (by omega)
      have hy13 : y118.length = (17 : Int).toNat := (by rw [Ny118.out, List.length_take]; omega)
      rw [← Ny118.out] at hr13
      rw [← hy13] at hcut13
      have HR121 := Aside0.mk hr13
      have HC121 := Aside0.mk (show y118.length ≤ co14 from by omega)
      clear hr13 hC13 hroom13 hi013 hsz13
      have KY13 := Aside0.mk hy13
      clear hy13
      have KL13 := Aside0.mk (show 17 ≤ t115.length from by omega)
      replace q13 := eq_true q13
      go_wp2_with (first | ((with_reducible refine gate_callee (f := 39) rfl ?_); refine goesL_ (some 27) rfl rfl Tryd.func39 (by kernel_rfl) rfl #[.slice Ao14 y118.length co14, .string a0] rfl (by (try simp only [List.map_toArray, List.map_cons, List.map_nil]); first | done | rfl | (simp only [List.length_drop, List.length_take]; rfl)) ?_; (with_reducible refine (slices_Index_string_string.calls kj3 _ _ y118 a0 t122 _ ?side1 ?side2 A11.out).mono ?_); (case side1 => repeat (first | exact (by repeat (first | (with_reducible exact HR121.out) | (with_reducible refine Kd.C_alloc ?_ _) | (with_reducible refine Kd.C_drewN ?_ _) | (with_reducible refine Kd.C_drew ?_) | exact HR121.out)) | (with_reducible refine Kd.C_alloc ?_ _) | (with_reducible refine Kd.C_drewN ?_ _) | (with_reducible refine Kd.C_drew ?_))); (case side2 => exact HC121.out); rintro e w' ⟨rfl, ⟨nd, rfl⟩⟩; refine ⟨_, rfl, ?_⟩))
      go_ret2
      exact ⟨by first | rfl | (simp [errW_none, errW_some] <;> rfl) | (simp only [← hji12]; first | rfl | (simp [errW_none, errW_some] <;> rfl)) | (simp [*, errW_none, errW_some] <;> rfl), by repeat (first | (with_reducible first | exact HB.out | apply below_alloc | apply pw_below_drewN | apply below_drew1) | exact HB.out)⟩
     ·rw [if_neg c10] at H
      exact absurd H (by simp)
    ·rw [if_neg c9] at H
     have c9b0 : (a1 == 2) = false := beq_eq_false_iff_ne.mpr c9
     have c9b1 : (a1 != 2) = true := bne_iff_ne.mpr c9
     by_cases c15 : 17 ≤ (t115.length : Int)
     ·rw [if_pos c15] at H
      have c15b0 := eq_true c15
      have c15b1 : decide (17 ≤ (t115.length : Int)) = true := decide_eq_true c15
      clear c15
      obtain ⟨y123, hy123⟩ : ∃ y_ : List ByteArray, y_ = (t115.drop 17) := ⟨_, rfl⟩
      replace H : ((slices_Index_string_string.f kj3 y123 a0).bind fun t127 => (if t127 < 0 then (some (0, false)) else (some (wrap64 (t127 + 17), true)))) = some (r1, r2) := by first | (rw [hy123]; with_reducible exact H) | (have H2_ := (Option.bind_some _ _).symm.trans H; rw [hy123]; with_reducible exact H2_) | (have H2_ := (Option.bind_some _ _).symm.trans H; with_reducible exact H2_) | with_reducible exact H | (rw [hy123]; exact H) | exact H
      have Ny123 := Aside0.mk hy123
      clear hy123
      replace H := Option.bind_eq_some_iff.mp H
      obtain ⟨t127, A160, H⟩ := H
      replace H : (if t127 < 0 then (some (0, false)) else (some (wrap64 (t127 + 17), true))) = some (r1, r2) := H
      have A16 := Aside0.mk A160
      clear A160
      by_cases c17 : t127 < 0
      ·rw [if_pos c17] at H
       have c17b0 : decide (t127 < 0) = true := decide_eq_true c17
       clear c17
       simp only [Option.some.injEq, Prod.mk.injEq] at H
       obtain ⟨rfl, rfl⟩ := H
       obtain ⟨Ao19, co19, eo19⟩ := Kd.R_slice HO_6.out
       subst eo19
       have q18 : (17 : Int) ≤ ((t115.length : Int) : Int) := of_decide_eq_true (by first | (with_reducible assumption) | assumption)
       obtain ⟨i018, hi018, _, hsz18, _⟩ := info_parts info9
       have hroom18 : t115.length ≤ co19 := (Kd.R_reads' HO_6.out).2.1
       have hC18 : Kd.C Kd.string _ Ao19 t115.length t115 := (Kd.R_reads' HO_6.out).2.2
       have hcut18 := cut_from (P := Tryd.prog) 53 9 .i64 Tryd.underlying53 hi018 1 hsz18 Ao19 t115.length co19 17 (by omega) q18
       have hr18 := Kd.C_drop (m := (17 : Int).toNat) (c := co19) hC18 (by omega) hroom18
       obtain ⟨A18, hA18⟩ : ∃ A1, A1 = (if co19 = (17 : Int).toNat then Ao19 else (Ao19 : Option Addr).map (·.add ((17 : Int).toNat * 1))) := ⟨_, rfl⟩
       obtain ⟨c18, hc18⟩ : ∃ c1, c1 = co19 - (17 : Int).toNat := ⟨_, rfl⟩
       have hy18 : y123.length = t115.length - (17 : Int).toNat := (by rw [Ny123.out, List.length_drop] <;> omega)
       rw [show (t115).drop (17 : Int).toNat = y123 from Ny123.out.symm] at hr18
       replace hr18 : Kd.C Kd.string _ A18 y123.length y123 := (by rw [hA18]; exact hr18)
       rw [← hy18, ← hA18, ← hc18] at hcut18
       have HR126 := Aside0.mk hr18
       have HC126 := Aside0.mk (show y123.length ≤ c18 from by rw [hy18, hc18]; exact Nat.sub_le_sub_right hroom18 _)
       clear hr18 hC18 hroom18 hi018 hsz18 hc18
       have KY18 := Aside0.mk hy18
       have KA18 := Aside0.mk hA18
       clear hy18 hA18
       have KL18 := Aside0.mk (show 17 ≤ t115.length from by omega)
       replace q18 := eq_true q18
       go_wp2_with (first | ((with_reducible refine gate_callee (f := 39) rfl ?_); refine goesL_ (some 35) rfl rfl Tryd.func39 (by kernel_rfl) rfl #[.slice A18 y123.length c18, .string a0] rfl (by (try simp only [List.map_toArray, List.map_cons, List.map_nil]); first | done | rfl | (simp only [List.length_drop, List.length_take]; rfl)) ?_; (with_reducible refine (slices_Index_string_string.calls kj3 _ _ y123 a0 t127 _ ?side1 ?side2 A16.out).mono ?_); (case side1 => repeat (first | exact (by repeat (first | (with_reducible exact HR126.out) | (with_reducible refine Kd.C_alloc ?_ _) | (with_reducible refine Kd.C_drewN ?_ _) | (with_reducible refine Kd.C_drew ?_) | exact HR126.out)) | (with_reducible refine Kd.C_alloc ?_ _) | (with_reducible refine Kd.C_drewN ?_ _) | (with_reducible refine Kd.C_drew ?_))); (case side2 => exact HC126.out); rintro e w' ⟨rfl, ⟨nd, rfl⟩⟩; refine ⟨_, rfl, ?_⟩))
       go_ret2
       exact ⟨by first | rfl | (simp [errW_none, errW_some] <;> rfl) | (simp [*, errW_none, errW_some] <;> rfl), by repeat (first | (with_reducible first | exact HB.out | apply below_alloc | apply pw_below_drewN | apply below_drew1) | exact HB.out)⟩
      ·rw [if_neg c17] at H
       have c17b0 : decide (t127 < 0) = false := decide_eq_false c17
       clear c17
       simp only [Option.some.injEq, Prod.mk.injEq] at H
       obtain ⟨rfl, rfl⟩ := H
       obtain ⟨Ao21, co21, eo21⟩ := Kd.R_slice HO_6.out
       subst eo21
       have q20 : (17 : Int) ≤ ((t115.length : Int) : Int) := of_decide_eq_true (by first | (with_reducible assumption) | assumption)
       obtain ⟨i020, hi020, _, hsz20, _⟩ := info_parts info9
       have hroom20 : t115.length ≤ co21 := (Kd.R_reads' HO_6.out).2.1
       have hC20 : Kd.C Kd.string _ Ao21 t115.length t115 := (Kd.R_reads' HO_6.out).2.2
       have hcut20 := cut_from (P := Tryd.prog) 53 9 .i64 Tryd.underlying53 hi020 1 hsz20 Ao21 t115.length co21 17 (by omega) q20
       have hr20 := Kd.C_drop (m := (17 : Int).toNat) (c := co21) hC20 (by omega) hroom20
       obtain ⟨A20, hA20⟩ : ∃ A1, A1 = (if co21 = (17 : Int).toNat then Ao21 else (Ao21 : Option Addr).map (·.add ((17 : Int).toNat * 1))) := ⟨_, rfl⟩
       obtain ⟨c20, hc20⟩ : ∃ c1, c1 = co21 - (17 : Int).toNat := ⟨_, rfl⟩
       have hy20 : y123.length = t115.length - (17 : Int).toNat := (by rw [Ny123.out, List.length_drop] <;> omega)
       rw [show (t115).drop (17 : Int).toNat = y123 from Ny123.out.symm] at hr20
       replace hr20 : Kd.C Kd.string _ A20 y123.length y123 := (by rw [hA20]; exact hr20)
       rw [← hy20, ← hA20, ← hc20] at hcut20
       have HR126 := Aside0.mk hr20
       have HC126 := Aside0.mk (show y123.length ≤ c20 from by rw [hy20, hc20]; exact Nat.sub_le_sub_right hroom20 _)
       clear hr20 hC20 hroom20 hi020 hsz20 hc20
       have KY20 := Aside0.mk hy20
       have KA20 := Aside0.mk hA20
       clear hy20 hA20
       have KL20 := Aside0.mk (show 17 ≤ t115.length from by omega)
       replace q20 := eq_true q20
       go_wp2_with (first | ((with_reducible refine gate_callee (f := 39) rfl ?_); refine goesL_ (some 35) rfl rfl Tryd.func39 (by kernel_rfl) rfl #[.slice A20 y123.length c20, .string a0] rfl (by (try simp only [List.map_toArray, List.map_cons, List.map_nil]); first | done | rfl | (simp only [List.length_drop, List.length_take]; rfl)) ?_; (with_reducible refine (slices_Index_string_string.calls kj3 _ _ y123 a0 t127 _ ?side1 ?side2 A16.out).mono ?_); (case side1 => repeat (first | exact (by repeat (first | (with_reducible exact HR126.out) | (with_reducible refine Kd.C_alloc ?_ _) | (with_reducible refine Kd.C_drewN ?_ _) | (with_reducible refine Kd.C_drew ?_) | exact HR126.out)) | (with_reducible refine Kd.C_alloc ?_ _) | (with_reducible refine Kd.C_drewN ?_ _) | (with_reducible refine Kd.C_drew ?_))); (case side2 => exact HC126.out); rintro e w' ⟨rfl, ⟨nd, rfl⟩⟩; refine ⟨_, rfl, ?_⟩))
       go_ret2
       exact ⟨by first | rfl | (simp [errW_none, errW_some] <;> rfl) | (simp [*, errW_none, errW_some] <;> rfl), by repeat (first | (with_reducible first | exact HB.out | apply below_alloc | apply pw_below_drewN | apply below_drew1) | exact HB.out)⟩
     ·rw [if_neg c15] at H
      exact absurd H (by simp)

end Go.Proofs.YtcmppjonpmgncaaDoor.Q

namespace Go.Proofs.YtcmppjonpmgncaaDoor.Q
open Go.RowKit Go.Proofs.YtcmppjonpmgncaaDoorW.PrintWords Go.Proofs.YtcmppjonpmgncaaDoorW.PrintLast Go.Proofs.YtcmppjonpmgncaaDoorW.PrintMore
attribute [local go_sem] max2_int min2_int max_two min_two max_three min_three max_four min_four   -- for this text's walks alone
set_option linter.unusedVariables false
set_option linter.unusedSimpArgs false

/-! ### num_IsBinary: function 13 -/
def num_IsBinary.f (a0 : Int) : Option (Bool) := if a0 ≥ 1 then (some (decide (a0 ≤ 16))) else (some false)
set_option maxHeartbeats 8000000 in
set_option maxRecDepth 100000 in
theorem num_IsBinary.calls (a0 : Int) (r : Bool) (w : World) (h : num_IsBinary.f a0 = some r) :
  Calls Tryd.prog 13 #[.int .i64 a0] w fun e w' => e = .returned (.bool r) ∧ Drawn0 w w' := by
 have H : (if a0 ≥ 1 then (some (decide (a0 ≤ 16))) else (some false)) = some r := h
 clear h
 by_cases c2 : a0 ≥ 1
 ·rw [if_pos c2] at H
  have c2b0 : decide (1 ≤ a0) = true := decide_eq_true c2
  clear c2
  obtain rfl := Option.some.inj H
  go_enter Tryd.func13, Tryd.ntmps13
  go_wp2
  go_ret
  exact ⟨by first | rfl | (simp; done) | (simp [*]; done), by repeat (first | exact Drawn0.refl _ | apply Drawn0.step)⟩
 ·rw [if_neg c2] at H
  have c2b0 : decide (1 ≤ a0) = false := decide_eq_false c2
  clear c2
  obtain rfl := Option.some.inj H
  go_enter Tryd.func13, Tryd.ntmps13
  go_wp2
  go_ret
  exact ⟨by first | rfl | (simp; done) | (simp [*]; done), by repeat (first | exact Drawn0.refl _ | apply Drawn0.step)⟩

end Go.Proofs.YtcmppjonpmgncaaDoor.Q

namespace Go.Proofs.YtcmppjonpmgncaaDoor.Q
open Go.RowKit Go.Proofs.YtcmppjonpmgncaaDoorW.PrintWords Go.Proofs.YtcmppjonpmgncaaDoorW.PrintLast Go.Proofs.YtcmppjonpmgncaaDoorW.PrintMore
attribute [local go_sem] max2_int min2_int max_two min_two max_three min_three max_four min_four   -- for this text's walks alone
set_option linter.unusedVariables false
set_option linter.unusedSimpArgs false

/-! ### num_IsUnary: function 14 -/
def num_IsUnary.f (a0 : Int) : Option (Bool) := if a0 = 17 then (some true) else (some (a0 == 18))
set_option maxHeartbeats 8000000 in
set_option maxRecDepth 100000 in
theorem num_IsUnary.calls (a0 : Int) (r : Bool) (w : World) (h : num_IsUnary.f a0 = some r) :
  Calls Tryd.prog 14 #[.int .i64 a0] w fun e w' => e = .returned (.bool r) ∧ Drawn0 w w' := by
 have H : (if a0 = 17 then (some true) else (some (a0 == 18))) = some r := h
 clear h
 by_cases c2 : a0 = 17
 ·rw [if_pos c2] at H
  have c2b0 : (a0 == 17) = true := beq_iff_eq.mpr c2
  have c2b1 : (a0 != 17) = false := bne_eq_false_iff_eq.mpr c2
  clear c2
  obtain rfl := Option.some.inj H
  go_enter Tryd.func14, Tryd.ntmps14
  go_wp2
  go_ret
  exact ⟨by first | rfl | (simp; done) | (simp [*]; done), by repeat (first | exact Drawn0.refl _ | apply Drawn0.step)⟩
 ·rw [if_neg c2] at H
  have c2b0 : (a0 == 17) = false := beq_eq_false_iff_ne.mpr c2
  have c2b1 : (a0 != 17) = true := bne_iff_ne.mpr c2
  obtain rfl := Option.some.inj H
  go_enter Tryd.func14, Tryd.ntmps14
  go_wp2
  go_ret
  exact ⟨by first | rfl | (simp; done) | (simp [*]; done), by repeat (first | exact Drawn0.refl _ | apply Drawn0.step)⟩

end Go.Proofs.YtcmppjonpmgncaaDoor.Q

namespace Go.Proofs.YtcmppjonpmgncaaDoor.Q
open Go.RowKit Go.Proofs.YtcmppjonpmgncaaDoorW.PrintWords Go.Proofs.YtcmppjonpmgncaaDoorW.PrintLast Go.Proofs.YtcmppjonpmgncaaDoorW.PrintMore
attribute [local go_sem] max2_int min2_int max_two min_two max_three min_three max_four min_four   -- for this text's walks alone
set_option linter.unusedVariables false
set_option linter.unusedSimpArgs false

/-! ### num_Sign: function 17 -/
def num_Sign.f (a0 : Int) : Option (ByteArray) := (num_IsBinary.f a0).bind fun t128 => (if t128 = true then ((num_signs.f).bind fun t129 => (if 0 ≤ a0 then (if a0 < (t129.length : Int) then (some (rdOf ByteArray.empty t129 a0)) else (none)) else (none))) else ((num_IsUnary.f a0).bind fun t133 => (if t133 = true then ((num_signs.f).bind fun t134 => (if 0 ≤ a0 then (if a0 < (t134.length : Int) then (some (rdOf ByteArray.empty t134 a0)) else (none)) else (none))) else (some (⟨#[]⟩ : ByteArray)))))
set_option maxHeartbeats 8000000 in
set_option maxRecDepth 100000 in
theorem num_Sign.calls (a0 : Int) (r : ByteArray) (w : World) (h : num_Sign.f a0 = some r) :
  Calls Tryd.prog 17 #[.int .i64 a0] w fun e w' => e = .returned (.string r) ∧ Below w.heap.size w w' := by
 have HB := Aside0.mk (Below.refl w.heap.size w)
 have H : ((num_IsBinary.f a0).bind fun t128 => (if t128 = true then ((num_signs.f).bind fun t129 => (if 0 ≤ a0 then (if a0 < (t129.length : Int) then (some (rdOf ByteArray.empty t129 a0)) else (none)) else (none))) else ((num_IsUnary.f a0).bind fun t133 => (if t133 = true then ((num_signs.f).bind fun t134 => (if 0 ≤ a0 then (if a0 < (t134.length : Int) then (some (rdOf ByteArray.empty t134 a0)) else (none)) else (none))) else (some (⟨#[]⟩ : ByteArray)))))) = some r := h
 clear h
 replace H := Option.bind_eq_some_iff.mp H
 obtain ⟨t128, A20, H⟩ := H
 replace H : (if t128 = true then ((num_signs.f).bind fun t129 => (if 0 ≤ a0 then (if a0 < (t129.length : Int) then (some (rdOf ByteArray.empty t129 a0)) else (none)) else (none))) else ((num_IsUnary.f a0).bind fun t133 => (if t133 = true then ((num_signs.f).bind fun t134 => (if 0 ≤ a0 then (if a0 < (t134.length : Int) then (some (rdOf ByteArray.empty t134 a0)) else (none)) else (none))) else (some (⟨#[]⟩ : ByteArray))))) = some r := H
 have A2 := Aside0.mk A20
 clear A20
 by_cases c3 : t128 = true
 ·subst c3
  have H1 : ((num_signs.f).bind fun t129 => (if 0 ≤ a0 then (if a0 < (t129.length : Int) then (some (rdOf ByteArray.empty t129 a0)) else (none)) else (none))) = some r := by rw [if_pos rfl] at H; exact H
  clear H
  have H := H1
  clear H1
  replace H := Option.bind_eq_some_iff.mp H
  obtain ⟨t129, A40, H⟩ := H
  replace H : (if 0 ≤ a0 then (if a0 < (t129.length : Int) then (some (rdOf ByteArray.empty t129 a0)) else (none)) else (none)) = some r := H
  have A4 := Aside0.mk A40
  clear A40
  by_cases c5 : 0 ≤ a0
  ·rw [if_pos c5] at H
   have c5b0 : decide (0 ≤ a0) = true := decide_eq_true c5
   clear c5
   by_cases c6 : a0 < (t129.length : Int)
   ·rw [if_pos c6] at H
    have c6b0 : decide (a0 < (t129.length : Int)) = true := decide_eq_true c6
    clear c6
    obtain rfl := Option.some.inj H
    go_enter Tryd.func17, Tryd.ntmps17
    go_wp2_with (first | ((with_reducible refine gate_callee (f := 13) rfl ?_); refine goesL_ (some 4) rfl rfl Tryd.func13 (by kernel_rfl) rfl #[.int .i64 a0] rfl (by (try simp only [List.map_toArray, List.map_cons, List.map_nil]); first | done | rfl | (simp only [List.length_drop, List.length_take]; rfl)) ?_; (with_reducible refine (num_IsBinary.calls a0 true _ A2.out).mono ?_); rintro e w' ⟨rfl, ⟨nd, rfl⟩⟩; refine ⟨_, rfl, ?_⟩) | ((with_reducible refine gate_callee (f := 38) rfl ?_); refine goesL_ (some 11) rfl rfl Tryd.func38 (by kernel_rfl) rfl #[] rfl (by (try simp only [List.map_toArray, List.map_cons, List.map_nil]); first | done | rfl | (simp only [List.length_drop, List.length_take]; rfl)) ?_; (with_reducible refine (num_signs.calls  t129 _ A4.out).mono ?_); rintro e w7 ⟨v130, rfl, ho0, hb⟩; refine ⟨_, rfl, ?_⟩; have n0_ := Aside0.mk (Kd.R_lower ho0 (below_size (by repeat (first | (with_reducible first | exact HB.out | apply below_alloc | apply pw_below_drewN | apply below_drew1) | exact HB.out)))); have n1_ := Aside0.mk (below_step (by repeat (first | (with_reducible first | exact HB.out | apply below_alloc | apply pw_below_drewN | apply below_drew1) | exact HB.out)) hb); clear HB; have HO131 := n0_; have HB := n1_; clear n0_ n1_; (try clear hb); (try clear hb2); (try clear hk); (try clear hi); (try clear ho0); obtain ⟨Ao8, co8, eo8⟩ := Kd.R_slice HO131.out; subst eo8; have p132 : 0 ≤ (a0 : Int) := of_decide_eq_true (by first | (with_reducible assumption) | assumption); have q132 : a0 < (t129.length : Int) := of_decide_eq_true (by first | (with_reducible assumption) | assumption); obtain ⟨ad132, e132, hx132_0⟩ := Kd.at_string (Kd.R_reads' HO131.out).2.2 a0 p132 q132; cases e132; replace p132 := eq_true p132; replace q132 := eq_true q132))
    go_ret
    exact ⟨by first | rfl | (simp [errW_none, errW_some] <;> rfl) | (simp [*, errW_none, errW_some] <;> rfl), by repeat (first | (with_reducible first | exact HB.out | apply below_alloc | apply pw_below_drewN | apply below_drew1) | exact HB.out)⟩
   ·rw [if_neg c6] at H
    exact absurd H (by simp)
  ·rw [if_neg c5] at H
   exact absurd H (by simp)
 ·replace c3 := Bool.eq_false_iff.mpr c3
  subst c3
  have H1 : ((num_IsUnary.f a0).bind fun t133 => (if t133 = true then ((num_signs.f).bind fun t134 => (if 0 ≤ a0 then (if a0 < (t134.length : Int) then (some (rdOf ByteArray.empty t134 a0)) else (none)) else (none))) else (some (⟨#[]⟩ : ByteArray)))) = some r := by rw [if_neg (show ¬ (false = true) by decide)] at H; exact H
  clear H
  have H := H1
  clear H1
  replace H := Option.bind_eq_some_iff.mp H
  obtain ⟨t133, A90, H⟩ := H
  replace H : (if t133 = true then ((num_signs.f).bind fun t134 => (if 0 ≤ a0 then (if a0 < (t134.length : Int) then (some (rdOf ByteArray.empty t134 a0)) else (none)) else (none))) else (some (⟨#[]⟩ : ByteArray))) = some r := H
  have A9 := Aside0.mk A90
  clear A90
  by_cases c10 : t133 = true
  ·subst c10
   have H1 : ((num_signs.f).bind fun t134 => (if 0 ≤ a0 then (if a0 < (t134.length : Int) then (some (rdOf ByteArray.empty t134 a0)) else (none)) else (none))) = some r := by rw [if_pos rfl] at H; exact H
   clear H
   have H := H1
   clear H1
   replace H := Option.bind_eq_some_iff.mp H
   obtain ⟨t134, A110, H⟩ := H
   replace H : (if 0 ≤ a0 then (if a0 < (t134.length : Int) then (some (rdOf ByteArray.empty t134 a0)) else (none)) else (none)) = some r := H
   have A11 := Aside0.mk A110
   clear A110
   by_cases c12 : 0 ≤ a0
   ·rw [if_pos c12] at H
    have c12b0 : decide (0 ≤ a0) = true := decide_eq_true c12
    clear c12
    by_cases c13 : a0 < (t134.length : Int)
    ·rw [if_pos c13] at H
     have c13b0 : decide (a0 < (t134.length : Int)) = true := decide_eq_true c13
     clear c13
     obtain rfl := Option.some.inj H
     go_enter Tryd.func17, Tryd.ntmps17
     go_wp2_with (first | ((with_reducible refine gate_callee (f := 13) rfl ?_); refine goesL_ (some 4) rfl rfl Tryd.func13 (by kernel_rfl) rfl #[.int .i64 a0] rfl (by (try simp only [List.map_toArray, List.map_cons, List.map_nil]); first | done | rfl | (simp only [List.length_drop, List.length_take]; rfl)) ?_; (with_reducible refine (num_IsBinary.calls a0 false _ A2.out).mono ?_); rintro e w' ⟨rfl, ⟨nd, rfl⟩⟩; refine ⟨_, rfl, ?_⟩) | (go_at_call 14; (with_reducible refine (num_IsUnary.calls a0 true _ A9.out).mono ?_); rintro e w' ⟨rfl, ⟨nd, rfl⟩⟩) | ((with_reducible refine gate_callee (f := 38) rfl ?_); refine goesL_ (some 11) rfl rfl Tryd.func38 (by kernel_rfl) rfl #[] rfl (by (try simp only [List.map_toArray, List.map_cons, List.map_nil]); first | done | rfl | (simp only [List.length_drop, List.length_take]; rfl)) ?_; (with_reducible refine (num_signs.calls  t134 _ A11.out).mono ?_); rintro e w14 ⟨v135, rfl, ho0, hb⟩; refine ⟨_, rfl, ?_⟩; have n0_ := Aside0.mk (Kd.R_lower ho0 (below_size (by repeat (first | (with_reducible first | exact HB.out | apply below_alloc | apply pw_below_drewN | apply below_drew1) | exact HB.out)))); have n1_ := Aside0.mk (below_step (by repeat (first | (with_reducible first | exact HB.out | apply below_alloc | apply pw_below_drewN | apply below_drew1) | exact HB.out)) hb); clear HB; have HO136 := n0_; have HB := n1_; clear n0_ n1_; (try clear hb); (try clear hb2); (try clear hk); (try clear hi); (try clear ho0); obtain ⟨Ao15, co15, eo15⟩ := Kd.R_slice HO136.out; subst eo15; have p137 : 0 ≤ (a0 : Int) := of_decide_eq_true (by first | (with_reducible assumption) | assumption); have q137 : a0 < (t134.length : Int) := of_decide_eq_true (by first | (with_reducible assumption) | assumption); obtain ⟨ad137, e137, hx137_0⟩ := Kd.at_string (Kd.R_reads' HO136.out).2.2 a0 p137 q137; cases e137; replace p137 := eq_true p137; replace q137 := eq_true q137))
     go_ret
     exact ⟨by first | rfl | (simp [errW_none, errW_some] <;> rfl) | (simp [*, errW_none, errW_some] <;> rfl), by repeat (first | (with_reducible first | exact HB.out | apply below_alloc | apply pw_below_drewN | apply below_drew1) | exact HB.out)⟩
    ·rw [if_neg c13] at H
     exact absurd H (by simp)
   ·rw [if_neg c12] at H
    exact absurd H (by simp)
  ·replace c10 := Bool.eq_false_iff.mpr c10
   subst c10
   have H1 : (some (⟨#[]⟩ : ByteArray)) = some r := by rw [if_neg (show ¬ (false = true) by decide)] at H; exact H
   clear H
   have H := H1
   clear H1
   obtain rfl := Option.some.inj H
   go_enter Tryd.func17, Tryd.ntmps17
   go_wp2_with (first | ((with_reducible refine gate_callee (f := 13) rfl ?_); refine goesL_ (some 4) rfl rfl Tryd.func13 (by kernel_rfl) rfl #[.int .i64 a0] rfl (by (try simp only [List.map_toArray, List.map_cons, List.map_nil]); first | done | rfl | (simp only [List.length_drop, List.length_take]; rfl)) ?_; (with_reducible refine (num_IsBinary.calls a0 false _ A2.out).mono ?_); rintro e w' ⟨rfl, ⟨nd, rfl⟩⟩; refine ⟨_, rfl, ?_⟩) | (go_at_call 14; (with_reducible refine (num_IsUnary.calls a0 false _ A9.out).mono ?_); rintro e w' ⟨rfl, ⟨nd, rfl⟩⟩))
   go_ret
   exact ⟨by first | rfl | (simp [errW_none, errW_some] <;> rfl) | (simp [*, errW_none, errW_some] <;> rfl), by repeat (first | (with_reducible first | exact HB.out | apply below_alloc | apply pw_below_drewN | apply below_drew1) | exact HB.out)⟩

end Go.Proofs.YtcmppjonpmgncaaDoor.Q

namespace Go.Proofs.YtcmppjonpmgncaaDoor.Q
open Go.RowKit Go.Proofs.YtcmppjonpmgncaaDoorW.PrintWords Go.Proofs.YtcmppjonpmgncaaDoorW.PrintLast Go.Proofs.YtcmppjonpmgncaaDoorW.PrintMore
attribute [local go_sem] max2_int min2_int max_two min_two max_three min_three max_four min_four   -- for this text's walks alone
set_option linter.unusedVariables false
set_option linter.unusedSimpArgs false

/-! ### num_Level: function 18 -/
mutual
def num_Level.j0 : Nat → Int → Bool → Option (Int)
 | 0, _, _ => none
 | k + 1, x3, x4 => if x4 = true then (some 5) else (if x3 = 1 then (num_Level.j1 k x3 (x3 == 1)) else (if x3 = 2 then (num_Level.j1 k x3 (x3 == 2)) else (if x3 = 7 then (num_Level.j1 k x3 (x3 == 7)) else (num_Level.j1 k x3 (x3 == 8)))))
def num_Level.j1 : Nat → Int → Bool → Option (Int)
 | 0, _, _ => none
 | k + 1, x3, x11 => if x11 = true then (some 4) else (if x3 = 11 then (some 3) else (if x3 = 12 then (some 3) else (if x3 = 13 then (some 3) else (if x3 = 14 then (some 3) else (if x3 = 15 then (some 3) else (if x3 = 16 then (some 3) else (some 0)))))))
end
def num_Level.f (k : Nat) (a0 : Int) : Option (Int) := if a0 = 3 then (num_Level.j0 k a0 (a0 == 3)) else (if a0 = 4 then (num_Level.j0 k a0 (a0 == 4)) else (if a0 = 5 then (num_Level.j0 k a0 (a0 == 5)) else (if a0 = 9 then (num_Level.j0 k a0 (a0 == 9)) else (if a0 = 10 then (num_Level.j0 k a0 (a0 == 10)) else (num_Level.j0 k a0 (a0 == 6))))))
theorem num_Level.mono_l : ∀ k, (∀ y0 y1, LeO (num_Level.j0 k y0 y1) (num_Level.j0 (k + 1) y0 y1)) ∧ (∀ y0 y1, LeO (num_Level.j1 k y0 y1) (num_Level.j1 (k + 1) y0 y1))
 | 0 => ⟨fun _ _ r h => by simp [num_Level.j0] at h, fun _ _ r h => by simp [num_Level.j1] at h⟩
 | k + 1 => by
  obtain ⟨ih0, ih1⟩ := num_Level.mono_l k
  refine ⟨?_, ?_⟩
  ·intro y0 y1
   unfold num_Level.j0
   repeat' first
   | (with_reducible exact ih0 _ _)
   | (with_reducible exact ih1 _ _)
   | (with_reducible exact LeO.refl _)
   | (with_reducible exact LeO.none _)
   | (with_reducible refine LeO.ite ?_ ?_)
   | (with_reducible refine LeO.bind ?_ (fun _ => ?_))
   | exact ih0 _ _
   | exact ih1 _ _
   | exact LeO.none _
   | refine LeO.ite ?_ ?_
   | refine LeO.bind ?_ (fun _ => ?_)
  ·intro y0 y1
   unfold num_Level.j1
   repeat' first
   | (with_reducible exact ih0 _ _)
   | (with_reducible exact ih1 _ _)
   | (with_reducible exact LeO.refl _)
   | (with_reducible exact LeO.none _)
   | (with_reducible refine LeO.ite ?_ ?_)
   | (with_reducible refine LeO.bind ?_ (fun _ => ?_))
   | exact ih0 _ _
   | exact ih1 _ _
   | exact LeO.none _
   | refine LeO.ite ?_ ?_
   | refine LeO.bind ?_ (fun _ => ?_)
theorem num_Level.mono : ∀ a0 k, LeO (num_Level.f k a0) (num_Level.f (k + 1) a0) := by
 intro a0 k
 obtain ⟨ih0, ih1⟩ := num_Level.mono_l k
 unfold num_Level.f
 repeat' first
   | (with_reducible exact ih0 _ _)
   | (with_reducible exact ih1 _ _)
   | (with_reducible exact LeO.refl _)
   | (with_reducible exact LeO.none _)
   | (with_reducible refine LeO.ite ?_ ?_)
   | (with_reducible refine LeO.bind ?_ (fun _ => ?_))
   | exact ih0 _ _
   | exact ih1 _ _
   | exact LeO.none _
   | refine LeO.ite ?_ ?_
   | refine LeO.bind ?_ (fun _ => ?_)
set_option maxHeartbeats 8000000 in
set_option maxRecDepth 100000 in
theorem num_Level.calls (k : Nat) (a0 : Int) (r : Int) (w : World) (h : num_Level.f k a0 = some r) :
  Calls Tryd.prog 18 #[.int .i64 a0] w fun e w' => e = .returned (.int .i64 r) ∧ Drawn0 w w' := by
 have H : (if a0 = 3 then (num_Level.j0 k a0 (a0 == 3)) else (if a0 = 4 then (num_Level.j0 k a0 (a0 == 4)) else (if a0 = 5 then (num_Level.j0 k a0 (a0 == 5)) else (if a0 = 9 then (num_Level.j0 k a0 (a0 == 9)) else (if a0 = 10 then (num_Level.j0 k a0 (a0 == 10)) else (num_Level.j0 k a0 (a0 == 6))))))) = some r := h
 clear h
 have HC2 := Aside0.mk H
 clear H
 go_enter Tryd.func18, Tryd.ntmps18
 go_upto_if 4 with (fail)
 go_cut [4] (fun v4 wc => ∃ (kq : Nat) (x4_1 : Bool), v4 = .bool x4_1 ∧ Aside0 (num_Level.j0 kq a0 x4_1 = some r) ∧ Aside0 (kq ≤ k) ∧ Drawn0 w wc)
 case first =>
  have H := HC2.out
  clear HC2
  by_cases c3 : a0 = 3
  ·rw [if_pos c3] at H
   have c3b0 : (a0 == 3) = true := beq_iff_eq.mpr c3
   have c3b1 : (a0 != 3) = false := bne_eq_false_iff_eq.mpr c3
   clear c3
   (first | rw [c3b0] | (simp only [i64_w, i32_w]; rw [c3b0]) | skip)
   have H' := Aside0.mk H
   clear H
   go_wp2
   go_meet
   case rel => exact ⟨_, ((a0 == 3)), (by first | rfl | (simp; done) | (simp [*]; done)), H', ⟨by first | omega | exact Nat.le_refl _⟩, by repeat (first | exact Drawn0.refl _ | apply Drawn0.step)⟩
  ·rw [if_neg c3] at H
   have c3b0 : (a0 == 3) = false := beq_eq_false_iff_ne.mpr c3
   have c3b1 : (a0 != 3) = true := bne_iff_ne.mpr c3
   (first | rw [c3b0] | (simp only [i64_w, i32_w]; rw [c3b0]) | skip)
   by_cases c4 : a0 = 4
   ·rw [if_pos c4] at H
    have c4b0 : (a0 == 4) = true := beq_iff_eq.mpr c4
    have c4b1 : (a0 != 4) = false := bne_eq_false_iff_eq.mpr c4
    clear c4
    have H' := Aside0.mk H
    clear H
    go_wp2
    go_meet
    case rel => exact ⟨_, ((a0 == 4)), (by first | rfl | (simp; done) | (simp [*]; done)), H', ⟨by first | omega | exact Nat.le_refl _⟩, by repeat (first | exact Drawn0.refl _ | apply Drawn0.step)⟩
   ·rw [if_neg c4] at H
    have c4b0 : (a0 == 4) = false := beq_eq_false_iff_ne.mpr c4
    have c4b1 : (a0 != 4) = true := bne_iff_ne.mpr c4
    by_cases c5 : a0 = 5
    ·rw [if_pos c5] at H
     have c5b0 : (a0 == 5) = true := beq_iff_eq.mpr c5
     have c5b1 : (a0 != 5) = false := bne_eq_false_iff_eq.mpr c5
     clear c5
     have H' := Aside0.mk H
     clear H
     go_wp2
     go_meet
     case rel => exact ⟨_, ((a0 == 5)), (by first | rfl | (simp; done) | (simp [*]; done)), H', ⟨by first | omega | exact Nat.le_refl _⟩, by repeat (first | exact Drawn0.refl _ | apply Drawn0.step)⟩
    ·rw [if_neg c5] at H
     have c5b0 : (a0 == 5) = false := beq_eq_false_iff_ne.mpr c5
     have c5b1 : (a0 != 5) = true := bne_iff_ne.mpr c5
     by_cases c6 : a0 = 9
     ·rw [if_pos c6] at H
      have c6b0 : (a0 == 9) = true := beq_iff_eq.mpr c6
      have c6b1 : (a0 != 9) = false := bne_eq_false_iff_eq.mpr c6
      clear c6
      have H' := Aside0.mk H
      clear H
      go_wp2
      go_meet
      case rel => exact ⟨_, ((a0 == 9)), (by first | rfl | (simp; done) | (simp [*]; done)), H', ⟨by first | omega | exact Nat.le_refl _⟩, by repeat (first | exact Drawn0.refl _ | apply Drawn0.step)⟩
     ·rw [if_neg c6] at H
      have c6b0 : (a0 == 9) = false := beq_eq_false_iff_ne.mpr c6
      have c6b1 : (a0 != 9) = true := bne_iff_ne.mpr c6
      by_cases c7 : a0 = 10
      ·rw [if_pos c7] at H
       have c7b0 : (a0 == 10) = true := beq_iff_eq.mpr c7
       have c7b1 : (a0 != 10) = false := bne_eq_false_iff_eq.mpr c7
       clear c7
       have H' := Aside0.mk H
       clear H
       go_wp2
       go_meet
       case rel => exact ⟨_, ((a0 == 10)), (by first | rfl | (simp; done) | (simp [*]; done)), H', ⟨by first | omega | exact Nat.le_refl _⟩, by repeat (first | exact Drawn0.refl _ | apply Drawn0.step)⟩
      ·rw [if_neg c7] at H
       have c7b0 : (a0 == 10) = false := beq_eq_false_iff_ne.mpr c7
       have c7b1 : (a0 != 10) = true := bne_iff_ne.mpr c7
       have H' := Aside0.mk H
       clear H
       go_wp2
       go_meet
       case rel => exact ⟨_, ((a0 == 6)), (by first | rfl | (simp; done) | (simp [*]; done)), H', ⟨by first | omega | exact Nat.le_refl _⟩, by repeat (first | exact Drawn0.refl _ | apply Drawn0.step)⟩
 case rest =>
  clear HC2
  try clear c1
  try clear p2
  try clear c3
  try clear c3b0
  try clear c3b1
  try clear c4
  try clear c4b0
  try clear c4b1
  try clear c5
  try clear c5b0
  try clear c5b1
  try clear c6
  try clear c6b0
  try clear c6b1
  try clear c7
  try clear c7b0
  try clear c7b1
  obtain ⟨kq, x4_1, rfl, HA, HJ1, ⟨mc1, rfl⟩⟩ := hcut
  cases kq with
  | zero => exact absurd HA.out (by simp [num_Level.j0])
  | succ kj1 =>
   have H := HA.out
   clear HA
   simp only [num_Level.j0] at H
   by_cases c8 : x4_1 = true
   ·subst c8
    have H1 : (some 5) = some r := by rw [if_pos rfl] at H; exact H
    clear H
    have H := H1
    clear H1
    obtain rfl := Option.some.inj H
    go_wp2
    go_ret
    exact ⟨by first | rfl | (simp; done) | (simp [*]; done), by repeat (first | exact Drawn0.refl _ | apply Drawn0.step)⟩
   ·replace c8 := Bool.eq_false_iff.mpr c8
    subst c8
    have H1 : (if a0 = 1 then (num_Level.j1 kj1 a0 (a0 == 1)) else (if a0 = 2 then (num_Level.j1 kj1 a0 (a0 == 2)) else (if a0 = 7 then (num_Level.j1 kj1 a0 (a0 == 7)) else (num_Level.j1 kj1 a0 (a0 == 8))))) = some r := by rw [if_neg (show ¬ (false = true) by decide)] at H; exact H
    clear H
    have H := H1
    clear H1
    have HC9 := Aside0.mk H
    clear H
    go_upto_if 11 with (fail)
    go_cut [11] (fun v11 wc => ∃ (kq : Nat) (x11_8 : Bool), v11 = .bool x11_8 ∧ Aside0 (num_Level.j1 kq a0 x11_8 = some r) ∧ Aside0 (kq ≤ kj1) ∧ Drawn0 w wc)
    case first =>
     have H := HC9.out
     clear HC9
     by_cases c10 : a0 = 1
     ·rw [if_pos c10] at H
      have c10b0 : (a0 == 1) = true := beq_iff_eq.mpr c10
      have c10b1 : (a0 != 1) = false := bne_eq_false_iff_eq.mpr c10
      clear c10
      (first | rw [c10b0] | (simp only [i64_w, i32_w]; rw [c10b0]) | skip)
      have H' := Aside0.mk H
      clear H
      go_wp2
      go_meet
      case rel => exact ⟨_, ((a0 == 1)), (by first | rfl | (simp; done) | (simp [*]; done)), H', ⟨by have := HJ1.out; first | omega | exact Nat.le_refl _⟩, by repeat (first | exact Drawn0.refl _ | apply Drawn0.step)⟩
     ·rw [if_neg c10] at H
      have c10b0 : (a0 == 1) = false := beq_eq_false_iff_ne.mpr c10
      have c10b1 : (a0 != 1) = true := bne_iff_ne.mpr c10
      (first | rw [c10b0] | (simp only [i64_w, i32_w]; rw [c10b0]) | skip)
      by_cases c11 : a0 = 2
      ·rw [if_pos c11] at H
       have c11b0 : (a0 == 2) = true := beq_iff_eq.mpr c11
       have c11b1 : (a0 != 2) = false := bne_eq_false_iff_eq.mpr c11
       clear c11
       have H' := Aside0.mk H
       clear H
       go_wp2
       go_meet
       case rel => exact ⟨_, ((a0 == 2)), (by first | rfl | (simp; done) | (simp [*]; done)), H', ⟨by have := HJ1.out; first | omega | exact Nat.le_refl _⟩, by repeat (first | exact Drawn0.refl _ | apply Drawn0.step)⟩
      ·rw [if_neg c11] at H
       have c11b0 : (a0 == 2) = false := beq_eq_false_iff_ne.mpr c11
       have c11b1 : (a0 != 2) = true := bne_iff_ne.mpr c11
       by_cases c12 : a0 = 7
       ·rw [if_pos c12] at H
        have c12b0 : (a0 == 7) = true := beq_iff_eq.mpr c12
        have c12b1 : (a0 != 7) = false := bne_eq_false_iff_eq.mpr c12
        clear c12
        have H' := Aside0.mk H
        clear H
        go_wp2
        go_meet
        case rel => exact ⟨_, ((a0 == 7)), (by first | rfl | (simp; done) | (simp [*]; done)), H', ⟨by have := HJ1.out; first | omega | exact Nat.le_refl _⟩, by repeat (first | exact Drawn0.refl _ | apply Drawn0.step)⟩
       ·rw [if_neg c12] at H
        have c12b0 : (a0 == 7) = false := beq_eq_false_iff_ne.mpr c12
        have c12b1 : (a0 != 7) = true := bne_iff_ne.mpr c12
        have H' := Aside0.mk H
        clear H
        go_wp2
        go_meet
        case rel => exact ⟨_, ((a0 == 8)), (by first | rfl | (simp; done) | (simp [*]; done)), H', ⟨by have := HJ1.out; first | omega | exact Nat.le_refl _⟩, by repeat (first | exact Drawn0.refl _ | apply Drawn0.step)⟩
    case rest =>
     clear HC9
     try clear c1
     try clear p2
     try clear c3
     try clear c3b0
     try clear c3b1
     try clear c4
     try clear c4b0
     try clear c4b1
     try clear c5
     try clear c5b0
     try clear c5b1
     try clear c6
     try clear c6b0
     try clear c6b1
     try clear c7
     try clear c7b0
     try clear c7b1
     try clear c8
     try clear c10
     try clear c10b0
     try clear c10b1
     try clear c11
     try clear c11b0
     try clear c11b1
     try clear c12
     try clear c12b0
     try clear c12b1
     try clear p2
     obtain ⟨kq, x11_8, rfl, HA, HJ8, ⟨mc8, rfl⟩⟩ := hcut
     cases kq with
     | zero => exact absurd HA.out (by simp [num_Level.j1])
     | succ kj8 =>
      have H := HA.out
      clear HA
      simp only [num_Level.j1] at H
      by_cases c13 : x11_8 = true
      ·subst c13
       have H1 : (some 4) = some r := by rw [if_pos rfl] at H; exact H
       clear H
       have H := H1
       clear H1
       obtain rfl := Option.some.inj H
       go_wp2
       go_ret
       exact ⟨by first | rfl | (simp; done) | (simp [*]; done), by repeat (first | exact Drawn0.refl _ | apply Drawn0.step)⟩
      ·replace c13 := Bool.eq_false_iff.mpr c13
       subst c13
       have H1 : (if a0 = 11 then (some 3) else (if a0 = 12 then (some 3) else (if a0 = 13 then (some 3) else (if a0 = 14 then (some 3) else (if a0 = 15 then (some 3) else (if a0 = 16 then (some 3) else (some 0))))))) = some r := by rw [if_neg (show ¬ (false = true) by decide)] at H; exact H
       clear H
       have H := H1
       clear H1
       by_cases c14 : a0 = 11
       ·rw [if_pos c14] at H
        have c14b0 : (a0 == 11) = true := beq_iff_eq.mpr c14
        have c14b1 : (a0 != 11) = false := bne_eq_false_iff_eq.mpr c14
        clear c14
        obtain rfl := Option.some.inj H
        go_wp2
        go_ret
        exact ⟨by first | rfl | (simp; done) | (simp [*]; done), by repeat (first | exact Drawn0.refl _ | apply Drawn0.step)⟩
       ·rw [if_neg c14] at H
        have c14b0 : (a0 == 11) = false := beq_eq_false_iff_ne.mpr c14
        have c14b1 : (a0 != 11) = true := bne_iff_ne.mpr c14
        by_cases c15 : a0 = 12
        ·rw [if_pos c15] at H
         have c15b0 : (a0 == 12) = true := beq_iff_eq.mpr c15
         have c15b1 : (a0 != 12) = false := bne_eq_false_iff_eq.mpr c15
         clear c15
         obtain rfl := Option.some.inj H
         go_wp2
         go_ret
         exact ⟨by first | rfl | (simp; done) | (simp [*]; done), by repeat (first | exact Drawn0.refl _ | apply Drawn0.step)⟩
        ·rw [if_neg c15] at H
         have c15b0 : (a0 == 12) = false := beq_eq_false_iff_ne.mpr c15
         have c15b1 : (a0 != 12) = true := bne_iff_ne.mpr c15
         by_cases c16 : a0 = 13
         ·rw [if_pos c16] at H
          have c16b0 : (a0 == 13) = true := beq_iff_eq.mpr c16
          have c16b1 : (a0 != 13) = false := bne_eq_false_iff_eq.mpr c16
          clear c16
          obtain rfl := Option.some.inj H
          go_wp2
          go_ret
          exact ⟨by first | rfl | (simp; done) | (simp [*]; done), by repeat (first | exact Drawn0.refl _ | apply Drawn0.step)⟩
         ·rw [if_neg c16] at H
          have c16b0 : (a0 == 13) = false := beq_eq_false_iff_ne.mpr c16
          have c16b1 : (a0 != 13) = true := bne_iff_ne.mpr c16
          by_cases c17 : a0 = 14
          ·rw [if_pos c17] at H
           have c17b0 : (a0 == 14) = true := beq_iff_eq.mpr c17
           have c17b1 : (a0 != 14) = false := bne_eq_false_iff_eq.mpr c17
           clear c17
           obtain rfl := Option.some.inj H
           go_wp2
           go_ret
           exact ⟨by first | rfl | (simp; done) | (simp [*]; done), by repeat (first | exact Drawn0.refl _ | apply Drawn0.step)⟩
          ·rw [if_neg c17] at H
           have c17b0 : (a0 == 14) = false := beq_eq_false_iff_ne.mpr c17
           have c17b1 : (a0 != 14) = true := bne_iff_ne.mpr c17
           by_cases c18 : a0 = 15
           ·rw [if_pos c18] at H
            have c18b0 : (a0 == 15) = true := beq_iff_eq.mpr c18
            have c18b1 : (a0 != 15) = false := bne_eq_false_iff_eq.mpr c18
            clear c18
            obtain rfl := Option.some.inj H
            go_wp2
            go_ret
            exact ⟨by first | rfl | (simp; done) | (simp [*]; done), by repeat (first | exact Drawn0.refl _ | apply Drawn0.step)⟩
           ·rw [if_neg c18] at H
            have c18b0 : (a0 == 15) = false := beq_eq_false_iff_ne.mpr c18
            have c18b1 : (a0 != 15) = true := bne_iff_ne.mpr c18
            by_cases c19 : a0 = 16
            ·rw [if_pos c19] at H
             have c19b0 : (a0 == 16) = true := beq_iff_eq.mpr c19
             have c19b1 : (a0 != 16) = false := bne_eq_false_iff_eq.mpr c19
             clear c19
             obtain rfl := Option.some.inj H
             go_wp2
             go_ret
             exact ⟨by first | rfl | (simp; done) | (simp [*]; done), by repeat (first | exact Drawn0.refl _ | apply Drawn0.step)⟩
            ·rw [if_neg c19] at H
             have c19b0 : (a0 == 16) = false := beq_eq_false_iff_ne.mpr c19
             have c19b1 : (a0 != 16) = true := bne_iff_ne.mpr c19
             obtain rfl := Option.some.inj H
             go_wp2
             go_ret
             exact ⟨by first | rfl | (simp; done) | (simp [*]; done), by repeat (first | exact Drawn0.refl _ | apply Drawn0.step)⟩

end Go.Proofs.YtcmppjonpmgncaaDoor.Q

namespace Go.Proofs.YtcmppjonpmgncaaDoor.Q
open Go.RowKit Go.Proofs.YtcmppjonpmgncaaDoorW.PrintWords Go.Proofs.YtcmppjonpmgncaaDoorW.PrintLast Go.Proofs.YtcmppjonpmgncaaDoorW.PrintMore
attribute [local go_sem] max2_int min2_int max_two min_two max_three min_three max_four min_four   -- for this text's walks alone
set_option linter.unusedVariables false
set_option linter.unusedSimpArgs false

/-! ### num_shift: function 25 -/
def num_shift.f (a0 : Int) (a1 : Int) (a2 : Int) : Option (Int × Int) := if a2 < 0 then (some (0, 12)) else (if a0 = 10 then (if 0 ≤ (IntKind.u64.wrap (mn a2 63)) then (some (shr .i64 a1 (IntKind.u64.wrap (mn a2 63)), 0)) else (none)) else (if a2 ≥ 64 then (some (0, 0)) else (if 0 ≤ (IntKind.u64.wrap (a2)) then (some (shl .i64 a1 (IntKind.u64.wrap (a2)), 0)) else (none))))
set_option maxHeartbeats 8000000 in
set_option maxRecDepth 100000 in
theorem num_shift.calls (a0 : Int) (a1 : Int) (a2 : Int) (r1 : Int) (r2 : Int) (w : World) (h : num_shift.f a0 a1 a2 = some (r1, r2)) :
  Calls Tryd.prog 25 #[.int .i64 a0, .int .i64 a1, .int .i64 a2] w fun e w' => e = .returned (.tuple #[.int .i64 r1, .int .i64 r2]) ∧ Below w.heap.size w w' := by
 have HB := Aside0.mk (Below.refl w.heap.size w)
 have H : (if a2 < 0 then (some (0, 12)) else (if a0 = 10 then (if 0 ≤ (IntKind.u64.wrap (mn a2 63)) then (some (shr .i64 a1 (IntKind.u64.wrap (mn a2 63)), 0)) else (none)) else (if a2 ≥ 64 then (some (0, 0)) else (if 0 ≤ (IntKind.u64.wrap (a2)) then (some (shl .i64 a1 (IntKind.u64.wrap (a2)), 0)) else (none))))) = some (r1, r2) := h
 clear h
 by_cases c4 : a2 < 0
 ·rw [if_pos c4] at H
  have c4b0 : decide (a2 < 0) = true := decide_eq_true c4
  clear c4
  simp only [Option.some.injEq, Prod.mk.injEq] at H
  obtain ⟨rfl, rfl⟩ := H
  go_enter Tryd.func25, Tryd.ntmps25
  go_wp2
  go_ret2
  exact ⟨by first | rfl | (simp [errW_none, errW_some] <;> rfl) | (simp [*, errW_none, errW_some] <;> rfl), by repeat (first | (with_reducible first | exact HB.out | apply below_alloc | apply pw_below_drewN | apply below_drew1) | exact HB.out)⟩
 ·rw [if_neg c4] at H
  have c4b0 : decide (a2 < 0) = false := decide_eq_false c4
  clear c4
  by_cases c5 : a0 = 10
  ·rw [if_pos c5] at H
   have c5b0 : (a0 == 10) = true := beq_iff_eq.mpr c5
   have c5b1 : (a0 != 10) = false := bne_eq_false_iff_eq.mpr c5
   clear c5
   obtain ⟨ji6, hji6⟩ : ∃ j_ : Int, (mn a2 63) = j_ := ⟨_, rfl⟩
   replace H : (if 0 ≤ (IntKind.u64.wrap (ji6)) then (some (shr .i64 a1 (IntKind.u64.wrap (ji6)), 0)) else (none)) = some (r1, r2) := by first | (rw [hji6] at H; exact H) | (simp only [hji6] at H ⊢; exact H)
   (try (have hji6h : ji6 ≤ 63 := by (rw [← hji6]; unfold mn; (repeat' split) <;> omega)))
   (try (have hji6g : ji6 ≤ 64 := by omega))
   have hji6_ : (if 63 < a2 then 63 else a2) = ji6 := hji6
   obtain ⟨ji7, hji7⟩ : ∃ j_ : Int, (IntKind.u64.wrap (ji6)) = j_ := ⟨_, rfl⟩
   replace H : (if 0 ≤ (ji7) then (some (shr .i64 a1 (ji7), 0)) else (none)) = some (r1, r2) := by first | (rw [hji7] at H; exact H) | (simp only [hji7] at H ⊢; exact H)
   by_cases c8 : 0 ≤ (ji7)
   ·rw [if_pos c8] at H
    have c8b0 := eq_true c8
    have c8b1 : decide (0 ≤ (ji7)) = true := decide_eq_true c8
    clear c8
    obtain ⟨ji9, hji9⟩ : ∃ j_ : Int, (shr .i64 a1 (ji7)) = j_ := ⟨_, rfl⟩
    replace H : (some (ji9, 0)) = some (r1, r2) := by first | (rw [hji9] at H; exact H) | (simp only [hji9] at H ⊢; exact H)
    have hji9_ : (a1 / 2 ^ min (ji7).toNat 64) = ji9 := hji9
    have hji9z : (ji7) ≤ 64 → (a1 / 2 ^ (ji7).toNat) = ji9 := shr_small hji9
    simp only [Option.some.injEq, Prod.mk.injEq] at H
    obtain ⟨rfl, rfl⟩ := H
    go_enter Tryd.func25, Tryd.ntmps25
    go_wp2
    go_ret2
    exact ⟨by first | rfl | (simp [errW_none, errW_some] <;> rfl) | (simp only [← hji6, ← hji7, ← hji9]; first | rfl | (simp [errW_none, errW_some] <;> rfl)) | (simp [*, errW_none, errW_some] <;> rfl), by repeat (first | (with_reducible first | exact HB.out | apply below_alloc | apply pw_below_drewN | apply below_drew1) | exact HB.out)⟩
   ·rw [if_neg c8] at H
    exact absurd H (by simp)
  ·rw [if_neg c5] at H
   have c5b0 : (a0 == 10) = false := beq_eq_false_iff_ne.mpr c5
   have c5b1 : (a0 != 10) = true := bne_iff_ne.mpr c5
   by_cases c10 : a2 ≥ 64
   ·rw [if_pos c10] at H
    have c10b0 : decide (64 ≤ a2) = true := decide_eq_true c10
    clear c10
    simp only [Option.some.injEq, Prod.mk.injEq] at H
    obtain ⟨rfl, rfl⟩ := H
    go_enter Tryd.func25, Tryd.ntmps25
    go_wp2
    go_ret2
    exact ⟨by first | rfl | (simp [errW_none, errW_some] <;> rfl) | (simp [*, errW_none, errW_some] <;> rfl), by repeat (first | (with_reducible first | exact HB.out | apply below_alloc | apply pw_below_drewN | apply below_drew1) | exact HB.out)⟩
   ·rw [if_neg c10] at H
    have c10b0 : decide (64 ≤ a2) = false := decide_eq_false c10
    clear c10
    obtain ⟨ji11, hji11⟩ : ∃ j_ : Int, (IntKind.u64.wrap (a2)) = j_ := ⟨_, rfl⟩
    replace H : (if 0 ≤ (ji11) then (some (shl .i64 a1 (ji11), 0)) else (none)) = some (r1, r2) := by first | (rw [hji11] at H; exact H) | (simp only [hji11] at H ⊢; exact H)
    by_cases c12 : 0 ≤ (ji11)
    ·rw [if_pos c12] at H
     have c12b0 := eq_true c12
     have c12b1 : decide (0 ≤ (ji11)) = true := decide_eq_true c12
     clear c12
     obtain ⟨ji13, hji13⟩ : ∃ j_ : Int, (shl .i64 a1 (ji11)) = j_ := ⟨_, rfl⟩
     replace H : (some (ji13, 0)) = some (r1, r2) := by first | (rw [hji13] at H; exact H) | (simp only [hji13] at H ⊢; exact H)
     have hji13_ : (IntKind.i64.wrap (a1 * 2 ^ min (ji11).toNat 64)) = ji13 := hji13
     have hji13z : (ji11) ≤ 64 → (IntKind.i64.wrap (a1 * 2 ^ (ji11).toNat)) = ji13 := shl_small hji13
     have hji13y : (wrap64 (a1 * 2 ^ min (ji11).toNat 64)) = ji13 := (i64_w _).symm.trans hji13_
     have hji13x : (ji11) ≤ 64 → (wrap64 (a1 * 2 ^ (ji11).toNat)) = ji13 := fun h_ => (i64_w _).symm.trans (hji13z h_)
     simp only [Option.some.injEq, Prod.mk.injEq] at H
     obtain ⟨rfl, rfl⟩ := H
     go_enter Tryd.func25, Tryd.ntmps25
     go_wp2
     go_ret2
     exact ⟨by first | rfl | (simp [errW_none, errW_some] <;> rfl) | (simp only [← hji11, ← hji13]; first | rfl | (simp [errW_none, errW_some] <;> rfl)) | (simp [*, errW_none, errW_some] <;> rfl), by repeat (first | (with_reducible first | exact HB.out | apply below_alloc | apply pw_below_drewN | apply below_drew1) | exact HB.out)⟩
    ·rw [if_neg c12] at H
     exact absurd H (by simp)

end Go.Proofs.YtcmppjonpmgncaaDoor.Q

namespace Go.Proofs.YtcmppjonpmgncaaDoor.Q
open Go.RowKit Go.Proofs.YtcmppjonpmgncaaDoorW.PrintWords Go.Proofs.YtcmppjonpmgncaaDoorW.PrintLast Go.Proofs.YtcmppjonpmgncaaDoorW.PrintMore
attribute [local go_sem] max2_int min2_int max_two min_two max_three min_three max_four min_four   -- for this text's walks alone
set_option linter.unusedVariables false
set_option linter.unusedSimpArgs false

/-! ### num_divide: function 26 -/
def num_divide.f (a0 : Int) (a1 : Int) (a2 : Int) : Option (Int × Int) := if a2 = 0 then (some (0, 11)) else (if a0 = 4 then (some (wrap64 (Int.tdiv a1 a2), 0)) else (some (Int.tmod a1 a2, 0)))
set_option maxHeartbeats 8000000 in
set_option maxRecDepth 100000 in
theorem num_divide.calls (a0 : Int) (a1 : Int) (a2 : Int) (r1 : Int) (r2 : Int) (w : World) (h : num_divide.f a0 a1 a2 = some (r1, r2)) :
  Calls Tryd.prog 26 #[.int .i64 a0, .int .i64 a1, .int .i64 a2] w fun e w' => e = .returned (.tuple #[.int .i64 r1, .int .i64 r2]) ∧ Drawn0 w w' := by
 have H : (if a2 = 0 then (some (0, 11)) else (if a0 = 4 then (some (wrap64 (Int.tdiv a1 a2), 0)) else (some (Int.tmod a1 a2, 0)))) = some (r1, r2) := h
 clear h
 by_cases c4 : a2 = 0
 ·rw [if_pos c4] at H
  have c4b0 : (a2 == 0) = true := beq_iff_eq.mpr c4
  have c4b1 : (a2 != 0) = false := bne_eq_false_iff_eq.mpr c4
  clear c4
  simp only [Option.some.injEq, Prod.mk.injEq] at H
  obtain ⟨rfl, rfl⟩ := H
  go_enter Tryd.func26, Tryd.ntmps26
  go_wp2
  go_ret2
  exact ⟨by first | rfl | (simp; done) | (simp [*]; done), by repeat (first | exact Drawn0.refl _ | apply Drawn0.step)⟩
 ·rw [if_neg c4] at H
  have c4b0 : (a2 == 0) = false := beq_eq_false_iff_ne.mpr c4
  have c4b1 : (a2 != 0) = true := bne_iff_ne.mpr c4
  by_cases c5 : a0 = 4
  ·rw [if_pos c5] at H
   have c5b0 : (a0 == 4) = true := beq_iff_eq.mpr c5
   have c5b1 : (a0 != 4) = false := bne_eq_false_iff_eq.mpr c5
   clear c5
   simp only [Option.some.injEq, Prod.mk.injEq] at H
   obtain ⟨rfl, rfl⟩ := H
   go_enter Tryd.func26, Tryd.ntmps26
   go_wp2
   go_ret2
   exact ⟨by first | rfl | (simp; done) | (simp [*]; done), by repeat (first | exact Drawn0.refl _ | apply Drawn0.step)⟩
  ·rw [if_neg c5] at H
   have c5b0 : (a0 == 4) = false := beq_eq_false_iff_ne.mpr c5
   have c5b1 : (a0 != 4) = true := bne_iff_ne.mpr c5
   simp only [Option.some.injEq, Prod.mk.injEq] at H
   obtain ⟨rfl, rfl⟩ := H
   go_enter Tryd.func26, Tryd.ntmps26
   go_wp2
   go_ret2
   exact ⟨by first | rfl | (simp; done) | (simp [*]; done), by repeat (first | exact Drawn0.refl _ | apply Drawn0.step)⟩

end Go.Proofs.YtcmppjonpmgncaaDoor.Q

namespace Go.Proofs.YtcmppjonpmgncaaDoor.Q
open Go.RowKit Go.Proofs.YtcmppjonpmgncaaDoorW.PrintWords Go.Proofs.YtcmppjonpmgncaaDoorW.PrintLast Go.Proofs.YtcmppjonpmgncaaDoorW.PrintMore
attribute [local go_sem] max2_int min2_int max_two min_two max_three min_three max_four min_four   -- for this text's walks alone
set_option linter.unusedVariables false
set_option linter.unusedSimpArgs false

/-! ### num_truth: function 44 -/
def num_truth.f (a0 : Bool) : Option (Int) := if a0 = true then (some 1) else (some 0)
set_option maxHeartbeats 8000000 in
set_option maxRecDepth 100000 in
theorem num_truth.calls (a0 : Bool) (r : Int) (w : World) (h : num_truth.f a0 = some r) :
  Calls Tryd.prog 44 #[.bool a0] w fun e w' => e = .returned (.int .i64 r) ∧ Drawn0 w w' := by
 have H : (if a0 = true then (some 1) else (some 0)) = some r := h
 clear h
 by_cases c2 : a0 = true
 ·subst c2
  have H1 : (some 1) = some r := by rw [if_pos rfl] at H; exact H
  clear H
  have H := H1
  clear H1
  obtain rfl := Option.some.inj H
  go_enter Tryd.func44, Tryd.ntmps44
  go_wp2
  go_ret
  exact ⟨by first | rfl | (simp; done) | (simp [*]; done), by repeat (first | exact Drawn0.refl _ | apply Drawn0.step)⟩
 ·replace c2 := Bool.eq_false_iff.mpr c2
  subst c2
  have H1 : (some 0) = some r := by rw [if_neg (show ¬ (false = true) by decide)] at H; exact H
  clear H
  have H := H1
  clear H1
  obtain rfl := Option.some.inj H
  go_enter Tryd.func44, Tryd.ntmps44
  go_wp2
  go_ret
  exact ⟨by first | rfl | (simp; done) | (simp [*]; done), by repeat (first | exact Drawn0.refl _ | apply Drawn0.step)⟩

end Go.Proofs.YtcmppjonpmgncaaDoor.Q

namespace Go.Proofs.YtcmppjonpmgncaaDoor.Q
open Go.RowKit Go.Proofs.YtcmppjonpmgncaaDoorW.PrintWords Go.Proofs.YtcmppjonpmgncaaDoorW.PrintLast Go.Proofs.YtcmppjonpmgncaaDoorW.PrintMore
attribute [local go_sem] max2_int min2_int max_two min_two max_three min_three max_four min_four   -- for this text's walks alone
set_option linter.unusedVariables false
set_option linter.unusedSimpArgs false

/-! ### num_compare: function 45 -/
def num_compare.f (a0 : Int) (a1 : Int) (a2 : Int) : Option (Bool) := if a0 = 11 then (some (a1 == a2)) else (if a0 = 12 then (some (a1 != a2)) else (if a0 = 13 then (some (decide (a1 < a2))) else (if a0 = 14 then (some (decide (a1 ≤ a2))) else (if a0 = 15 then (some (decide (a1 > a2))) else (some (decide (a1 ≥ a2)))))))
set_option maxHeartbeats 8000000 in
set_option maxRecDepth 100000 in
theorem num_compare.calls (a0 : Int) (a1 : Int) (a2 : Int) (r : Bool) (w : World) (h : num_compare.f a0 a1 a2 = some r) :
  Calls Tryd.prog 45 #[.int .i64 a0, .int .i64 a1, .int .i64 a2] w fun e w' => e = .returned (.bool r) ∧ Drawn0 w w' := by
 have H : (if a0 = 11 then (some (a1 == a2)) else (if a0 = 12 then (some (a1 != a2)) else (if a0 = 13 then (some (decide (a1 < a2))) else (if a0 = 14 then (some (decide (a1 ≤ a2))) else (if a0 = 15 then (some (decide (a1 > a2))) else (some (decide (a1 ≥ a2)))))))) = some r := h
 clear h
 by_cases c4 : a0 = 11
 ·rw [if_pos c4] at H
  have c4b0 : (a0 == 11) = true := beq_iff_eq.mpr c4
  have c4b1 : (a0 != 11) = false := bne_eq_false_iff_eq.mpr c4
  clear c4
  obtain rfl := Option.some.inj H
  go_enter Tryd.func45, Tryd.ntmps45
  go_wp2
  go_ret
  exact ⟨by first | rfl | (simp; done) | (simp [*]; done), by repeat (first | exact Drawn0.refl _ | apply Drawn0.step)⟩
 ·rw [if_neg c4] at H
  have c4b0 : (a0 == 11) = false := beq_eq_false_iff_ne.mpr c4
  have c4b1 : (a0 != 11) = true := bne_iff_ne.mpr c4
  by_cases c5 : a0 = 12
  ·rw [if_pos c5] at H
   have c5b0 : (a0 == 12) = true := beq_iff_eq.mpr c5
   have c5b1 : (a0 != 12) = false := bne_eq_false_iff_eq.mpr c5
   clear c5
   obtain rfl := Option.some.inj H
   go_enter Tryd.func45, Tryd.ntmps45
   go_wp2
   go_ret
   exact ⟨by first | rfl | (simp; done) | (simp [*]; done), by repeat (first | exact Drawn0.refl _ | apply Drawn0.step)⟩
  ·rw [if_neg c5] at H
   have c5b0 : (a0 == 12) = false := beq_eq_false_iff_ne.mpr c5
   have c5b1 : (a0 != 12) = true := bne_iff_ne.mpr c5
   by_cases c6 : a0 = 13
   ·rw [if_pos c6] at H
    have c6b0 : (a0 == 13) = true := beq_iff_eq.mpr c6
    have c6b1 : (a0 != 13) = false := bne_eq_false_iff_eq.mpr c6
    clear c6
    obtain rfl := Option.some.inj H
    go_enter Tryd.func45, Tryd.ntmps45
    go_wp2
    go_ret
    exact ⟨by first | rfl | (simp; done) | (simp [*]; done), by repeat (first | exact Drawn0.refl _ | apply Drawn0.step)⟩
   ·rw [if_neg c6] at H
    have c6b0 : (a0 == 13) = false := beq_eq_false_iff_ne.mpr c6
    have c6b1 : (a0 != 13) = true := bne_iff_ne.mpr c6
    by_cases c7 : a0 = 14
    ·rw [if_pos c7] at H
     have c7b0 : (a0 == 14) = true := beq_iff_eq.mpr c7
     have c7b1 : (a0 != 14) = false := bne_eq_false_iff_eq.mpr c7
     clear c7
     obtain rfl := Option.some.inj H
     go_enter Tryd.func45, Tryd.ntmps45
     go_wp2
     go_ret
     exact ⟨by first | rfl | (simp; done) | (simp [*]; done), by repeat (first | exact Drawn0.refl _ | apply Drawn0.step)⟩
    ·rw [if_neg c7] at H
     have c7b0 : (a0 == 14) = false := beq_eq_false_iff_ne.mpr c7
     have c7b1 : (a0 != 14) = true := bne_iff_ne.mpr c7
     by_cases c8 : a0 = 15
     ·rw [if_pos c8] at H
      have c8b0 : (a0 == 15) = true := beq_iff_eq.mpr c8
      have c8b1 : (a0 != 15) = false := bne_eq_false_iff_eq.mpr c8
      clear c8
      obtain rfl := Option.some.inj H
      go_enter Tryd.func45, Tryd.ntmps45
      go_wp2
      go_ret
      exact ⟨by first | rfl | (simp; done) | (simp [*]; done), by repeat (first | exact Drawn0.refl _ | apply Drawn0.step)⟩
     ·rw [if_neg c8] at H
      have c8b0 : (a0 == 15) = false := beq_eq_false_iff_ne.mpr c8
      have c8b1 : (a0 != 15) = true := bne_iff_ne.mpr c8
      obtain rfl := Option.some.inj H
      go_enter Tryd.func45, Tryd.ntmps45
      go_wp2
      go_ret
      exact ⟨by first | rfl | (simp; done) | (simp [*]; done), by repeat (first | exact Drawn0.refl _ | apply Drawn0.step)⟩

end Go.Proofs.YtcmppjonpmgncaaDoor.Q

namespace Go.Proofs.YtcmppjonpmgncaaDoor.Q
open Go.RowKit Go.Proofs.YtcmppjonpmgncaaDoorW.PrintWords Go.Proofs.YtcmppjonpmgncaaDoorW.PrintLast Go.Proofs.YtcmppjonpmgncaaDoorW.PrintMore
attribute [local go_sem] max2_int min2_int max_two min_two max_three min_three max_four min_four   -- for this text's walks alone
set_option linter.unusedVariables false
set_option linter.unusedSimpArgs false

/-! ### num_plain: function 27 -/
def num_plain.f (a0 : Int) (a1 : Int) (a2 : Int) : Option (Int) := if a0 = 1 then (some (wrap64 (a1 + a2))) else (if a0 = 2 then (some (wrap64 (a1 - a2))) else (if a0 = 3 then (some (wrap64 (a1 * a2))) else (if a0 = 6 then (some (Go.bits .and .i64 a1 a2)) else (if a0 = 7 then (some (Go.bits .or .i64 a1 a2)) else (if a0 = 8 then (some (Go.bits .xor .i64 a1 a2)) else (if a0 = 17 then (some (wrap64 (-a1))) else (if a0 = 18 then ((num_truth.f (a1 == 0)).bind fun t101 => (some t101)) else ((num_compare.f a0 a1 a2).bind fun t102 => ((num_truth.f t102).bind fun t103 => (some t103))))))))))
set_option maxHeartbeats 8000000 in
set_option maxRecDepth 100000 in
theorem num_plain.calls (a0 : Int) (a1 : Int) (a2 : Int) (r : Int) (w : World) (h : num_plain.f a0 a1 a2 = some r) :
  Calls Tryd.prog 27 #[.int .i64 a0, .int .i64 a1, .int .i64 a2] w fun e w' => e = .returned (.int .i64 r) ∧ Drawn0 w w' := by
 have H : (if a0 = 1 then (some (wrap64 (a1 + a2))) else (if a0 = 2 then (some (wrap64 (a1 - a2))) else (if a0 = 3 then (some (wrap64 (a1 * a2))) else (if a0 = 6 then (some (Go.bits .and .i64 a1 a2)) else (if a0 = 7 then (some (Go.bits .or .i64 a1 a2)) else (if a0 = 8 then (some (Go.bits .xor .i64 a1 a2)) else (if a0 = 17 then (some (wrap64 (-a1))) else (if a0 = 18 then ((num_truth.f (a1 == 0)).bind fun t101 => (some t101)) else ((num_compare.f a0 a1 a2).bind fun t102 => ((num_truth.f t102).bind fun t103 => (some t103))))))))))) = some r := h
 clear h
 by_cases c4 : a0 = 1
 ·rw [if_pos c4] at H
  have c4b0 : (a0 == 1) = true := beq_iff_eq.mpr c4
  have c4b1 : (a0 != 1) = false := bne_eq_false_iff_eq.mpr c4
  clear c4
  obtain rfl := Option.some.inj H
  go_enter Tryd.func27, Tryd.ntmps27
  go_wp2
  go_ret
  exact ⟨by first | rfl | (simp; done) | (simp [*]; done), by repeat (first | exact Drawn0.refl _ | apply Drawn0.step)⟩
 ·rw [if_neg c4] at H
  have c4b0 : (a0 == 1) = false := beq_eq_false_iff_ne.mpr c4
  have c4b1 : (a0 != 1) = true := bne_iff_ne.mpr c4
  by_cases c5 : a0 = 2
  ·rw [if_pos c5] at H
   have c5b0 : (a0 == 2) = true := beq_iff_eq.mpr c5
   have c5b1 : (a0 != 2) = false := bne_eq_false_iff_eq.mpr c5
   clear c5
   obtain rfl := Option.some.inj H
   go_enter Tryd.func27, Tryd.ntmps27
   go_wp2
   go_ret
   exact ⟨by first | rfl | (simp; done) | (simp [*]; done), by repeat (first | exact Drawn0.refl _ | apply Drawn0.step)⟩
  ·rw [if_neg c5] at H
   have c5b0 : (a0 == 2) = false := beq_eq_false_iff_ne.mpr c5
   have c5b1 : (a0 != 2) = true := bne_iff_ne.mpr c5
   by_cases c6 : a0 = 3
   ·rw [if_pos c6] at H
    have c6b0 : (a0 == 3) = true := beq_iff_eq.mpr c6
    have c6b1 : (a0 != 3) = false := bne_eq_false_iff_eq.mpr c6
    clear c6
    obtain rfl := Option.some.inj H
    go_enter Tryd.func27, Tryd.ntmps27
    go_wp2
    go_ret
    exact ⟨by first | rfl | (simp; done) | (simp [*]; done), by repeat (first | exact Drawn0.refl _ | apply Drawn0.step)⟩
   ·rw [if_neg c6] at H
    have c6b0 : (a0 == 3) = false := beq_eq_false_iff_ne.mpr c6
    have c6b1 : (a0 != 3) = true := bne_iff_ne.mpr c6
    by_cases c7 : a0 = 6
    ·rw [if_pos c7] at H
     have c7b0 : (a0 == 6) = true := beq_iff_eq.mpr c7
     have c7b1 : (a0 != 6) = false := bne_eq_false_iff_eq.mpr c7
     clear c7
     obtain rfl := Option.some.inj H
     go_enter Tryd.func27, Tryd.ntmps27
     go_wp2
     go_ret
     exact ⟨by first | rfl | (simp; done) | (simp [*]; done), by repeat (first | exact Drawn0.refl _ | apply Drawn0.step)⟩
    ·rw [if_neg c7] at H
     have c7b0 : (a0 == 6) = false := beq_eq_false_iff_ne.mpr c7
     have c7b1 : (a0 != 6) = true := bne_iff_ne.mpr c7
     by_cases c8 : a0 = 7
     ·rw [if_pos c8] at H
      have c8b0 : (a0 == 7) = true := beq_iff_eq.mpr c8
      have c8b1 : (a0 != 7) = false := bne_eq_false_iff_eq.mpr c8
      clear c8
      obtain rfl := Option.some.inj H
      go_enter Tryd.func27, Tryd.ntmps27
      go_wp2
      go_ret
      exact ⟨by first | rfl | (simp; done) | (simp [*]; done), by repeat (first | exact Drawn0.refl _ | apply Drawn0.step)⟩
     ·rw [if_neg c8] at H
      have c8b0 : (a0 == 7) = false := beq_eq_false_iff_ne.mpr c8
      have c8b1 : (a0 != 7) = true := bne_iff_ne.mpr c8
      by_cases c9 : a0 = 8
      ·rw [if_pos c9] at H
       have c9b0 : (a0 == 8) = true := beq_iff_eq.mpr c9
       have c9b1 : (a0 != 8) = false := bne_eq_false_iff_eq.mpr c9
       clear c9
       obtain rfl := Option.some.inj H
       go_enter Tryd.func27, Tryd.ntmps27
       go_wp2
       go_ret
       exact ⟨by first | rfl | (simp; done) | (simp [*]; done), by repeat (first | exact Drawn0.refl _ | apply Drawn0.step)⟩
      ·rw [if_neg c9] at H
       have c9b0 : (a0 == 8) = false := beq_eq_false_iff_ne.mpr c9
       have c9b1 : (a0 != 8) = true := bne_iff_ne.mpr c9
       by_cases c10 : a0 = 17
       ·rw [if_pos c10] at H
        have c10b0 : (a0 == 17) = true := beq_iff_eq.mpr c10
        have c10b1 : (a0 != 17) = false := bne_eq_false_iff_eq.mpr c10
        clear c10
        obtain rfl := Option.some.inj H
        go_enter Tryd.func27, Tryd.ntmps27
        go_wp2
        go_ret
        exact ⟨by first | rfl | (simp; done) | (simp [*]; done), by repeat (first | exact Drawn0.refl _ | apply Drawn0.step)⟩
       ·rw [if_neg c10] at H
        have c10b0 : (a0 == 17) = false := beq_eq_false_iff_ne.mpr c10
        have c10b1 : (a0 != 17) = true := bne_iff_ne.mpr c10
        by_cases c11 : a0 = 18
        ·rw [if_pos c11] at H
         have c11b0 : (a0 == 18) = true := beq_iff_eq.mpr c11
         have c11b1 : (a0 != 18) = false := bne_eq_false_iff_eq.mpr c11
         clear c11
         replace H := Option.bind_eq_some_iff.mp H
         obtain ⟨t101, A120, H⟩ := H
         replace H : (some t101) = some r := H
         have A12 := Aside0.mk A120
         clear A120
         obtain rfl := Option.some.inj H
         go_enter Tryd.func27, Tryd.ntmps27
         go_wp2_with (first | ((with_reducible refine gate_callee (f := 44) rfl ?_); refine goesL_ (some 46) rfl rfl Tryd.func44 (by kernel_rfl) rfl #[.bool (a1 == 0)] rfl (by (try simp only [List.map_toArray, List.map_cons, List.map_nil]); first | done | rfl | (simp only [List.length_drop, List.length_take]; rfl)) ?_; (with_reducible refine (num_truth.calls (a1 == 0) t101 _ A12.out).mono ?_); rintro e w' ⟨rfl, ⟨nd, rfl⟩⟩; refine ⟨_, rfl, ?_⟩))
         go_ret
         exact ⟨by first | rfl | (simp; done) | (simp [*]; done), by repeat (first | exact Drawn0.refl _ | apply Drawn0.step)⟩
        ·rw [if_neg c11] at H
         have c11b0 : (a0 == 18) = false := beq_eq_false_iff_ne.mpr c11
         have c11b1 : (a0 != 18) = true := bne_iff_ne.mpr c11
         replace H := Option.bind_eq_some_iff.mp H
         obtain ⟨t102, A130, H⟩ := H
         replace H : ((num_truth.f t102).bind fun t103 => (some t103)) = some r := H
         have A13 := Aside0.mk A130
         clear A130
         replace H := Option.bind_eq_some_iff.mp H
         obtain ⟨t103, A140, H⟩ := H
         replace H : (some t103) = some r := H
         have A14 := Aside0.mk A140
         clear A140
         obtain rfl := Option.some.inj H
         go_enter Tryd.func27, Tryd.ntmps27
         go_wp2_with (first | ((with_reducible refine gate_callee (f := 45) rfl ?_); refine goesL_ (some 50) rfl rfl Tryd.func45 (by kernel_rfl) rfl #[.int .i64 a0, .int .i64 a1, .int .i64 a2] rfl (by (try simp only [List.map_toArray, List.map_cons, List.map_nil]); first | done | rfl | (simp only [List.length_drop, List.length_take]; rfl)) ?_; (with_reducible refine (num_compare.calls a0 a1 a2 t102 _ A13.out).mono ?_); rintro e w' ⟨rfl, ⟨nd, rfl⟩⟩; refine ⟨_, rfl, ?_⟩) | ((with_reducible refine gate_callee (f := 44) rfl ?_); refine goesL_ (some 51) rfl rfl Tryd.func44 (by kernel_rfl) rfl #[.bool t102] rfl (by (try simp only [List.map_toArray, List.map_cons, List.map_nil]); first | done | rfl | (simp only [List.length_drop, List.length_take]; rfl)) ?_; (with_reducible refine (num_truth.calls t102 t103 _ A14.out).mono ?_); rintro e w' ⟨rfl, ⟨nd, rfl⟩⟩; refine ⟨_, rfl, ?_⟩))
         go_ret
         exact ⟨by first | rfl | (simp; done) | (simp [*]; done), by repeat (first | exact Drawn0.refl _ | apply Drawn0.step)⟩

end Go.Proofs.YtcmppjonpmgncaaDoor.Q

namespace Go.Proofs.YtcmppjonpmgncaaDoor.Q
open Go.RowKit Go.Proofs.YtcmppjonpmgncaaDoorW.PrintWords Go.Proofs.YtcmppjonpmgncaaDoorW.PrintLast Go.Proofs.YtcmppjonpmgncaaDoorW.PrintMore
attribute [local go_sem] max2_int min2_int max_two min_two max_three min_three max_four min_four   -- for this text's walks alone
set_option linter.unusedVariables false
set_option linter.unusedSimpArgs false

/-! ### num_Do: function 11 -/
mutual
def num_Do.j0 : Nat → Int → Int → Int → Bool → Option (Int × Int)
 | 0, _, _, _, _ => none
 | k + 1, x0, x1, x2, x8 => if x8 = true then (some (0, 9)) else (if x0 = 9 then (num_Do.j1 k x0 x1 x2 true) else (num_Do.j1 k x0 x1 x2 (x0 == 10)))
def num_Do.j1 : Nat → Int → Int → Int → Bool → Option (Int × Int)
 | 0, _, _, _, _ => none
 | k + 1, x0, x1, x2, x17 => if x17 = true then ((num_shift.f x0 x1 x2).bind fun bt106 => (some (bt106.1, bt106.2))) else (if x0 = 4 then (num_Do.j2 k x0 x1 x2 true) else (num_Do.j2 k x0 x1 x2 (x0 == 5)))
def num_Do.j2 : Nat → Int → Int → Int → Bool → Option (Int × Int)
 | 0, _, _, _, _ => none
 | k + 1, x0, x1, x2, x30 => if x30 = true then ((num_divide.f x0 x1 x2).bind fun bt108 => (some (bt108.1, bt108.2))) else ((num_plain.f x0 x1 x2).bind fun t110 => (some (t110, 0)))
end
def num_Do.f (k : Nat) (a0 : Int) (a1 : Int) (a2 : Int) : Option (Int × Int) := (num_IsBinary.f a0).bind fun t104 => (if t104 = true then (num_Do.j0 k a0 a1 a2 false) else ((num_IsUnary.f a0).bind fun t105 => (num_Do.j0 k a0 a1 a2 (!t105))))
theorem num_Do.mono_l : ∀ k, (∀ y0 y1 y2 y3, LeO (num_Do.j0 k y0 y1 y2 y3) (num_Do.j0 (k + 1) y0 y1 y2 y3)) ∧ (∀ y0 y1 y2 y3, LeO (num_Do.j1 k y0 y1 y2 y3) (num_Do.j1 (k + 1) y0 y1 y2 y3)) ∧ (∀ y0 y1 y2 y3, LeO (num_Do.j2 k y0 y1 y2 y3) (num_Do.j2 (k + 1) y0 y1 y2 y3))
 | 0 => ⟨fun _ _ _ _ r h => by simp [num_Do.j0] at h, fun _ _ _ _ r h => by simp [num_Do.j1] at h, fun _ _ _ _ r h => by simp [num_Do.j2] at h⟩
 | k + 1 => by
  obtain ⟨ih0, ih1, ih2⟩ := num_Do.mono_l k
  refine ⟨?_, ?_, ?_⟩
  ·intro y0 y1 y2 y3
   unfold num_Do.j0
   repeat' first
   | (with_reducible exact ih0 _ _ _ _)
   | (with_reducible exact ih1 _ _ _ _)
   | (with_reducible exact ih2 _ _ _ _)
   | (with_reducible exact LeO.refl _)
   | (with_reducible exact LeO.none _)
   | (with_reducible refine LeO.ite ?_ ?_)
   | (with_reducible refine LeO.bind ?_ (fun _ => ?_))
   | exact ih0 _ _ _ _
   | exact ih1 _ _ _ _
   | exact ih2 _ _ _ _
   | exact LeO.none _
   | refine LeO.ite ?_ ?_
   | refine LeO.bind ?_ (fun _ => ?_)
  ·intro y0 y1 y2 y3
   unfold num_Do.j1
   repeat' first
   | (with_reducible exact ih0 _ _ _ _)
   | (with_reducible exact ih1 _ _ _ _)
   | (with_reducible exact ih2 _ _ _ _)
   | (with_reducible exact LeO.refl _)
   | (with_reducible exact LeO.none _)
   | (with_reducible refine LeO.ite ?_ ?_)
   | (with_reducible refine LeO.bind ?_ (fun _ => ?_))
   | exact ih0 _ _ _ _
   | exact ih1 _ _ _ _
   | exact ih2 _ _ _ _
   | exact LeO.none _
   | refine LeO.ite ?_ ?_
   | refine LeO.bind ?_ (fun _ => ?_)
  ·intro y0 y1 y2 y3
   unfold num_Do.j2
   repeat' first
   | (with_reducible exact ih0 _ _ _ _)
   | (with_reducible exact ih1 _ _ _ _)
   | (with_reducible exact ih2 _ _ _ _)
   | (with_reducible exact LeO.refl _)
   | (with_reducible exact LeO.none _)
   | (with_reducible refine LeO.ite ?_ ?_)
   | (with_reducible refine LeO.bind ?_ (fun _ => ?_))
   | exact ih0 _ _ _ _
   | exact ih1 _ _ _ _
   | exact ih2 _ _ _ _
   | exact LeO.none _
   | refine LeO.ite ?_ ?_
   | refine LeO.bind ?_ (fun _ => ?_)
theorem num_Do.mono : ∀ a0 a1 a2 k, LeO (num_Do.f k a0 a1 a2) (num_Do.f (k + 1) a0 a1 a2) := by
 intro a0 a1 a2 k
 obtain ⟨ih0, ih1, ih2⟩ := num_Do.mono_l k
 unfold num_Do.f
 repeat' first
   | (with_reducible exact ih0 _ _ _ _)
   | (with_reducible exact ih1 _ _ _ _)
   | (with_reducible exact ih2 _ _ _ _)
   | (with_reducible exact LeO.refl _)
   | (with_reducible exact LeO.none _)
   | (with_reducible refine LeO.ite ?_ ?_)
   | (with_reducible refine LeO.bind ?_ (fun _ => ?_))
   | exact ih0 _ _ _ _
   | exact ih1 _ _ _ _
   | exact ih2 _ _ _ _
   | exact LeO.none _
   | refine LeO.ite ?_ ?_
   | refine LeO.bind ?_ (fun _ => ?_)
set_option maxHeartbeats 8000000 in
set_option maxRecDepth 100000 in
theorem num_Do.calls (k : Nat) (a0 : Int) (a1 : Int) (a2 : Int) (r1 : Int) (r2 : Int) (w : World) (h : num_Do.f k a0 a1 a2 = some (r1, r2)) :
  Calls Tryd.prog 11 #[.int .i64 a0, .int .i64 a1, .int .i64 a2] w fun e w' => e = .returned (.tuple #[.int .i64 r1, .int .i64 r2]) ∧ Below w.heap.size w w' := by
 have HB := Aside0.mk (Below.refl w.heap.size w)
 have H : ((num_IsBinary.f a0).bind fun t104 => (if t104 = true then (num_Do.j0 k a0 a1 a2 false) else ((num_IsUnary.f a0).bind fun t105 => (num_Do.j0 k a0 a1 a2 (!t105))))) = some (r1, r2) := h
 clear h
 have HC4 := Aside0.mk H
 clear H
 go_enter Tryd.func11, Tryd.ntmps11
 go_upto_region 1 with (fail)
 go_cut [8] (fun v8 wc => ∃ (kq : Nat) (x8_3 : Bool), v8 = .bool x8_3 ∧ Aside0 (num_Do.j0 kq a0 a1 a2 x8_3 = some (r1, r2)) ∧ Aside0 (kq ≤ k) ∧ Aside0 (Below w.heap.size w wc))
 case first =>
  have H := HC4.out
  clear HC4
  replace H := Option.bind_eq_some_iff.mp H
  obtain ⟨t104, A50, H⟩ := H
  replace H : (if t104 = true then (num_Do.j0 k a0 a1 a2 false) else ((num_IsUnary.f a0).bind fun t105 => (num_Do.j0 k a0 a1 a2 (!t105)))) = some (r1, r2) := H
  have A5 := Aside0.mk A50
  clear A50
  by_cases c6 : t104 = true
  ·subst c6
   have H1 : (num_Do.j0 k a0 a1 a2 false) = some (r1, r2) := by rw [if_pos rfl] at H; exact H
   clear H
   have H := H1
   clear H1
   have H' := Aside0.mk H
   clear H
   go_wp2_with (first | ((with_reducible refine gate_callee (f := 13) rfl ?_); refine goesL_ (some 10) rfl rfl Tryd.func13 (by kernel_rfl) rfl #[.int .i64 a0] rfl (by (try simp only [List.map_toArray, List.map_cons, List.map_nil]); first | done | rfl | (simp only [List.length_drop, List.length_take]; rfl)) ?_; (with_reducible refine (num_IsBinary.calls a0 true _ A5.out).mono ?_); rintro e w' ⟨rfl, ⟨nd, rfl⟩⟩; refine ⟨_, rfl, ?_⟩))
   go_meet
   case rel => exact ⟨_, (false), (by first | rfl | (simp; done) | (simp [*]; done)), H', ⟨by first | omega | exact Nat.le_refl _⟩, ⟨by repeat (first | (with_reducible first | exact HB.out | apply below_alloc | apply pw_below_drewN | apply below_drew1) | exact HB.out)⟩⟩
  ·replace c6 := Bool.eq_false_iff.mpr c6
   subst c6
   have H1 : ((num_IsUnary.f a0).bind fun t105 => (num_Do.j0 k a0 a1 a2 (!t105))) = some (r1, r2) := by rw [if_neg (show ¬ (false = true) by decide)] at H; exact H
   clear H
   have H := H1
   clear H1
   replace H := Option.bind_eq_some_iff.mp H
   obtain ⟨t105, A70, H⟩ := H
   replace H : (num_Do.j0 k a0 a1 a2 (!t105)) = some (r1, r2) := H
   have A7 := Aside0.mk A70
   clear A70
   have H' := Aside0.mk H
   clear H
   go_wp2_with (first | ((with_reducible refine gate_callee (f := 13) rfl ?_); refine goesL_ (some 10) rfl rfl Tryd.func13 (by kernel_rfl) rfl #[.int .i64 a0] rfl (by (try simp only [List.map_toArray, List.map_cons, List.map_nil]); first | done | rfl | (simp only [List.length_drop, List.length_take]; rfl)) ?_; (with_reducible refine (num_IsBinary.calls a0 false _ A5.out).mono ?_); rintro e w' ⟨rfl, ⟨nd, rfl⟩⟩; refine ⟨_, rfl, ?_⟩) | (go_at_call 14; (with_reducible refine (num_IsUnary.calls a0 t105 _ A7.out).mono ?_); rintro e w' ⟨rfl, ⟨nd, rfl⟩⟩))
   go_meet
   case rel => exact ⟨_, (!t105), (by first | rfl | (simp; done) | (simp [*]; done)), H', ⟨by first | omega | exact Nat.le_refl _⟩, ⟨by repeat (first | (with_reducible first | exact HB.out | apply below_alloc | apply pw_below_drewN | apply below_drew1) | exact HB.out)⟩⟩
 case rest =>
  clear HC4
  try clear c1
  try clear p2
  try clear c6
  obtain ⟨kq, x8_3, rfl, HA, HJ3, HB⟩ := hcut
  cases kq with
  | zero => exact absurd HA.out (by simp [num_Do.j0])
  | succ kj3 =>
   have H := HA.out
   clear HA
   simp only [num_Do.j0] at H
   by_cases c8 : x8_3 = true
   ·subst c8
    have H1 : (some (0, 9)) = some (r1, r2) := by rw [if_pos rfl] at H; exact H
    clear H
    have H := H1
    clear H1
    simp only [Option.some.injEq, Prod.mk.injEq] at H
    obtain ⟨rfl, rfl⟩ := H
    go_wp2
    go_ret2
    exact ⟨by first | rfl | (simp [errW_none, errW_some] <;> rfl) | (simp [*, errW_none, errW_some] <;> rfl), by repeat (first | (with_reducible first | exact HB.out | apply below_alloc | apply pw_below_drewN | apply below_drew1) | exact HB.out)⟩
   ·replace c8 := Bool.eq_false_iff.mpr c8
    subst c8
    have H1 : (if a0 = 9 then (num_Do.j1 kj3 a0 a1 a2 true) else (num_Do.j1 kj3 a0 a1 a2 (a0 == 10))) = some (r1, r2) := by rw [if_neg (show ¬ (false = true) by decide)] at H; exact H
    clear H
    have H := H1
    clear H1
    have HC9 := Aside0.mk H
    clear H
    go_upto_region 3 with (fail)
    go_cut [17] (fun v17 wc => ∃ (kq : Nat) (x17_8 : Bool), v17 = .bool x17_8 ∧ Aside0 (num_Do.j1 kq a0 a1 a2 x17_8 = some (r1, r2)) ∧ Aside0 (kq ≤ kj3) ∧ Aside0 (Below w.heap.size w wc))
    case first =>
     have H := HC9.out
     clear HC9
     by_cases c10 : a0 = 9
     ·rw [if_pos c10] at H
      have c10b0 : (a0 == 9) = true := beq_iff_eq.mpr c10
      have c10b1 : (a0 != 9) = false := bne_eq_false_iff_eq.mpr c10
      clear c10
      (first | rw [c10b0] | (simp only [i64_w, i32_w]; rw [c10b0]) | skip)
      have H' := Aside0.mk H
      clear H
      go_wp2
      go_meet
      case rel => exact ⟨_, (true), (by first | rfl | (simp; done) | (simp [*]; done)), H', ⟨by have := HJ3.out; first | omega | exact Nat.le_refl _⟩, ⟨by repeat (first | (with_reducible first | exact HB.out | apply below_alloc | apply pw_below_drewN | apply below_drew1) | exact HB.out)⟩⟩
     ·rw [if_neg c10] at H
      have c10b0 : (a0 == 9) = false := beq_eq_false_iff_ne.mpr c10
      have c10b1 : (a0 != 9) = true := bne_iff_ne.mpr c10
      (first | rw [c10b0] | (simp only [i64_w, i32_w]; rw [c10b0]) | skip)
      have H' := Aside0.mk H
      clear H
      go_wp2
      go_meet
      case rel => exact ⟨_, ((a0 == 10)), (by first | rfl | (simp; done) | (simp [*]; done)), H', ⟨by have := HJ3.out; first | omega | exact Nat.le_refl _⟩, ⟨by repeat (first | (with_reducible first | exact HB.out | apply below_alloc | apply pw_below_drewN | apply below_drew1) | exact HB.out)⟩⟩
    case rest =>
     clear HC9
     try clear c1
     try clear p2
     try clear c6
     try clear c8
     try clear c10
     try clear c10b0
     try clear c10b1
     try clear p2
     obtain ⟨kq, x17_8, rfl, HA, HJ8, HB⟩ := hcut
     cases kq with
     | zero => exact absurd HA.out (by simp [num_Do.j1])
     | succ kj8 =>
      have H := HA.out
      clear HA
      simp only [num_Do.j1] at H
      by_cases c11 : x17_8 = true
      ·subst c11
       have H1 : ((num_shift.f a0 a1 a2).bind fun bt106 => (some (bt106.1, bt106.2))) = some (r1, r2) := by rw [if_pos rfl] at H; exact H
       clear H
       have H := H1
       clear H1
       replace H := Option.bind_eq_some_iff.mp H
       obtain ⟨⟨t106, t107⟩, A120, H⟩ := H
       replace H : (some (t106, t107)) = some (r1, r2) := H
       have A12 := Aside0.mk A120
       clear A120
       simp only [Option.some.injEq, Prod.mk.injEq] at H
       obtain ⟨rfl, rfl⟩ := H
       go_wp2_with (first | ((with_reducible refine gate_callee (f := 25) rfl ?_); refine goesL_ (some 27) rfl rfl Tryd.func25 (by kernel_rfl) rfl #[.int .i64 a0, .int .i64 a1, .int .i64 a2] rfl (by (try simp only [List.map_toArray, List.map_cons, List.map_nil]); first | done | rfl | (simp only [List.length_drop, List.length_take]; rfl)) ?_; (with_reducible refine (num_shift.calls a0 a1 a2 t106 t107 _ A12.out).mono ?_); rintro e w13 ⟨rfl, hb⟩; refine ⟨_, rfl, ?_⟩; have n0_ := Aside0.mk (below_step (by repeat (first | (with_reducible first | exact HB.out | apply below_alloc | apply pw_below_drewN | apply below_drew1) | exact HB.out)) hb); clear HB; have HB := n0_; clear n0_; (try clear hb); (try clear hb2); (try clear hk); (try clear hi)))
       go_ret2
       exact ⟨by first | rfl | (simp [errW_none, errW_some] <;> rfl) | (simp [*, errW_none, errW_some] <;> rfl), by repeat (first | (with_reducible first | exact HB.out | apply below_alloc | apply pw_below_drewN | apply below_drew1) | exact HB.out)⟩
      ·replace c11 := Bool.eq_false_iff.mpr c11
       subst c11
       have H1 : (if a0 = 4 then (num_Do.j2 kj8 a0 a1 a2 true) else (num_Do.j2 kj8 a0 a1 a2 (a0 == 5))) = some (r1, r2) := by rw [if_neg (show ¬ (false = true) by decide)] at H; exact H
       clear H
       have H := H1
       clear H1
       have HC14 := Aside0.mk H
       clear H
       go_upto_region 5 with (fail)
       go_cut [30] (fun v30 wc => ∃ (kq : Nat) (x30_13 : Bool), v30 = .bool x30_13 ∧ Aside0 (num_Do.j2 kq a0 a1 a2 x30_13 = some (r1, r2)) ∧ Aside0 (kq ≤ kj8) ∧ Aside0 (Below w.heap.size w wc))
       case first =>
        have H := HC14.out
        clear HC14
        by_cases c15 : a0 = 4
        ·rw [if_pos c15] at H
         have c15b0 : (a0 == 4) = true := beq_iff_eq.mpr c15
         have c15b1 : (a0 != 4) = false := bne_eq_false_iff_eq.mpr c15
         clear c15
         (first | rw [c15b0] | (simp only [i64_w, i32_w]; rw [c15b0]) | skip)
         have H' := Aside0.mk H
         clear H
         go_wp2
         go_meet
         case rel => exact ⟨_, (true), (by first | rfl | (simp; done) | (simp [*]; done)), H', ⟨by have := HJ3.out; have := HJ8.out; first | omega | exact Nat.le_refl _⟩, ⟨by repeat (first | (with_reducible first | exact HB.out | apply below_alloc | apply pw_below_drewN | apply below_drew1) | exact HB.out)⟩⟩
        ·rw [if_neg c15] at H
         have c15b0 : (a0 == 4) = false := beq_eq_false_iff_ne.mpr c15
         have c15b1 : (a0 != 4) = true := bne_iff_ne.mpr c15
         (first | rw [c15b0] | (simp only [i64_w, i32_w]; rw [c15b0]) | skip)
         have H' := Aside0.mk H
         clear H
         go_wp2
         go_meet
         case rel => exact ⟨_, ((a0 == 5)), (by first | rfl | (simp; done) | (simp [*]; done)), H', ⟨by have := HJ3.out; have := HJ8.out; first | omega | exact Nat.le_refl _⟩, ⟨by repeat (first | (with_reducible first | exact HB.out | apply below_alloc | apply pw_below_drewN | apply below_drew1) | exact HB.out)⟩⟩
       case rest =>
        clear HC14
        try clear c1
        try clear c2
        try clear p2
        try clear c6
        try clear c8
        try clear c10
        try clear c10b0
        try clear c10b1
        try clear c11
        try clear c13
        try clear c15
        try clear c15b0
        try clear c15b1
        try clear p2
        obtain ⟨kq, x30_13, rfl, HA, HJ13, HB⟩ := hcut
        cases kq with
        | zero => exact absurd HA.out (by simp [num_Do.j2])
        | succ kj13 =>
         have H := HA.out
         clear HA
         simp only [num_Do.j2] at H
         by_cases c16 : x30_13 = true
         ·subst c16
          have H1 : ((num_divide.f a0 a1 a2).bind fun bt108 => (some (bt108.1, bt108.2))) = some (r1, r2) := by rw [if_pos rfl] at H; exact H
          clear H
          have H := H1
          clear H1
          replace H := Option.bind_eq_some_iff.mp H
          obtain ⟨⟨t108, t109⟩, A170, H⟩ := H
          replace H : (some (t108, t109)) = some (r1, r2) := H
          have A17 := Aside0.mk A170
          clear A170
          simp only [Option.some.injEq, Prod.mk.injEq] at H
          obtain ⟨rfl, rfl⟩ := H
          go_wp2_with (first | ((with_reducible refine gate_callee (f := 26) rfl ?_); refine goesL_ (some 40) rfl rfl Tryd.func26 (by kernel_rfl) rfl #[.int .i64 a0, .int .i64 a1, .int .i64 a2] rfl (by (try simp only [List.map_toArray, List.map_cons, List.map_nil]); first | done | rfl | (simp only [List.length_drop, List.length_take]; rfl)) ?_; (with_reducible refine (num_divide.calls a0 a1 a2 t108 t109 _ A17.out).mono ?_); rintro e w' ⟨rfl, ⟨nd, rfl⟩⟩; refine ⟨_, rfl, ?_⟩))
          go_ret2
          exact ⟨by first | rfl | (simp [errW_none, errW_some] <;> rfl) | (simp [*, errW_none, errW_some] <;> rfl), by repeat (first | (with_reducible first | exact HB.out | apply below_alloc | apply pw_below_drewN | apply below_drew1) | exact HB.out)⟩
         ·replace c16 := Bool.eq_false_iff.mpr c16
          subst c16
          have H1 : ((num_plain.f a0 a1 a2).bind fun t110 => (some (t110, 0))) = some (r1, r2) := by rw [if_neg (show ¬ (false = true) by decide)] at H; exact H
          clear H
          have H := H1
          clear H1
          replace H := Option.bind_eq_some_iff.mp H
          obtain ⟨t110, A180, H⟩ := H
          replace H : (some (t110, 0)) = some (r1, r2) := H
          have A18 := Aside0.mk A180
          clear A180
          simp only [Option.some.injEq, Prod.mk.injEq] at H
          obtain ⟨rfl, rfl⟩ := H
          go_wp2_with (first | ((with_reducible refine gate_callee (f := 27) rfl ?_); refine goesL_ (some 46) rfl rfl Tryd.func27 (by kernel_rfl) rfl #[.int .i64 a0, .int .i64 a1, .int .i64 a2] rfl (by (try simp only [List.map_toArray, List.map_cons, List.map_nil]); first | done | rfl | (simp only [List.length_drop, List.length_take]; rfl)) ?_; (with_reducible refine (num_plain.calls a0 a1 a2 t110 _ A18.out).mono ?_); rintro e w' ⟨rfl, ⟨nd, rfl⟩⟩; refine ⟨_, rfl, ?_⟩))
          go_ret2
          exact ⟨by first | rfl | (simp [errW_none, errW_some] <;> rfl) | (simp [*, errW_none, errW_some] <;> rfl), by repeat (first | (with_reducible first | exact HB.out | apply below_alloc | apply pw_below_drewN | apply below_drew1) | exact HB.out)⟩

end Go.Proofs.YtcmppjonpmgncaaDoor.Q

namespace Go.Proofs.YtcmppjonpmgncaaDoor.Q
open Go.RowKit Go.Proofs.YtcmppjonpmgncaaDoorW.PrintWords Go.Proofs.YtcmppjonpmgncaaDoorW.PrintLast Go.Proofs.YtcmppjonpmgncaaDoorW.PrintMore
attribute [local go_sem] max2_int min2_int max_two min_two max_three min_three max_four min_four   -- for this text's walks alone
set_option linter.unusedVariables false
set_option linter.unusedSimpArgs false

/-! ### num_Swap: function 24 -/
mutual
def num_Swap.j0 : Nat → Int → Int → Bool → Option (Int)
 | 0, _, _, _ => none
 | k + 1, x0, x3, x4 => if x4 = true then (some x0) else (if x3 = 13 then (num_Swap.j1 k x0 x3 (x3 == 13)) else (num_Swap.j1 k x0 x3 (x3 == 15)))
def num_Swap.j1 : Nat → Int → Int → Bool → Option (Int)
 | 0, _, _, _ => none
 | k + 1, x0, x3, x13 => if x13 = true then (some (wrap64 (28 - x0))) else (if x3 = 14 then (some (wrap64 (30 - x0))) else (if x3 = 16 then (some (wrap64 (30 - x0))) else (some 0)))
end
def num_Swap.f (k : Nat) (a0 : Int) : Option (Int) := if a0 = 1 then (num_Swap.j0 k a0 a0 (a0 == 1)) else (if a0 = 3 then (num_Swap.j0 k a0 a0 (a0 == 3)) else (if a0 = 6 then (num_Swap.j0 k a0 a0 (a0 == 6)) else (if a0 = 7 then (num_Swap.j0 k a0 a0 (a0 == 7)) else (if a0 = 8 then (num_Swap.j0 k a0 a0 (a0 == 8)) else (if a0 = 11 then (num_Swap.j0 k a0 a0 (a0 == 11)) else (num_Swap.j0 k a0 a0 (a0 == 12)))))))
theorem num_Swap.mono_l : ∀ k, (∀ y0 y1 y2, LeO (num_Swap.j0 k y0 y1 y2) (num_Swap.j0 (k + 1) y0 y1 y2)) ∧ (∀ y0 y1 y2, LeO (num_Swap.j1 k y0 y1 y2) (num_Swap.j1 (k + 1) y0 y1 y2))
 | 0 => ⟨fun _ _ _ r h => by simp [num_Swap.j0] at h, fun _ _ _ r h => by simp [num_Swap.j1] at h⟩
 | k + 1 => by
  obtain ⟨ih0, ih1⟩ := num_Swap.mono_l k
  refine ⟨?_, ?_⟩
  ·intro y0 y1 y2
   unfold num_Swap.j0
   repeat' first
   | (with_reducible exact ih0 _ _ _)
   | (with_reducible exact ih1 _ _ _)
   | (with_reducible exact LeO.refl _)
   | (with_reducible exact LeO.none _)
   | (with_reducible refine LeO.ite ?_ ?_)
   | (with_reducible refine LeO.bind ?_ (fun _ => ?_))
   | exact ih0 _ _ _
   | exact ih1 _ _ _
   | exact LeO.none _
   | refine LeO.ite ?_ ?_
   | refine LeO.bind ?_ (fun _ => ?_)
  ·intro y0 y1 y2
   unfold num_Swap.j1
   repeat' first
   | (with_reducible exact ih0 _ _ _)
   | (with_reducible exact ih1 _ _ _)
   | (with_reducible exact LeO.refl _)
   | (with_reducible exact LeO.none _)
   | (with_reducible refine LeO.ite ?_ ?_)
   | (with_reducible refine LeO.bind ?_ (fun _ => ?_))
   | exact ih0 _ _ _
   | exact ih1 _ _ _
   | exact LeO.none _
   | refine LeO.ite ?_ ?_
   | refine LeO.bind ?_ (fun _ => ?_)
theorem num_Swap.mono : ∀ a0 k, LeO (num_Swap.f k a0) (num_Swap.f (k + 1) a0) := by
 intro a0 k
 obtain ⟨ih0, ih1⟩ := num_Swap.mono_l k
 unfold num_Swap.f
 repeat' first
   | (with_reducible exact ih0 _ _ _)
   | (with_reducible exact ih1 _ _ _)
   | (with_reducible exact LeO.refl _)
   | (with_reducible exact LeO.none _)
   | (with_reducible refine LeO.ite ?_ ?_)
   | (with_reducible refine LeO.bind ?_ (fun _ => ?_))
   | exact ih0 _ _ _
   | exact ih1 _ _ _
   | exact LeO.none _
   | refine LeO.ite ?_ ?_
   | refine LeO.bind ?_ (fun _ => ?_)
set_option maxHeartbeats 8000000 in
set_option maxRecDepth 100000 in
theorem num_Swap.calls (k : Nat) (a0 : Int) (r : Int) (w : World) (h : num_Swap.f k a0 = some r) :
  Calls Tryd.prog 24 #[.int .i64 a0] w fun e w' => e = .returned (.int .i64 r) ∧ Drawn0 w w' := by
 have H : (if a0 = 1 then (num_Swap.j0 k a0 a0 (a0 == 1)) else (if a0 = 3 then (num_Swap.j0 k a0 a0 (a0 == 3)) else (if a0 = 6 then (num_Swap.j0 k a0 a0 (a0 == 6)) else (if a0 = 7 then (num_Swap.j0 k a0 a0 (a0 == 7)) else (if a0 = 8 then (num_Swap.j0 k a0 a0 (a0 == 8)) else (if a0 = 11 then (num_Swap.j0 k a0 a0 (a0 == 11)) else (num_Swap.j0 k a0 a0 (a0 == 12)))))))) = some r := h
 clear h
 have HC2 := Aside0.mk H
 clear H
 go_enter Tryd.func24, Tryd.ntmps24
 go_upto_if 4 with (fail)
 go_cut [4] (fun v4 wc => ∃ (kq : Nat) (x4_1 : Bool), v4 = .bool x4_1 ∧ Aside0 (num_Swap.j0 kq a0 a0 x4_1 = some r) ∧ Aside0 (kq ≤ k) ∧ Drawn0 w wc)
 case first =>
  have H := HC2.out
  clear HC2
  by_cases c3 : a0 = 1
  ·rw [if_pos c3] at H
   have c3b0 : (a0 == 1) = true := beq_iff_eq.mpr c3
   have c3b1 : (a0 != 1) = false := bne_eq_false_iff_eq.mpr c3
   clear c3
   (first | rw [c3b0] | (simp only [i64_w, i32_w]; rw [c3b0]) | skip)
   have H' := Aside0.mk H
   clear H
   go_wp2
   go_meet
   case rel => exact ⟨_, ((a0 == 1)), (by first | rfl | (simp; done) | (simp [*]; done)), H', ⟨by first | omega | exact Nat.le_refl _⟩, by repeat (first | exact Drawn0.refl _ | apply Drawn0.step)⟩
  ·rw [if_neg c3] at H
   have c3b0 : (a0 == 1) = false := beq_eq_false_iff_ne.mpr c3
   have c3b1 : (a0 != 1) = true := bne_iff_ne.mpr c3
   (first | rw [c3b0] | (simp only [i64_w, i32_w]; rw [c3b0]) | skip)
   by_cases c4 : a0 = 3
   ·rw [if_pos c4] at H
    have c4b0 : (a0 == 3) = true := beq_iff_eq.mpr c4
    have c4b1 : (a0 != 3) = false := bne_eq_false_iff_eq.mpr c4
    clear c4
    have H' := Aside0.mk H
    clear H
    go_wp2
    go_meet
    case rel => exact ⟨_, ((a0 == 3)), (by first | rfl | (simp; done) | (simp [*]; done)), H', ⟨by first | omega | exact Nat.le_refl _⟩, by repeat (first | exact Drawn0.refl _ | apply Drawn0.step)⟩
   ·rw [if_neg c4] at H
    have c4b0 : (a0 == 3) = false := beq_eq_false_iff_ne.mpr c4
    have c4b1 : (a0 != 3) = true := bne_iff_ne.mpr c4
    by_cases c5 : a0 = 6
    ·rw [if_pos c5] at H
     have c5b0 : (a0 == 6) = true := beq_iff_eq.mpr c5
     have c5b1 : (a0 != 6) = false := bne_eq_false_iff_eq.mpr c5
     clear c5
     have H' := Aside0.mk H
     clear H
     go_wp2
     go_meet
     case rel => exact ⟨_, ((a0 == 6)), (by first | rfl | (simp; done) | (simp [*]; done)), H', ⟨by first | omega | exact Nat.le_refl _⟩, by repeat (first | exact Drawn0.refl _ | apply Drawn0.step)⟩
    ·rw [if_neg c5] at H
     have c5b0 : (a0 == 6) = false := beq_eq_false_iff_ne.mpr c5
     have c5b1 : (a0 != 6) = true := bne_iff_ne.mpr c5
     by_cases c6 : a0 = 7
     ·rw [if_pos c6] at H
      have c6b0 : (a0 == 7) = true := beq_iff_eq.mpr c6
      have c6b1 : (a0 != 7) = false := bne_eq_false_iff_eq.mpr c6
      clear c6
      have H' := Aside0.mk H
      clear H
      go_wp2
      go_meet
      case rel => exact ⟨_, ((a0 == 7)), (by first | rfl | (simp; done) | (simp [*]; done)), H', ⟨by first | omega | exact Nat.le_refl _⟩, by repeat (first | exact Drawn0.refl _ | apply Drawn0.step)⟩
     ·rw [if_neg c6] at H
      have c6b0 : (a0 == 7) = false := beq_eq_false_iff_ne.mpr c6
      have c6b1 : (a0 != 7) = true := bne_iff_ne.mpr c6
      by_cases c7 : a0 = 8
      ·rw [if_pos c7] at H
       have c7b0 : (a0 == 8) = true := beq_iff_eq.mpr c7
       have c7b1 : (a0 != 8) = false := bne_eq_false_iff_eq.mpr c7
       clear c7
       have H' := Aside0.mk H
       clear H
       go_wp2
       go_meet
       case rel => exact ⟨_, ((a0 == 8)), (by first | rfl | (simp; done) | (simp [*]; done)), H', ⟨by first | omega | exact Nat.le_refl _⟩, by repeat (first | exact Drawn0.refl _ | apply Drawn0.step)⟩
      ·rw [if_neg c7] at H
       have c7b0 : (a0 == 8) = false := beq_eq_false_iff_ne.mpr c7
       have c7b1 : (a0 != 8) = true := bne_iff_ne.mpr c7
       by_cases c8 : a0 = 11
       ·rw [if_pos c8] at H
        have c8b0 : (a0 == 11) = true := beq_iff_eq.mpr c8
        have c8b1 : (a0 != 11) = false := bne_eq_false_iff_eq.mpr c8
        clear c8
        have H' := Aside0.mk H
        clear H
        go_wp2
        go_meet
        case rel => exact ⟨_, ((a0 == 11)), (by first | rfl | (simp; done) | (simp [*]; done)), H', ⟨by first | omega | exact Nat.le_refl _⟩, by repeat (first | exact Drawn0.refl _ | apply Drawn0.step)⟩
       ·rw [if_neg c8] at H
        have c8b0 : (a0 == 11) = false := beq_eq_false_iff_ne.mpr c8
        have c8b1 : (a0 != 11) = true := bne_iff_ne.mpr c8
        have H' := Aside0.mk H
        clear H
        go_wp2
        go_meet
        case rel => exact ⟨_, ((a0 == 12)), (by first | rfl | (simp; done) | (simp [*]; done)), H', ⟨by first | omega | exact Nat.le_refl _⟩, by repeat (first | exact Drawn0.refl _ | apply Drawn0.step)⟩
 case rest =>
  clear HC2
  try clear c2
  try clear p2
  try clear c3
  try clear c3b0
  try clear c3b1
  try clear c4
  try clear c4b0
  try clear c4b1
  try clear c5
  try clear c5b0
  try clear c5b1
  try clear c6
  try clear c6b0
  try clear c6b1
  try clear c7
  try clear c7b0
  try clear c7b1
  try clear c8
  try clear c8b0
  try clear c8b1
  obtain ⟨kq, x4_1, rfl, HA, HJ1, ⟨mc1, rfl⟩⟩ := hcut
  cases kq with
  | zero => exact absurd HA.out (by simp [num_Swap.j0])
  | succ kj1 =>
   have H := HA.out
   clear HA
   simp only [num_Swap.j0] at H
   by_cases c9 : x4_1 = true
   ·subst c9
    have H1 : (some a0) = some r := by rw [if_pos rfl] at H; exact H
    clear H
    have H := H1
    clear H1
    obtain rfl := Option.some.inj H
    go_wp2
    go_ret
    exact ⟨by first | rfl | (simp; done) | (simp [*]; done), by repeat (first | exact Drawn0.refl _ | apply Drawn0.step)⟩
   ·replace c9 := Bool.eq_false_iff.mpr c9
    subst c9
    have H1 : (if a0 = 13 then (num_Swap.j1 kj1 a0 a0 (a0 == 13)) else (num_Swap.j1 kj1 a0 a0 (a0 == 15))) = some r := by rw [if_neg (show ¬ (false = true) by decide)] at H; exact H
    clear H
    have H := H1
    clear H1
    have HC10 := Aside0.mk H
    clear H
    go_upto_if 13 with (fail)
    go_cut [13] (fun v13 wc => ∃ (kq : Nat) (x13_9 : Bool), v13 = .bool x13_9 ∧ Aside0 (num_Swap.j1 kq a0 a0 x13_9 = some r) ∧ Aside0 (kq ≤ kj1) ∧ Drawn0 w wc)
    case first =>
     have H := HC10.out
     clear HC10
     by_cases c11 : a0 = 13
     ·rw [if_pos c11] at H
      have c11b0 : (a0 == 13) = true := beq_iff_eq.mpr c11
      have c11b1 : (a0 != 13) = false := bne_eq_false_iff_eq.mpr c11
      clear c11
      (first | rw [c11b0] | (simp only [i64_w, i32_w]; rw [c11b0]) | skip)
      have H' := Aside0.mk H
      clear H
      go_wp2
      go_meet
      case rel => exact ⟨_, ((a0 == 13)), (by first | rfl | (simp; done) | (simp [*]; done)), H', ⟨by have := HJ1.out; first | omega | exact Nat.le_refl _⟩, by repeat (first | exact Drawn0.refl _ | apply Drawn0.step)⟩
     ·rw [if_neg c11] at H
      have c11b0 : (a0 == 13) = false := beq_eq_false_iff_ne.mpr c11
      have c11b1 : (a0 != 13) = true := bne_iff_ne.mpr c11
      (first | rw [c11b0] | (simp only [i64_w, i32_w]; rw [c11b0]) | skip)
      have H' := Aside0.mk H
      clear H
      go_wp2
      go_meet
      case rel => exact ⟨_, ((a0 == 15)), (by first | rfl | (simp; done) | (simp [*]; done)), H', ⟨by have := HJ1.out; first | omega | exact Nat.le_refl _⟩, by repeat (first | exact Drawn0.refl _ | apply Drawn0.step)⟩
    case rest =>
     clear HC10
     try clear c1
     try clear c2
     try clear p2
     try clear c3
     try clear c3b0
     try clear c3b1
     try clear c4
     try clear c4b0
     try clear c4b1
     try clear c5
     try clear c5b0
     try clear c5b1
     try clear c6
     try clear c6b0
     try clear c6b1
     try clear c7
     try clear c7b0
     try clear c7b1
     try clear c8
     try clear c8b0
     try clear c8b1
     try clear c9
     try clear c11
     try clear c11b0
     try clear c11b1
     try clear p2
     obtain ⟨kq, x13_9, rfl, HA, HJ9, ⟨mc9, rfl⟩⟩ := hcut
     cases kq with
     | zero => exact absurd HA.out (by simp [num_Swap.j1])
     | succ kj9 =>
      have H := HA.out
      clear HA
      simp only [num_Swap.j1] at H
      by_cases c12 : x13_9 = true
      ·subst c12
       have H1 : (some (wrap64 (28 - a0))) = some r := by rw [if_pos rfl] at H; exact H
       clear H
       have H := H1
       clear H1
       obtain rfl := Option.some.inj H
       go_wp2
       go_ret
       exact ⟨by first | rfl | (simp; done) | (simp [*]; done), by repeat (first | exact Drawn0.refl _ | apply Drawn0.step)⟩
      ·replace c12 := Bool.eq_false_iff.mpr c12
       subst c12
       have H1 : (if a0 = 14 then (some (wrap64 (30 - a0))) else (if a0 = 16 then (some (wrap64 (30 - a0))) else (some 0))) = some r := by rw [if_neg (show ¬ (false = true) by decide)] at H; exact H
       clear H
       have H := H1
       clear H1
       by_cases c13 : a0 = 14
       ·rw [if_pos c13] at H
        have c13b0 : (a0 == 14) = true := beq_iff_eq.mpr c13
        have c13b1 : (a0 != 14) = false := bne_eq_false_iff_eq.mpr c13
        clear c13
        obtain rfl := Option.some.inj H
        go_wp2
        go_ret
        exact ⟨by first | rfl | (simp; done) | (simp [*]; done), by repeat (first | exact Drawn0.refl _ | apply Drawn0.step)⟩
       ·rw [if_neg c13] at H
        have c13b0 : (a0 == 14) = false := beq_eq_false_iff_ne.mpr c13
        have c13b1 : (a0 != 14) = true := bne_iff_ne.mpr c13
        by_cases c14 : a0 = 16
        ·rw [if_pos c14] at H
         have c14b0 : (a0 == 16) = true := beq_iff_eq.mpr c14
         have c14b1 : (a0 != 16) = false := bne_eq_false_iff_eq.mpr c14
         clear c14
         obtain rfl := Option.some.inj H
         go_wp2
         go_ret
         exact ⟨by first | rfl | (simp; done) | (simp [*]; done), by repeat (first | exact Drawn0.refl _ | apply Drawn0.step)⟩
        ·rw [if_neg c14] at H
         have c14b0 : (a0 == 16) = false := beq_eq_false_iff_ne.mpr c14
         have c14b1 : (a0 != 16) = true := bne_iff_ne.mpr c14
         obtain rfl := Option.some.inj H
         go_wp2
         go_ret
         exact ⟨by first | rfl | (simp; done) | (simp [*]; done), by repeat (first | exact Drawn0.refl _ | apply Drawn0.step)⟩

end Go.Proofs.YtcmppjonpmgncaaDoor.Q

namespace Go.Proofs.YtcmppjonpmgncaaDoor.Q
open Go.RowKit Go.Proofs.YtcmppjonpmgncaaDoorW.PrintWords Go.Proofs.YtcmppjonpmgncaaDoorW.PrintLast Go.Proofs.YtcmppjonpmgncaaDoorW.PrintMore
attribute [local go_sem] max2_int min2_int max_two min_two max_three min_three max_four min_four   -- for this text's walks alone
set_option linter.unusedVariables false
set_option linter.unusedSimpArgs false

/-! ### stringslite_HasPrefix: function 52 -/
def stringslite_HasPrefix.f (a0 : ByteArray) (a1 : ByteArray) : Option (Bool) := if (a0.size : Int) ≥ (a1.size : Int) then (if 0 ≤ (a1.size : Int) then (if (a1.size : Int) ≤ (a0.size : Int) then (some ((a0.extract 0 ((a1.size : Int) : Int).toNat).toList == a1.toList)) else (none)) else (none)) else (some false)
set_option maxHeartbeats 8000000 in
set_option maxRecDepth 100000 in
theorem stringslite_HasPrefix.calls (a0 : ByteArray) (a1 : ByteArray) (r : Bool) (w : World) (h : stringslite_HasPrefix.f a0 a1 = some r) :
  Calls Tryd.prog 52 #[.string a0, .string a1] w fun e w' => e = .returned (.bool r) ∧ Drawn0 w w' := by
 have H : (if (a0.size : Int) ≥ (a1.size : Int) then (if 0 ≤ (a1.size : Int) then (if (a1.size : Int) ≤ (a0.size : Int) then (some ((a0.extract 0 ((a1.size : Int) : Int).toNat).toList == a1.toList)) else (none)) else (none)) else (some false)) = some r := h
 clear h
 by_cases c3 : (a0.size : Int) ≥ (a1.size : Int)
 ·rw [if_pos c3] at H
  have c3b0 : decide ((a1.size : Int) ≤ (a0.size : Int)) = true := decide_eq_true c3
  have c3b1 : decide (a1.size ≤ a0.size) = true := decide_eq_true (Int.ofNat_le.mp c3)
  clear c3
  by_cases c4 : 0 ≤ (a1.size : Int)
  ·rw [if_pos c4] at H
   have c4b0 := eq_true c4
   have c4b1 : decide (0 ≤ (a1.size : Int)) = true := decide_eq_true c4
   clear c4
   by_cases c5 : (a1.size : Int) ≤ (a0.size : Int)
   ·rw [if_pos c5] at H
    have c5b0 := eq_true c5
    have c5b1 : decide ((a1.size : Int) ≤ (a0.size : Int)) = true := decide_eq_true c5
    clear c5
    obtain rfl := Option.some.inj H
    go_enter Tryd.func52, Tryd.ntmps52
    go_wp2
    go_ret
    exact ⟨by first | rfl | (simp; done) | (simp [*]; done), by repeat (first | exact Drawn0.refl _ | apply Drawn0.step)⟩
   ·rw [if_neg c5] at H
    exact absurd H (by simp)
  ·rw [if_neg c4] at H
   exact absurd H (by simp)
 ·rw [if_neg c3] at H
  have c3b0 : decide ((a1.size : Int) ≤ (a0.size : Int)) = false := decide_eq_false c3
  have c3b1 : decide (a1.size ≤ a0.size) = false := decide_eq_false (fun h => c3 (Int.ofNat_le.mpr h))
  clear c3
  obtain rfl := Option.some.inj H
  go_enter Tryd.func52, Tryd.ntmps52
  go_wp2
  go_ret
  exact ⟨by first | rfl | (simp; done) | (simp [*]; done), by repeat (first | exact Drawn0.refl _ | apply Drawn0.step)⟩

end Go.Proofs.YtcmppjonpmgncaaDoor.Q

namespace Go.Proofs.YtcmppjonpmgncaaDoor.Q
open Go.RowKit Go.Proofs.YtcmppjonpmgncaaDoorW.PrintWords Go.Proofs.YtcmppjonpmgncaaDoorW.PrintLast Go.Proofs.YtcmppjonpmgncaaDoorW.PrintMore
attribute [local go_sem] max2_int min2_int max_two min_two max_three min_three max_four min_four   -- for this text's walks alone
set_option linter.unusedVariables false
set_option linter.unusedSimpArgs false

/-! ### stringslite_TrimPrefix: function 47 -/
def stringslite_TrimPrefix.f (a0 : ByteArray) (a1 : ByteArray) : Option (ByteArray) := (stringslite_HasPrefix.f a0 a1).bind fun t138 => (if t138 = true then (if 0 ≤ (a1.size : Int) then (if (a1.size : Int) ≤ (a0.size : Int) then (some (a0.extract ((a1.size : Int) : Int).toNat a0.size)) else (none)) else (none)) else (some a0))
set_option maxHeartbeats 8000000 in
set_option maxRecDepth 100000 in
theorem stringslite_TrimPrefix.calls (a0 : ByteArray) (a1 : ByteArray) (r : ByteArray) (w : World) (h : stringslite_TrimPrefix.f a0 a1 = some r) :
  Calls Tryd.prog 47 #[.string a0, .string a1] w fun e w' => e = .returned (.string r) ∧ Drawn0 w w' := by
 have H : ((stringslite_HasPrefix.f a0 a1).bind fun t138 => (if t138 = true then (if 0 ≤ (a1.size : Int) then (if (a1.size : Int) ≤ (a0.size : Int) then (some (a0.extract ((a1.size : Int) : Int).toNat a0.size)) else (none)) else (none)) else (some a0))) = some r := h
 clear h
 replace H := Option.bind_eq_some_iff.mp H
 obtain ⟨t138, A30, H⟩ := H
 replace H : (if t138 = true then (if 0 ≤ (a1.size : Int) then (if (a1.size : Int) ≤ (a0.size : Int) then (some (a0.extract ((a1.size : Int) : Int).toNat a0.size)) else (none)) else (none)) else (some a0)) = some r := H
 have A3 := Aside0.mk A30
 clear A30
 by_cases c4 : t138 = true
 ·subst c4
  have H1 : (if 0 ≤ (a1.size : Int) then (if (a1.size : Int) ≤ (a0.size : Int) then (some (a0.extract ((a1.size : Int) : Int).toNat a0.size)) else (none)) else (none)) = some r := by rw [if_pos rfl] at H; exact H
  clear H
  have H := H1
  clear H1
  by_cases c5 : 0 ≤ (a1.size : Int)
  ·rw [if_pos c5] at H
   have c5b0 := eq_true c5
   have c5b1 : decide (0 ≤ (a1.size : Int)) = true := decide_eq_true c5
   clear c5
   by_cases c6 : (a1.size : Int) ≤ (a0.size : Int)
   ·rw [if_pos c6] at H
    have c6b0 := eq_true c6
    have c6b1 : decide ((a1.size : Int) ≤ (a0.size : Int)) = true := decide_eq_true c6
    clear c6
    obtain rfl := Option.some.inj H
    go_enter Tryd.func47, Tryd.ntmps47
    go_wp2_with (first | ((with_reducible refine gate_callee (f := 52) rfl ?_); refine goesL_ (some 7) rfl rfl Tryd.func52 (by kernel_rfl) rfl #[.string a0, .string a1] rfl (by (try simp only [List.map_toArray, List.map_cons, List.map_nil]); first | done | rfl | (simp only [List.length_drop, List.length_take]; rfl)) ?_; (with_reducible refine (stringslite_HasPrefix.calls a0 a1 true _ A3.out).mono ?_); rintro e w' ⟨rfl, ⟨nd, rfl⟩⟩; refine ⟨_, rfl, ?_⟩))
    go_ret
    exact ⟨by first | rfl | (simp; done) | (simp [*]; done), by repeat (first | exact Drawn0.refl _ | apply Drawn0.step)⟩
   ·rw [if_neg c6] at H
    exact absurd H (by simp)
  ·rw [if_neg c5] at H
   exact absurd H (by simp)
 ·replace c4 := Bool.eq_false_iff.mpr c4
  subst c4
  have H1 : (some a0) = some r := by rw [if_neg (show ¬ (false = true) by decide)] at H; exact H
  clear H
  have H := H1
  clear H1
  obtain rfl := Option.some.inj H
  go_enter Tryd.func47, Tryd.ntmps47
  go_wp2_with (first | ((with_reducible refine gate_callee (f := 52) rfl ?_); refine goesL_ (some 7) rfl rfl Tryd.func52 (by kernel_rfl) rfl #[.string a0, .string a1] rfl (by (try simp only [List.map_toArray, List.map_cons, List.map_nil]); first | done | rfl | (simp only [List.length_drop, List.length_take]; rfl)) ?_; (with_reducible refine (stringslite_HasPrefix.calls a0 a1 false _ A3.out).mono ?_); rintro e w' ⟨rfl, ⟨nd, rfl⟩⟩; refine ⟨_, rfl, ?_⟩))
  go_ret
  exact ⟨by first | rfl | (simp; done) | (simp [*]; done), by repeat (first | exact Drawn0.refl _ | apply Drawn0.step)⟩

end Go.Proofs.YtcmppjonpmgncaaDoor.Q

namespace Go.Proofs.YtcmppjonpmgncaaDoor.Q
open Go.RowKit Go.Proofs.YtcmppjonpmgncaaDoorW.PrintWords Go.Proofs.YtcmppjonpmgncaaDoorW.PrintLast Go.Proofs.YtcmppjonpmgncaaDoorW.PrintMore
attribute [local go_sem] max2_int min2_int max_two min_two max_three min_three max_four min_four   -- for this text's walks alone
set_option linter.unusedVariables false
set_option linter.unusedSimpArgs false

/-! ### strings_TrimPrefix: function 40 -/
def strings_TrimPrefix.f (a0 : ByteArray) (a1 : ByteArray) : Option (ByteArray) := (stringslite_TrimPrefix.f a0 a1).bind fun t139 => (some t139)
set_option maxHeartbeats 8000000 in
set_option maxRecDepth 100000 in
theorem strings_TrimPrefix.calls (a0 : ByteArray) (a1 : ByteArray) (r : ByteArray) (w : World) (h : strings_TrimPrefix.f a0 a1 = some r) :
  Calls Tryd.prog 40 #[.string a0, .string a1] w fun e w' => e = .returned (.string r) ∧ Drawn0 w w' := by
 have H : ((stringslite_TrimPrefix.f a0 a1).bind fun t139 => (some t139)) = some r := h
 clear h
 replace H := Option.bind_eq_some_iff.mp H
 obtain ⟨t139, A30, H⟩ := H
 replace H : (some t139) = some r := H
 have A3 := Aside0.mk A30
 clear A30
 obtain rfl := Option.some.inj H
 go_enter Tryd.func40, Tryd.ntmps40
 go_wp2_with (first | ((with_reducible refine gate_callee (f := 47) rfl ?_); refine goesL_ (some 7) rfl rfl Tryd.func47 (by kernel_rfl) rfl #[.string a0, .string a1] rfl (by (try simp only [List.map_toArray, List.map_cons, List.map_nil]); first | done | rfl | (simp only [List.length_drop, List.length_take]; rfl)) ?_; (with_reducible refine (stringslite_TrimPrefix.calls a0 a1 t139 _ A3.out).mono ?_); rintro e w' ⟨rfl, ⟨nd, rfl⟩⟩; refine ⟨_, rfl, ?_⟩))
 go_ret
 exact ⟨by first | rfl | (simp; done) | (simp [*]; done), by repeat (first | exact Drawn0.refl _ | apply Drawn0.step)⟩

end Go.Proofs.YtcmppjonpmgncaaDoor.Q

-- (laid by the kit's lay-shelf and lay-plain at this seat's dump; the seat: rows/E.tsv, its part 'Door')
/-
 DERIVED: THE SHELF's CONTRACTS AT THIS DUMP, IN PLAIN WORDS (tools/lay-plain.mjs out of 'YtcmppjonpmgncaaDoorShelf.lean', which tools/lay-shelf.mjs wrote): THE SAME DECLARATIONS UNDER THE SAME NAMES: 'import', 'namespace', 'open', 'def', 'theorem' AND NOTHING ELSE: no command of the shelf's: FOR A HAND-IN. Each laying: the table of numbers ('.._ren') and one theorem, a field a fact of the dump's own or the kernel's comparison; each contract: ONE APPLICATION.
-/

namespace Go.Proofs
open Go.Shelf
def Tryd.lays160_ren : Go.Shelf.Ren := ⟨fun | 160 => 48 | 232 => 54 | 231 => 53 | 227 => 55 | 234 => 57 | 233 => 56 | 236 => 59 | 235 => 58 | 228 => 66 | 271 => 69 | 151 => 68 | 197 => 67 | 120 => 79 | 152 => 78 | 260 => 77 | 137 => 87 | 119 => 88 | 224 => 89 | 225 => 90 | 217 => 93 | 266 => 94 | n => n, fun | 9 => 9 | 4 => 4 | 3 => 3 | 5 => 5 | 117 => 70 | 116 => 69 | 0 => 0 | 124 => 73 | 21 => 21 | 105 => 82 | 46 => 39 | 119 => 106 | 139 => 109 | 138 => 108 | n => n, fun | 3 => 3 | 4 => 4 | n => n⟩
theorem Tryd.lays160 : Go.Proofs.Lays.n160 Tryd.prog Tryd.lays160_ren := {
 mixed := by kernel_rfl
 f119 := Tryd.func88.trans (congrArg some (by kernel_rfl))
 f120 := Tryd.func79.trans (congrArg some (by kernel_rfl))
 f137 := Tryd.func87.trans (congrArg some (by kernel_rfl))
 f151 := Tryd.func68.trans (congrArg some (by kernel_rfl))
 f152 := Tryd.func78.trans (congrArg some (by kernel_rfl))
 f160 := Tryd.func48.trans (congrArg some (by kernel_rfl))
 f197 := Tryd.func67.trans (congrArg some (by kernel_rfl))
 f217 := Tryd.func93.trans (congrArg some (by kernel_rfl))
 f224 := Tryd.func89.trans (congrArg some (by kernel_rfl))
 f225 := Tryd.func90.trans (congrArg some (by kernel_rfl))
 f227 := Tryd.func55.trans (congrArg some (by kernel_rfl))
 f228 := Tryd.func66.trans (congrArg some (by kernel_rfl))
 f231 := Tryd.func53.trans (congrArg some (by kernel_rfl))
 f232 := Tryd.func54.trans (congrArg some (by kernel_rfl))
 f233 := Tryd.func56.trans (congrArg some (by kernel_rfl))
 f234 := Tryd.func57.trans (congrArg some (by kernel_rfl))
 f235 := Tryd.func58.trans (congrArg some (by kernel_rfl))
 f236 := Tryd.func59.trans (congrArg some (by kernel_rfl))
 f260 := Tryd.func77.trans (congrArg some (by kernel_rfl))
 f266 := Tryd.func94.trans (congrArg some (by kernel_rfl))
 f271 := Tryd.func69.trans (congrArg some (by kernel_rfl))
 t0 := Tryd.underlying0
 a0 := Tryd.isAgg0
 z0 := Tryd.sizeOf0
 v0 := Tryd.zeroValue0
 t3 := Tryd.underlying3
 a3 := Tryd.isAgg3
 z3 := Tryd.sizeOf3
 v3 := Tryd.zeroValue3
 t4 := Tryd.underlying4
 a4 := Tryd.isAgg4
 z4 := Tryd.sizeOf4
 v4 := Tryd.zeroValue4
 t5 := Tryd.underlying5
 a5 := Tryd.isAgg5
 z5 := Tryd.sizeOf5
 v5 := Tryd.zeroValue5
 t9 := Tryd.underlying9
 a9 := Tryd.isAgg9
 z9 := Tryd.sizeOf9
 v9 := Tryd.zeroValue9
 t21 := Tryd.underlying21
 a21 := Tryd.isAgg21
 z21 := Tryd.sizeOf21
 v21 := Tryd.zeroValue21
 t46 := Tryd.underlying39
 a46 := Tryd.isAgg39
 z46 := Tryd.sizeOf39
 v46 := Tryd.zeroValue39
 t105 := Tryd.underlying82
 a105 := Tryd.isAgg82
 z105 := Tryd.sizeOf82
 v105 := Tryd.zeroValue82
 t116 := Tryd.underlying69
 a116 := Tryd.isAgg69
 z116 := Tryd.sizeOf69
 t117 := Tryd.underlying70
 a117 := Tryd.isAgg70
 z117 := Tryd.sizeOf70
 v117 := Tryd.zeroValue70
 t119 := Tryd.underlying106
 a119 := Tryd.isAgg106
 z119 := Tryd.sizeOf106
 t124 := Tryd.underlying73
 a124 := Tryd.isAgg73
 z124 := Tryd.sizeOf73
 v124 := Tryd.zeroValue73
 t138 := Tryd.underlying108
 a138 := Tryd.isAgg108
 z138 := Tryd.sizeOf108
 v138 := Tryd.zeroValue108
 t139 := Tryd.underlying109
 a139 := Tryd.isAgg109
 z139 := Tryd.sizeOf109
 v139 := Tryd.zeroValue109
 g3 := by kernel_rfl
 g4 := by kernel_rfl }
def Tryd.laysM171_ren : Go.Shelf.Ren := ⟨fun | 171 => 43 | 243 => 51 | 246 => 65 | 283 => 73 | 284 => 74 | 285 => 75 | 286 => 76 | 129 => 83 | 317 => 82 | 318 => 84 | 319 => 85 | 320 => 86 | 337 => 91 | 338 => 92 | n => n, fun | 3 => 3 | 9 => 9 | 2 => 2 | 4 => 4 | 171 => 91 | 0 => 0 | 53 => 63 | 37 => 64 | 5 => 5 | 173 => 94 | 212 => 102 | 51 => 103 | 20 => 20 | 213 => 104 | 46 => 39 | 232 => 114 | 233 => 115 | n => n, fun | 17 => 2 | 18 => 6 | 19 => 7 | n => n⟩
theorem Tryd.laysM171 : Go.Proofs.LaysM.n171 Tryd.prog Tryd.laysM171_ren := {
 mixed := by kernel_rfl
 f129 := Tryd.func83.trans (congrArg some (by kernel_rfl))
 f171 := Tryd.func43.trans (congrArg some (by kernel_rfl))
 f243 := Tryd.func51.trans (congrArg some (by kernel_rfl))
 f246 := Tryd.func65.trans (congrArg some (by kernel_rfl))
 f283 := Tryd.func73.trans (congrArg some (by kernel_rfl))
 f284 := Tryd.func74.trans (congrArg some (by kernel_rfl))
 f285 := Tryd.func75.trans (congrArg some (by kernel_rfl))
 f286 := Tryd.func76.trans (congrArg some (by kernel_rfl))
 f317 := Tryd.func82.trans (congrArg some (by kernel_rfl))
 f318 := Tryd.func84.trans (congrArg some (by kernel_rfl))
 f319 := Tryd.func85.trans (congrArg some (by kernel_rfl))
 f320 := Tryd.func86.trans (congrArg some (by kernel_rfl))
 f337 := Tryd.func91.trans (congrArg some (by kernel_rfl))
 f338 := Tryd.func92.trans (congrArg some (by kernel_rfl))
 t0 := Tryd.underlying0
 a0 := Tryd.isAgg0
 z0 := Tryd.sizeOf0
 v0 := Tryd.zeroValue0
 t2 := Tryd.underlying2
 a2 := Tryd.isAgg2
 z2 := Tryd.sizeOf2
 v2 := Tryd.zeroValue2
 t3 := Tryd.underlying3
 a3 := Tryd.isAgg3
 z3 := Tryd.sizeOf3
 v3 := Tryd.zeroValue3
 t4 := Tryd.underlying4
 a4 := Tryd.isAgg4
 z4 := Tryd.sizeOf4
 v4 := Tryd.zeroValue4
 t5 := Tryd.underlying5
 a5 := Tryd.isAgg5
 z5 := Tryd.sizeOf5
 v5 := Tryd.zeroValue5
 t9 := Tryd.underlying9
 a9 := Tryd.isAgg9
 z9 := Tryd.sizeOf9
 v9 := Tryd.zeroValue9
 t20 := Tryd.underlying20
 a20 := Tryd.isAgg20
 z20 := Tryd.sizeOf20
 v20 := Tryd.zeroValue20
 t37 := Tryd.underlying64
 a37 := Tryd.isAgg64
 z37 := Tryd.sizeOf64
 v37 := Tryd.zeroValue64
 t46 := Tryd.underlying39
 a46 := Tryd.isAgg39
 z46 := Tryd.sizeOf39
 v46 := Tryd.zeroValue39
 t51 := Tryd.underlying103
 a51 := Tryd.isAgg103
 z51 := Tryd.sizeOf103
 v51 := Tryd.zeroValue103
 t53 := Tryd.underlying63
 a53 := Tryd.isAgg63
 z53 := Tryd.sizeOf63
 v53 := Tryd.zeroValue63
 t171 := Tryd.underlying91
 a171 := Tryd.isAgg91
 z171 := Tryd.sizeOf91
 v171 := Tryd.zeroValue91
 t173 := Tryd.underlying94
 a173 := Tryd.isAgg94
 z173 := Tryd.sizeOf94
 v173 := Tryd.zeroValue94
 t212 := Tryd.underlying102
 a212 := Tryd.isAgg102
 z212 := Tryd.sizeOf102
 v212 := Tryd.zeroValue102
 t213 := Tryd.underlying104
 a213 := Tryd.isAgg104
 z213 := Tryd.sizeOf104
 t232 := Tryd.underlying114
 a232 := Tryd.isAgg114
 z232 := Tryd.sizeOf114
 v232 := Tryd.zeroValue114
 t233 := Tryd.underlying115
 a233 := Tryd.isAgg115
 z233 := Tryd.sizeOf115
 v233 := Tryd.zeroValue115
 g17 := by kernel_rfl
 g18 := by kernel_rfl
 g19 := by kernel_rfl
 i0 := by kernel_rfl
 i2 := by kernel_rfl
 i3 := by kernel_rfl
 i4 := by kernel_rfl
 i5 := by kernel_rfl
 i9 := by kernel_rfl
 i20 := by kernel_rfl
 i37 := by kernel_rfl
 i46 := by kernel_rfl
 i51 := by kernel_rfl
 i53 := by kernel_rfl
 i171 := by kernel_rfl
 i173 := by kernel_rfl
 i212 := by kernel_rfl
 i232 := by kernel_rfl
 i233 := by kernel_rfl
 m17 := by kernel_rfl
 m18 := by kernel_rfl
 m19 := by kernel_rfl }
open Go.RowKit Go.Sort Go.Lib in
/-- strconv.Itoa: "Itoa is equivalent to FormatInt(int64(i), 10).": i's DECIMAL NUMERAL ('Lib.itoa': a '-' where i is negative, then the digits), FOR EVERY int. The world behind the call: the world before it, new blocks behind the heap (the library's 'var a [24]byte'), draws. (LAID: no walk: one application.) -/
theorem Tryd.strconv_Itoa (n : Int) (h0 : -9223372036854775808 ≤ n) (h1 : n ≤ 9223372036854775807) (w : World) (htab : Lib.TabIs Tryd.prog w "internal/strconv.uint64pow10" .u64 Lib.pow10Tab) :
  Calls Tryd.prog 43 #[.int .i64 n] w fun e w' => e = .returned (.string ⟨(Lib.itoa n).toArray⟩) ∧ ∃ k os, w' = grow (w.drewN k) os := Any.strconv_Itoa Tryd.laysM171 n h0 h1 w htab
def Tryd.laysC172_ren : Go.Shelf.Ren := ⟨fun | 172 => 42 | 244 => 49 | 245 => 50 | 247 => 60 | 279 => 61 | 280 => 62 | 281 => 63 | 282 => 64 | 287 => 70 | 316 => 71 | 171 => 43 | 205 => 72 | 321 => 80 | 322 => 81 | 243 => 51 | 246 => 65 | 283 => 73 | 284 => 74 | 285 => 75 | 286 => 76 | 129 => 83 | 317 => 82 | 318 => 84 | 319 => 85 | 320 => 86 | 337 => 91 | 338 => 92 | n => n, fun | 9 => 9 | 3 => 3 | 75 => 60 | 76 => 61 | 4 => 4 | 5 => 5 | 167 => 74 | 37 => 64 | 0 => 0 | 85 => 75 | 2 => 2 | 168 => 77 | 53 => 63 | 175 => 85 | 46 => 39 | 210 => 89 | 127 => 98 | 145 => 101 | 143 => 99 | 21 => 21 | 171 => 91 | 173 => 94 | 212 => 102 | 51 => 103 | 20 => 20 | 213 => 104 | 232 => 114 | 233 => 115 | 80 => 116 | n => n, fun | 15 => 0 | 16 => 1 | 17 => 2 | 18 => 6 | 19 => 7 | n => n⟩
theorem Tryd.laysC172 : Go.Proofs.LaysC.n172 Tryd.prog Tryd.laysC172_ren := {
 mixed := by kernel_rfl
 f129 := Tryd.func83.trans (congrArg some (by kernel_rfl))
 f171 := Tryd.func43.trans (congrArg some (by kernel_rfl))
 f172 := Tryd.func42.trans (congrArg some (by kernel_rfl))
 f205 := Tryd.func72.trans (congrArg some (by kernel_rfl))
 f243 := Tryd.func51.trans (congrArg some (by kernel_rfl))
 f244 := Tryd.func49.trans (congrArg some (by kernel_rfl))
 f245 := Tryd.func50.trans (congrArg some (by kernel_rfl))
 f246 := Tryd.func65.trans (congrArg some (by kernel_rfl))
 f247 := Tryd.func60.trans (congrArg some (by kernel_rfl))
 f279 := Tryd.func61.trans (congrArg some (by kernel_rfl))
 f280 := Tryd.func62.trans (congrArg some (by kernel_rfl))
 f281 := Tryd.func63.trans (congrArg some (by kernel_rfl))
 f282 := Tryd.func64.trans (congrArg some (by kernel_rfl))
 f283 := Tryd.func73.trans (congrArg some (by kernel_rfl))
 f284 := Tryd.func74.trans (congrArg some (by kernel_rfl))
 f285 := Tryd.func75.trans (congrArg some (by kernel_rfl))
 f286 := Tryd.func76.trans (congrArg some (by kernel_rfl))
 f287 := Tryd.func70.trans (congrArg some (by kernel_rfl))
 f316 := Tryd.func71.trans (congrArg some (by kernel_rfl))
 f317 := Tryd.func82.trans (congrArg some (by kernel_rfl))
 f318 := Tryd.func84.trans (congrArg some (by kernel_rfl))
 f319 := Tryd.func85.trans (congrArg some (by kernel_rfl))
 f320 := Tryd.func86.trans (congrArg some (by kernel_rfl))
 f321 := Tryd.func80.trans (congrArg some (by kernel_rfl))
 f322 := Tryd.func81.trans (congrArg some (by kernel_rfl))
 f337 := Tryd.func91.trans (congrArg some (by kernel_rfl))
 f338 := Tryd.func92.trans (congrArg some (by kernel_rfl))
 t0 := Tryd.underlying0
 a0 := Tryd.isAgg0
 z0 := Tryd.sizeOf0
 v0 := Tryd.zeroValue0
 t2 := Tryd.underlying2
 a2 := Tryd.isAgg2
 z2 := Tryd.sizeOf2
 v2 := Tryd.zeroValue2
 t3 := Tryd.underlying3
 a3 := Tryd.isAgg3
 z3 := Tryd.sizeOf3
 v3 := Tryd.zeroValue3
 t4 := Tryd.underlying4
 a4 := Tryd.isAgg4
 z4 := Tryd.sizeOf4
 v4 := Tryd.zeroValue4
 t5 := Tryd.underlying5
 a5 := Tryd.isAgg5
 z5 := Tryd.sizeOf5
 v5 := Tryd.zeroValue5
 t9 := Tryd.underlying9
 a9 := Tryd.isAgg9
 z9 := Tryd.sizeOf9
 v9 := Tryd.zeroValue9
 t20 := Tryd.underlying20
 a20 := Tryd.isAgg20
 z20 := Tryd.sizeOf20
 v20 := Tryd.zeroValue20
 t21 := Tryd.underlying21
 a21 := Tryd.isAgg21
 z21 := Tryd.sizeOf21
 v21 := Tryd.zeroValue21
 t37 := Tryd.underlying64
 a37 := Tryd.isAgg64
 z37 := Tryd.sizeOf64
 v37 := Tryd.zeroValue64
 t46 := Tryd.underlying39
 a46 := Tryd.isAgg39
 z46 := Tryd.sizeOf39
 v46 := Tryd.zeroValue39
 t51 := Tryd.underlying103
 a51 := Tryd.isAgg103
 z51 := Tryd.sizeOf103
 v51 := Tryd.zeroValue103
 t53 := Tryd.underlying63
 a53 := Tryd.isAgg63
 z53 := Tryd.sizeOf63
 v53 := Tryd.zeroValue63
 t75 := Tryd.underlying60
 a75 := Tryd.isAgg60
 z75 := Tryd.sizeOf60
 v75 := Tryd.zeroValue60
 t76 := Tryd.underlying61
 a76 := Tryd.isAgg61
 z76 := Tryd.sizeOf61
 v76 := Tryd.zeroValue61
 t85 := Tryd.underlying75
 a85 := Tryd.isAgg75
 z85 := Tryd.sizeOf75
 v85 := Tryd.zeroValue75
 t127 := Tryd.underlying98
 a127 := Tryd.isAgg98
 z127 := Tryd.sizeOf98
 v127 := Tryd.zeroValue98
 t143 := Tryd.underlying99
 a143 := Tryd.isAgg99
 z143 := Tryd.sizeOf99
 v143 := Tryd.zeroValue99
 t145 := Tryd.underlying101
 a145 := Tryd.isAgg101
 z145 := Tryd.sizeOf101
 v145 := Tryd.zeroValue101
 t167 := Tryd.underlying74
 a167 := Tryd.isAgg74
 z167 := Tryd.sizeOf74
 v167 := Tryd.zeroValue74
 t168 := Tryd.underlying77
 a168 := Tryd.isAgg77
 z168 := Tryd.sizeOf77
 v168 := Tryd.zeroValue77
 t171 := Tryd.underlying91
 a171 := Tryd.isAgg91
 z171 := Tryd.sizeOf91
 v171 := Tryd.zeroValue91
 t173 := Tryd.underlying94
 a173 := Tryd.isAgg94
 z173 := Tryd.sizeOf94
 v173 := Tryd.zeroValue94
 t175 := Tryd.underlying85
 a175 := Tryd.isAgg85
 z175 := Tryd.sizeOf85
 v175 := Tryd.zeroValue85
 t210 := Tryd.underlying89
 a210 := Tryd.isAgg89
 z210 := Tryd.sizeOf89
 v210 := Tryd.zeroValue89
 t212 := Tryd.underlying102
 a212 := Tryd.isAgg102
 z212 := Tryd.sizeOf102
 v212 := Tryd.zeroValue102
 t213 := Tryd.underlying104
 a213 := Tryd.isAgg104
 z213 := Tryd.sizeOf104
 t232 := Tryd.underlying114
 a232 := Tryd.isAgg114
 z232 := Tryd.sizeOf114
 v232 := Tryd.zeroValue114
 t233 := Tryd.underlying115
 a233 := Tryd.isAgg115
 z233 := Tryd.sizeOf115
 v233 := Tryd.zeroValue115
 g15 := by kernel_rfl
 g16 := by kernel_rfl
 g17 := by kernel_rfl
 g18 := by kernel_rfl
 g19 := by kernel_rfl
 t80 := Tryd.underlying116
 a80 := Tryd.isAgg116
 z80 := Tryd.sizeOf116
 v80 := Tryd.zeroValue116
 i0 := by kernel_rfl
 i2 := by kernel_rfl
 i3 := by kernel_rfl
 i4 := by kernel_rfl
 i5 := by kernel_rfl
 i9 := by kernel_rfl
 i20 := by kernel_rfl
 i21 := by kernel_rfl
 i37 := by kernel_rfl
 i46 := by kernel_rfl
 i51 := by kernel_rfl
 i53 := by kernel_rfl
 i75 := by kernel_rfl
 i76 := by kernel_rfl
 i80 := by kernel_rfl
 i85 := by kernel_rfl
 i127 := by kernel_rfl
 i143 := by kernel_rfl
 i145 := by kernel_rfl
 i167 := by kernel_rfl
 i168 := by kernel_rfl
 i171 := by kernel_rfl
 i173 := by kernel_rfl
 i175 := by kernel_rfl
 i210 := by kernel_rfl
 i212 := by kernel_rfl
 i232 := by kernel_rfl
 i233 := by kernel_rfl
 m15 := by kernel_rfl
 m16 := by kernel_rfl
 m17 := by kernel_rfl
 m18 := by kernel_rfl
 m19 := by kernel_rfl
 c0 := by kernel_rfl
 c2 := by kernel_rfl
 c3 := by kernel_rfl
 c4 := by kernel_rfl
 c5 := by kernel_rfl
 c9 := by kernel_rfl
 c20 := by kernel_rfl
 c21 := by kernel_rfl
 c37 := by kernel_rfl
 c46 := by kernel_rfl
 c51 := by kernel_rfl
 c53 := by kernel_rfl
 c75 := by kernel_rfl
 c76 := by kernel_rfl
 c80 := by kernel_rfl
 c85 := by kernel_rfl
 c127 := by kernel_rfl
 c143 := by kernel_rfl
 c145 := by kernel_rfl
 c167 := by kernel_rfl
 c168 := by kernel_rfl
 c171 := by kernel_rfl
 c173 := by kernel_rfl
 c175 := by kernel_rfl
 c210 := by kernel_rfl
 c212 := by kernel_rfl
 c213 := by kernel_rfl
 c232 := by kernel_rfl
 c233 := by kernel_rfl }
open Go.RowKit in
/-- strconv.Atoi, AT EVERY STRING THAT SPELLS AN int ('Lib.atoiAll .. = .ok v'; of whatever length: leading zeros count): v, AND NO ERROR. The world: as it was, or with the one new row that '[]byte(..)' lays. (LAID: no walk: one application.) -/
theorem Tryd.strconv_Atoi_ok (s : ByteArray) (hmax : s.size ≤ 9223372036854775806) (v : Int) (h : Lib.atoiAll s.data.toList = .ok v) (w : World) :
  Calls Tryd.prog 42 #[.string s] w fun e w' => e = .returned (.tuple #[.int .i64 v, .nilIface]) ∧ (w' = w ∨ ∃ t, w' = Lib.bytesWorld w 5 t) := Any.strconv_Atoi_ok Tryd.laysC172 s hmax v h w
open Go.RowKit in
theorem Tryd.strconv_Atoi_range_var (s : ByteArray) (hlim : s.size ≤ 281474976710656) (h : Lib.atoiAll s.data.toList = .range) (tp : TypeId) (p : Value) (w : World) (hvar : w.var? Tryd.prog "strconv.ErrRange" = some #[.iface tp p]) :
  Calls Tryd.prog 42 #[.string s] w fun e w' => ∃ N, e = .returned (.tuple #[.int .i64 (Lib.atoiSat s.data.toList), .iface 77 (.pointer (some ⟨N, 0, none⟩))]) ∧ w.heap.size ≤ N ∧ w'.heap[N]? = some (.cells #[.string ⟨#[65, 116, 111, 105]⟩, .string s, .iface tp p] 89 (0, 0)) ∧ Below w.heap.size w w' := Any.strconv_Atoi_range_var Tryd.laysC172 s hlim h tp p w hvar
end Go.Proofs

/- num.isDigits, num.Parse, num.Text: by hand, over the shelf's contracts. -/
namespace Go.Proofs.YtcmppjonpmgncaaDoor.Q
open Go.RowKit Go.Proofs.YtcmppjonpmgncaaDoorW.PrintWords Go.Proofs.YtcmppjonpmgncaaDoorW.PrintLast Go.Proofs.YtcmppjonpmgncaaDoorW.PrintMore
set_option linter.unusedVariables false
set_option linter.unusedSimpArgs false
open Go.Shelf
theorem var_old {n : String} {w w' : World} {cs : Array Value} (h : w.var? Tryd.prog n = some cs) (hb : Below w.heap.size w w') : w'.var? Tryd.prog n = some cs := by
 unfold World.var? at h ⊢
 cases hg : Tryd.prog.globalNamed n with
 | none => simp [hg] at h
 | some g =>
  simp only [hg, Option.bind_some] at h ⊢
  have hlt : g < w.heap.size := by
   rcases Nat.lt_or_ge g w.heap.size with h1 | h1
   ·exact h1
   ·rw [Array.getElem?_eq_none h1] at h
    cases h
  rw [hb.block g hlt]
  exact h
/-- What a call reads of the package-level variables. -/
def Glob (w : World) : Prop := Lib.TabIs Tryd.prog w "internal/strconv.uint64pow10" .u64 Lib.pow10Tab ∧ (∃ tp p, w.var? Tryd.prog "strconv.ErrSyntax" = some #[.iface tp p]) ∧ (∃ tp p, w.var? Tryd.prog "strconv.ErrRange" = some #[.iface tp p])
theorem Glob.below {w w' : World} (h : Glob w) (hb : Below w.heap.size w w') : Glob w' := by
 obtain ⟨h1, ⟨t2, p2, h2⟩, ⟨t3, p3, h3⟩⟩ := h
 exact ⟨var_old h1 hb, ⟨t2, p2, var_old h2 hb⟩, ⟨t3, p3, var_old h3 hb⟩⟩

def cut09 : List UInt8 := [48, 49, 50, 51, 52, 53, 54, 55, 56, 57]
def isDigL (l : List UInt8) : Bool := !l.isEmpty && (Lib.trimS l cut09).isEmpty && (l.head? != some 48 || l == [48])
def num_isDigits.f (a0 : ByteArray) : Option Bool := if a0.size ≤ 9223372036854775807 then some (isDigL a0.data.toList) else none
theorem head_at (s : ByteArray) (h : 0 < s.size) : s.toList.head? = some s[0] := by
 rw [Lib.toList_data, List.head?_eq_getElem?, Array.getElem?_toList]
 exact Array.getElem?_eq_getElem h
theorem num_isDigits.calls (a0 : ByteArray) (r : Bool) (w : World) (h : num_isDigits.f a0 = some r) :
  Calls Tryd.prog 41 #[.string a0] w fun e w' => e = .returned (.bool r) ∧ Below w.heap.size w w' := by
 unfold num_isDigits.f at h
 split at h
 ·rename_i hs
  obtain rfl := Option.some.inj h
  clear h
  have hcon := Any.strings_Trim_laid Tryd.lays160 (by kernel_rfl) a0 ⟨#[48, 49, 50, 51, 52, 53, 54, 55, 56, 57]⟩ w hs (by decide) (ascii_of_all (by decide))
  change Calls Tryd.prog 48 _ _ (fun e w' => e = .returned (.string ⟨(Lib.trimS a0.data.toList cut09).toArray⟩) ∧ Below w.heap.size w w') at hcon
  obtain ⟨t, ht⟩ : ∃ t : ByteArray, t = (⟨(Lib.trimS a0.data.toList cut09).toArray⟩ : ByteArray) := ⟨_, rfl⟩
  rw [← ht] at hcon
  have hN : isDigL a0.data.toList = (!a0.toList.isEmpty && (Lib.trimS a0.data.toList cut09).isEmpty && (a0.toList.head? != some 48 || a0.toList == [48])) := by rw [isDigL, Lib.toList_data]
  rw [hN]
  clear hN
  by_cases he : a0.toList = []
  ·go_enter Tryd.func41, Tryd.ntmps41
   go_wp2_with (go_at_call 48; refine hcon.mono ?_; rintro e w' ⟨rfl, hB⟩)
   go_ret
   exact ⟨by simp [he], Below.refl _ _⟩
  ·have hp : 0 < a0.size := by
    rcases Nat.eq_zero_or_pos a0.size with h | h
    ·exact absurd (by rw [Lib.toList_data]; exact List.eq_nil_of_length_eq_zero (by rw [Array.length_toList]; exact h)) he
    ·exact h
   have h0 := head_at a0 hp
   have hn : (!a0.toList.isEmpty) = true := by cases hl : a0.toList with | nil => exact absurd hl he | cons _ _ => rfl
   have H0 := Aside0.mk h0
   clear h0
   rcases hT : Lib.trimS a0.data.toList cut09 with _ | ⟨x, y⟩
   ·rw [hT] at ht
    subst ht
    go_enter Tryd.func41, Tryd.ntmps41
    go_wp2_with (go_at_call 48; refine hcon.mono ?_; rintro e w' ⟨rfl, hB⟩)
    all_goals go_ret
    all_goals refine ⟨?_, by assumption⟩
    all_goals rw [H0.out]
    all_goals rename_i h_
    ·have h48 : a0[0].toNat = 48 := by omega
     have : a0[0] = 48 := UInt8.toNat_inj.mp (by rw [h48]; rfl)
     simp [hn, this]
    ·have : a0[0] ≠ 48 := fun e => h_ (by rw [e]; rfl)
     simp [hn, this]
   ·have hl : t.toList = x :: y := by rw [ht, hT, Lib.toList_data]
    have ht' : t ≠ ⟨#[]⟩ := fun e => by rw [e] at hl; rw [Lib.toList_data] at hl; simp at hl
    have hne : ¬ t.toList = [] := by rw [hl]; simp
    have HL := Aside0.mk hl
    clear hl ht
    go_enter Tryd.func41, Tryd.ntmps41
    go_wp2_with (go_at_call 48; refine hcon.mono ?_; rintro e w' ⟨rfl, hB⟩)
    go_ret
    exact ⟨by simp, hB⟩
 ·cases h

def num_Text.f (a0 : Int) : Option ByteArray := if -9223372036854775808 ≤ a0 ∧ a0 ≤ 9223372036854775807 then some ⟨(Lib.itoa a0).toArray⟩ else none
theorem num_Text.calls (a0 : Int) (r : ByteArray) (w : World) (h : num_Text.f a0 = some r) (hG : Glob w := by first | assumption | (refine Glob.below (by assumption) ?_; repeat (first | exact (Aside0.out (by assumption)) | (with_reducible first | apply below_alloc | apply pw_below_drewN | apply below_drew1)))) :
  Calls Tryd.prog 22 #[.int .i64 a0] w fun e w' => e = .returned (.string r) ∧ Below w.heap.size w w' := by
 unfold num_Text.f at h
 split at h
 ·rename_i hs
  obtain rfl := Option.some.inj h
  clear h
  go_enter Tryd.func22, Tryd.ntmps22
  go_wp2_with (go_at_call 43; refine (Tryd.strconv_Itoa a0 hs.1 hs.2 _ hG.1).mono ?_; rintro e w' ⟨rfl, k, os, rfl⟩)
  go_ret
  exact ⟨rfl, Lib.below_grow _ _ (Nat.le_refl _) _ _⟩
 ·cases h

def trimP (s : ByteArray) : ByteArray := if s.toList.head? = some 45 then s.extract 1 s.size else s
theorem trimP_some (s : ByteArray) : strings_TrimPrefix.f s ⟨#[45]⟩ = some (trimP s) := by
 unfold strings_TrimPrefix.f stringslite_TrimPrefix.f stringslite_HasPrefix.f trimP
 have e1 : (⟨#[45]⟩ : ByteArray).size = 1 := rfl
 have e2 : (⟨#[45]⟩ : ByteArray).toList = [45] := by rw [Lib.toList_data]
 rw [e1, e2]
 by_cases hp : 0 < s.size
 ·have e3 : (s.extract 0 1).toList = s.toList.take 1 := by rw [Lib.toList_data, Lib.toList_data]; simp
  have e4 : s.toList.take 1 = [s[0]] := by
   have := head_at s hp
   cases hl : s.toList with
   | nil => rw [hl] at this; cases this
   | cons a b => rw [hl] at this; simp at this; simp [this]
  have e5 : (s.extract 0 ((1 : Nat) : Int).toNat).toList = [s[0]] := by rw [show ((1 : Nat) : Int).toNat = 1 from rfl, e3, e4]
  rw [e5, head_at s hp]
  simp [show (s.size : Int) ≥ 1 by omega, show (1 : Int) ≤ s.size by omega]
  by_cases h45 : s[0] = 45 <;> simp [h45]
 ·have hz : s.size = 0 := by omega
  have hl : s.toList = [] := by rw [Lib.toList_data]; exact List.eq_nil_of_length_eq_zero (by rw [Array.length_toList]; exact hz)
  simp [hz, hl]

/-- What Parse answers: the number, and the error's number. -/
def parseN (s : ByteArray) : Int × Int := if isDigL (trimP s).data.toList = false ∨ s.toList = [45, 48] then (0, 1) else match Lib.atoiAll s.data.toList with | .ok v => (v, 0) | _ => (0, 2)
def num_Parse.f (a0 : ByteArray) : Option (Int × Int) := if a0.size ≤ 140737488351232 then some (parseN a0) else none
theorem trimP_size (s : ByteArray) : (trimP s).size ≤ s.size := by
 unfold trimP
 split
 ·simp [ByteArray.size_extract]
 ·exact Nat.le_refl _
set_option maxHeartbeats 400000 in
theorem num_Parse.calls (a0 : ByteArray) (r1 : Int) (r2 : Int) (w : World) (h : num_Parse.f a0 = some (r1, r2)) (hG : Glob w := by first | assumption | (refine Glob.below (by assumption) ?_; repeat (first | exact (Aside0.out (by assumption)) | (with_reducible first | apply below_alloc | apply pw_below_drewN | apply below_drew1)))) :
  Calls Tryd.prog 20 #[.string a0] w fun e w' => e = .returned (.tuple #[.int .i64 r1, .int .i64 r2]) ∧ Below w.heap.size w w' := by
 unfold num_Parse.f at h
 split at h
 ·rename_i hs
  have h := Option.some.inj h
  unfold parseN at h
  have hD0 : num_isDigits.f (trimP a0) = some (isDigL (trimP a0).data.toList) := by unfold num_isDigits.f; rw [if_pos (by have := trimP_size a0; omega)]
  have HD0 := Aside0.mk hD0
  clear hD0
  have HS := Aside0.mk hs
  clear hs
  go_enter Tryd.func20, Tryd.ntmps20
  go_wp2_with fail
  refine (strings_TrimPrefix.calls a0 ⟨#[45]⟩ (trimP a0) w (trimP_some a0)).mono ?_
  rintro e w1 ⟨rfl, hd⟩
  have HB1 := Aside0.mk hd.below
  clear hd
  go_wp2_with fail
  refine (num_isDigits.calls (trimP a0) _ _ HD0.out).mono ?_
  rintro e w2 ⟨rfl, hb2⟩
  have HB2 := Aside0.mk (HB1.out.trans (hb2.mono HB1.out.size))
  clear hb2
  rcases hD : isDigL (trimP a0).data.toList with _ | _
  ·rw [if_pos (Or.inl hD)] at h
   obtain ⟨rfl, rfl⟩ := Prod.mk.inj h
   go_wp2
   go_ret2
   exact ⟨rfl, HB2.out⟩
  ·by_cases h0 : a0.toList = [45, 48]
   ·rw [if_pos (Or.inr h0)] at h
    obtain ⟨rfl, rfl⟩ := Prod.mk.inj h
    go_wp2
    go_ret2
    exact ⟨rfl, HB2.out⟩
   ·rw [if_neg (by rw [hD]; simp [h0])] at h
    have hG2 := hG.below HB2.out
    have h0b : (a0.toList == [45, 48]) = false := beq_eq_false_iff_ne.mpr h0
    clear hD HD0 h0
    rcases hA : Lib.atoiAll a0.data.toList with v | _ | _
    ·rw [hA] at h
     obtain ⟨rfl, rfl⟩ := Prod.mk.inj h
     have hc := Tryd.strconv_Atoi_ok a0 (by have := HS.out; omega) v hA w2
     clear hA h
     go_wp2_with fail
     refine hc.mono ?_
     rintro e w3 ⟨rfl, hw⟩
     have HB3 : Aside0 (Below w.heap.size w w3) := ⟨HB2.out.trans ((show Below w2.heap.size w2 w3 by rcases hw with rfl | ⟨t, rfl⟩ <;> first | exact Below.refl _ _ | exact Lib.bytesWorld_below _ _ _).mono HB2.out.size)⟩
     clear hw
     go_wp2
     go_ret2
     exact ⟨rfl, HB3.out⟩
    ·rw [hA] at h
     obtain ⟨rfl, rfl⟩ := Prod.mk.inj h
     obtain ⟨_, ⟨tp, p, hv⟩, _⟩ := hG2
     have hc : Calls Tryd.prog 42 #[.string a0] w2 fun e w' => ∃ N, e = .returned (.tuple #[.int .i64 0, .iface 77 (.pointer (some ⟨N, 0, none⟩))]) ∧ w2.heap.size ≤ N ∧ w'.heap[N]? = some (.cells #[.string ⟨#[65, 116, 111, 105]⟩, .string a0, .iface tp p] 89 (0, 0)) ∧ Below w2.heap.size w2 w' := Any.strconv_Atoi_syntax_var Tryd.laysC172 a0 (by have := HS.out; omega) hA tp p w2 hv
     clear hA h hv
     go_wp2_with fail
     refine hc.mono ?_
     rintro e w3 ⟨N, rfl, h1, h2, h3⟩
     have HB3 : Aside0 (Below w.heap.size w w3) := ⟨HB2.out.trans (h3.mono HB2.out.size)⟩
     clear h1 h2 h3
     go_wp2
     go_ret2
     exact ⟨rfl, HB3.out⟩
    ·rw [hA] at h
     obtain ⟨rfl, rfl⟩ := Prod.mk.inj h
     obtain ⟨_, _, ⟨tp, p, hv⟩⟩ := hG2
     have hc := Tryd.strconv_Atoi_range_var a0 (by have := HS.out; omega) hA tp p w2 hv
     clear hA h hv
     go_wp2_with fail
     refine hc.mono ?_
     rintro e w3 ⟨N, rfl, h1, h2, h3⟩
     have HB3 : Aside0 (Below w.heap.size w w3) := ⟨HB2.out.trans (h3.mono HB2.out.size)⟩
     clear h1 h2 h3
     go_wp2
     go_ret2
     exact ⟨rfl, HB3.out⟩
 ·cases h
end Go.Proofs.YtcmppjonpmgncaaDoor.Q

namespace Go.Proofs.YtcmppjonpmgncaaDoor.Q
open Go.RowKit Go.Proofs.YtcmppjonpmgncaaDoorW.PrintWords Go.Proofs.YtcmppjonpmgncaaDoorW.PrintLast Go.Proofs.YtcmppjonpmgncaaDoorW.PrintMore
attribute [local go_sem] max2_int min2_int max_two min_two max_three min_three max_four min_four   -- for this text's walks alone
set_option linter.unusedVariables false
set_option linter.unusedSimpArgs false

/-! ### truantlaw01_awake: function 10 -/
def truantlaw01_awake.f (k : Nat)  : Option (Bool) := (num_Do.f k 10 (-5) 1).bind fun bt177 => ((num_Do.f k 4 (-9223372036854775808) (-1)).bind fun bt179 => ((num_Do.f k 5 5 0).bind fun bt181 => ((num_Do.f k 19 1 1).bind fun bt183 => ((num_Parse.f (⟨#[45, 49, 50]⟩ : ByteArray)).bind fun bt185 => ((num_Signed.f k (⟨#[45]⟩ : ByteArray) 1).bind fun bt187 => (if bt177.2 = 0 then (if bt177.1 = (-3) then (if bt179.2 = 0 then (if bt179.1 = (-9223372036854775808) then (if bt181.2 = 11 then (if bt183.2 = 9 then (if bt185.2 = 0 then (if bt185.1 = (-12) then (if bt187.2 = true then (if bt187.1 = 17 then ((num_Sign.f 9).bind fun t189 => (if t189.toList = ([60, 60] : List UInt8) then ((num_Level.f k 8).bind fun t190 => (if t190 = 4 then ((num_Swap.f k 14).bind fun t191 => (if t191 = 16 then ((num_Text.f (-7)).bind fun t192 => (some (t192.toList == ([45, 55] : List UInt8)))) else (none))) else (none))) else (none))) else (none)) else (none)) else (none)) else (none)) else (none)) else (none)) else (none)) else (none)) else (none)) else (none)))))))
theorem truantlaw01_awake.mono : ∀ k, LeO (truantlaw01_awake.f k ) (truantlaw01_awake.f (k + 1) ) := by
 intro  k
 unfold truantlaw01_awake.f
 repeat' first
   | (with_reducible exact num_Do.mono _ _ _ _)
   | (with_reducible exact num_Level.mono _ _)
   | (with_reducible exact num_Signed.mono _ _ _)
   | (with_reducible exact num_Swap.mono _ _)
   | (with_reducible exact LeO.refl _)
   | (with_reducible exact LeO.none _)
   | (with_reducible refine LeO.ite ?_ ?_)
   | (with_reducible refine LeO.bind ?_ (fun _ => ?_))
   | exact num_Do.mono _ _ _ _
   | exact num_Level.mono _ _
   | exact num_Signed.mono _ _ _
   | exact num_Swap.mono _ _
   | exact LeO.none _
   | refine LeO.ite ?_ ?_
   | refine LeO.bind ?_ (fun _ => ?_)
set_option maxHeartbeats 8000000 in
set_option maxRecDepth 100000 in
theorem truantlaw01_awake.calls (k : Nat)  (r : Bool) (w : World) (h : truantlaw01_awake.f k  = some r) (hG : Glob w := by first | assumption | (refine Glob.below (by assumption) ?_; repeat (first | exact (Aside0.out (by assumption)) | (with_reducible first | apply below_alloc | apply pw_below_drewN | apply below_drew1)))) :
  Calls Tryd.prog 10 #[] w fun e w' => e = .returned (.bool r) ∧ Below w.heap.size w w' := by
 have HB := Aside0.mk (Below.refl w.heap.size w)
 have H : ((num_Do.f k 10 (-5) 1).bind fun bt177 => ((num_Do.f k 4 (-9223372036854775808) (-1)).bind fun bt179 => ((num_Do.f k 5 5 0).bind fun bt181 => ((num_Do.f k 19 1 1).bind fun bt183 => ((num_Parse.f (⟨#[45, 49, 50]⟩ : ByteArray)).bind fun bt185 => ((num_Signed.f k (⟨#[45]⟩ : ByteArray) 1).bind fun bt187 => (if bt177.2 = 0 then (if bt177.1 = (-3) then (if bt179.2 = 0 then (if bt179.1 = (-9223372036854775808) then (if bt181.2 = 11 then (if bt183.2 = 9 then (if bt185.2 = 0 then (if bt185.1 = (-12) then (if bt187.2 = true then (if bt187.1 = 17 then ((num_Sign.f 9).bind fun t189 => (if t189.toList = ([60, 60] : List UInt8) then ((num_Level.f k 8).bind fun t190 => (if t190 = 4 then ((num_Swap.f k 14).bind fun t191 => (if t191 = 16 then ((num_Text.f (-7)).bind fun t192 => (some (t192.toList == ([45, 55] : List UInt8)))) else (none))) else (none))) else (none))) else (none)) else (none)) else (none)) else (none)) else (none)) else (none)) else (none)) else (none)) else (none)) else (none)))))))) = some r := h
 clear h
 replace H := Option.bind_eq_some_iff.mp H
 obtain ⟨⟨t177, t178⟩, A10, H⟩ := H
 replace H : ((num_Do.f k 4 (-9223372036854775808) (-1)).bind fun bt179 => ((num_Do.f k 5 5 0).bind fun bt181 => ((num_Do.f k 19 1 1).bind fun bt183 => ((num_Parse.f (⟨#[45, 49, 50]⟩ : ByteArray)).bind fun bt185 => ((num_Signed.f k (⟨#[45]⟩ : ByteArray) 1).bind fun bt187 => (if t178 = 0 then (if t177 = (-3) then (if bt179.2 = 0 then (if bt179.1 = (-9223372036854775808) then (if bt181.2 = 11 then (if bt183.2 = 9 then (if bt185.2 = 0 then (if bt185.1 = (-12) then (if bt187.2 = true then (if bt187.1 = 17 then ((num_Sign.f 9).bind fun t189 => (if t189.toList = ([60, 60] : List UInt8) then ((num_Level.f k 8).bind fun t190 => (if t190 = 4 then ((num_Swap.f k 14).bind fun t191 => (if t191 = 16 then ((num_Text.f (-7)).bind fun t192 => (some (t192.toList == ([45, 55] : List UInt8)))) else (none))) else (none))) else (none))) else (none)) else (none)) else (none)) else (none)) else (none)) else (none)) else (none)) else (none)) else (none)) else (none))))))) = some r := H
 have A1 := Aside0.mk A10
 clear A10
 replace H := Option.bind_eq_some_iff.mp H
 obtain ⟨⟨t179, t180⟩, A20, H⟩ := H
 replace H : ((num_Do.f k 5 5 0).bind fun bt181 => ((num_Do.f k 19 1 1).bind fun bt183 => ((num_Parse.f (⟨#[45, 49, 50]⟩ : ByteArray)).bind fun bt185 => ((num_Signed.f k (⟨#[45]⟩ : ByteArray) 1).bind fun bt187 => (if t178 = 0 then (if t177 = (-3) then (if t180 = 0 then (if t179 = (-9223372036854775808) then (if bt181.2 = 11 then (if bt183.2 = 9 then (if bt185.2 = 0 then (if bt185.1 = (-12) then (if bt187.2 = true then (if bt187.1 = 17 then ((num_Sign.f 9).bind fun t189 => (if t189.toList = ([60, 60] : List UInt8) then ((num_Level.f k 8).bind fun t190 => (if t190 = 4 then ((num_Swap.f k 14).bind fun t191 => (if t191 = 16 then ((num_Text.f (-7)).bind fun t192 => (some (t192.toList == ([45, 55] : List UInt8)))) else (none))) else (none))) else (none))) else (none)) else (none)) else (none)) else (none)) else (none)) else (none)) else (none)) else (none)) else (none)) else (none)))))) = some r := H
 have A2 := Aside0.mk A20
 clear A20
 replace H := Option.bind_eq_some_iff.mp H
 obtain ⟨⟨t181, t182⟩, A30, H⟩ := H
 replace H : ((num_Do.f k 19 1 1).bind fun bt183 => ((num_Parse.f (⟨#[45, 49, 50]⟩ : ByteArray)).bind fun bt185 => ((num_Signed.f k (⟨#[45]⟩ : ByteArray) 1).bind fun bt187 => (if t178 = 0 then (if t177 = (-3) then (if t180 = 0 then (if t179 = (-9223372036854775808) then (if t182 = 11 then (if bt183.2 = 9 then (if bt185.2 = 0 then (if bt185.1 = (-12) then (if bt187.2 = true then (if bt187.1 = 17 then ((num_Sign.f 9).bind fun t189 => (if t189.toList = ([60, 60] : List UInt8) then ((num_Level.f k 8).bind fun t190 => (if t190 = 4 then ((num_Swap.f k 14).bind fun t191 => (if t191 = 16 then ((num_Text.f (-7)).bind fun t192 => (some (t192.toList == ([45, 55] : List UInt8)))) else (none))) else (none))) else (none))) else (none)) else (none)) else (none)) else (none)) else (none)) else (none)) else (none)) else (none)) else (none)) else (none))))) = some r := H
 have A3 := Aside0.mk A30
 clear A30
 replace H := Option.bind_eq_some_iff.mp H
 obtain ⟨⟨t183, t184⟩, A40, H⟩ := H
 replace H : ((num_Parse.f (⟨#[45, 49, 50]⟩ : ByteArray)).bind fun bt185 => ((num_Signed.f k (⟨#[45]⟩ : ByteArray) 1).bind fun bt187 => (if t178 = 0 then (if t177 = (-3) then (if t180 = 0 then (if t179 = (-9223372036854775808) then (if t182 = 11 then (if t184 = 9 then (if bt185.2 = 0 then (if bt185.1 = (-12) then (if bt187.2 = true then (if bt187.1 = 17 then ((num_Sign.f 9).bind fun t189 => (if t189.toList = ([60, 60] : List UInt8) then ((num_Level.f k 8).bind fun t190 => (if t190 = 4 then ((num_Swap.f k 14).bind fun t191 => (if t191 = 16 then ((num_Text.f (-7)).bind fun t192 => (some (t192.toList == ([45, 55] : List UInt8)))) else (none))) else (none))) else (none))) else (none)) else (none)) else (none)) else (none)) else (none)) else (none)) else (none)) else (none)) else (none)) else (none)))) = some r := H
 have A4 := Aside0.mk A40
 clear A40
 replace H := Option.bind_eq_some_iff.mp H
 obtain ⟨⟨t185, t186⟩, A50, H⟩ := H
 replace H : ((num_Signed.f k (⟨#[45]⟩ : ByteArray) 1).bind fun bt187 => (if t178 = 0 then (if t177 = (-3) then (if t180 = 0 then (if t179 = (-9223372036854775808) then (if t182 = 11 then (if t184 = 9 then (if t186 = 0 then (if t185 = (-12) then (if bt187.2 = true then (if bt187.1 = 17 then ((num_Sign.f 9).bind fun t189 => (if t189.toList = ([60, 60] : List UInt8) then ((num_Level.f k 8).bind fun t190 => (if t190 = 4 then ((num_Swap.f k 14).bind fun t191 => (if t191 = 16 then ((num_Text.f (-7)).bind fun t192 => (some (t192.toList == ([45, 55] : List UInt8)))) else (none))) else (none))) else (none))) else (none)) else (none)) else (none)) else (none)) else (none)) else (none)) else (none)) else (none)) else (none)) else (none))) = some r := H
 have A5 := Aside0.mk A50
 clear A50
 replace H := Option.bind_eq_some_iff.mp H
 obtain ⟨⟨t187, t188⟩, A60, H⟩ := H
 replace H : (if t178 = 0 then (if t177 = (-3) then (if t180 = 0 then (if t179 = (-9223372036854775808) then (if t182 = 11 then (if t184 = 9 then (if t186 = 0 then (if t185 = (-12) then (if t188 = true then (if t187 = 17 then ((num_Sign.f 9).bind fun t189 => (if t189.toList = ([60, 60] : List UInt8) then ((num_Level.f k 8).bind fun t190 => (if t190 = 4 then ((num_Swap.f k 14).bind fun t191 => (if t191 = 16 then ((num_Text.f (-7)).bind fun t192 => (some (t192.toList == ([45, 55] : List UInt8)))) else (none))) else (none))) else (none))) else (none)) else (none)) else (none)) else (none)) else (none)) else (none)) else (none)) else (none)) else (none)) else (none)) = some r := H
 have A6 := Aside0.mk A60
 clear A60
 by_cases c7 : t178 = 0
 ·rw [if_pos c7] at H
  have c7b0 : (t178 == 0) = true := beq_iff_eq.mpr c7
  have c7b1 : (t178 != 0) = false := bne_eq_false_iff_eq.mpr c7
  clear c7
  by_cases c8 : t177 = (-3)
  ·rw [if_pos c8] at H
   have c8b0 : (t177 == (-3)) = true := beq_iff_eq.mpr c8
   have c8b1 : (t177 != (-3)) = false := bne_eq_false_iff_eq.mpr c8
   clear c8
   by_cases c9 : t180 = 0
   ·rw [if_pos c9] at H
    have c9b0 : (t180 == 0) = true := beq_iff_eq.mpr c9
    have c9b1 : (t180 != 0) = false := bne_eq_false_iff_eq.mpr c9
    clear c9
    by_cases c10 : t179 = (-9223372036854775808)
    ·rw [if_pos c10] at H
     have c10b0 : (t179 == (-9223372036854775808)) = true := beq_iff_eq.mpr c10
     have c10b1 : (t179 != (-9223372036854775808)) = false := bne_eq_false_iff_eq.mpr c10
     clear c10
     by_cases c11 : t182 = 11
     ·rw [if_pos c11] at H
      have c11b0 : (t182 == 11) = true := beq_iff_eq.mpr c11
      have c11b1 : (t182 != 11) = false := bne_eq_false_iff_eq.mpr c11
      clear c11
      by_cases c12 : t184 = 9
      ·rw [if_pos c12] at H
       have c12b0 : (t184 == 9) = true := beq_iff_eq.mpr c12
       have c12b1 : (t184 != 9) = false := bne_eq_false_iff_eq.mpr c12
       clear c12
       by_cases c13 : t186 = 0
       ·rw [if_pos c13] at H
        have c13b0 : (t186 == 0) = true := beq_iff_eq.mpr c13
        have c13b1 : (t186 != 0) = false := bne_eq_false_iff_eq.mpr c13
        clear c13
        by_cases c14 : t185 = (-12)
        ·rw [if_pos c14] at H
         have c14b0 : (t185 == (-12)) = true := beq_iff_eq.mpr c14
         have c14b1 : (t185 != (-12)) = false := bne_eq_false_iff_eq.mpr c14
         clear c14
         by_cases c15 : t188 = true
         ·subst c15
          have H1 : (if t187 = 17 then ((num_Sign.f 9).bind fun t189 => (if t189.toList = ([60, 60] : List UInt8) then ((num_Level.f k 8).bind fun t190 => (if t190 = 4 then ((num_Swap.f k 14).bind fun t191 => (if t191 = 16 then ((num_Text.f (-7)).bind fun t192 => (some (t192.toList == ([45, 55] : List UInt8)))) else (none))) else (none))) else (none))) else (none)) = some r := by rw [if_pos rfl] at H; exact H
          clear H
          have H := H1
          clear H1
          by_cases c16 : t187 = 17
          ·rw [if_pos c16] at H
           have c16b0 : (t187 == 17) = true := beq_iff_eq.mpr c16
           have c16b1 : (t187 != 17) = false := bne_eq_false_iff_eq.mpr c16
           clear c16
           replace H := Option.bind_eq_some_iff.mp H
           obtain ⟨t189, A170, H⟩ := H
           replace H : (if t189.toList = ([60, 60] : List UInt8) then ((num_Level.f k 8).bind fun t190 => (if t190 = 4 then ((num_Swap.f k 14).bind fun t191 => (if t191 = 16 then ((num_Text.f (-7)).bind fun t192 => (some (t192.toList == ([45, 55] : List UInt8)))) else (none))) else (none))) else (none)) = some r := H
           have A17 := Aside0.mk A170
           clear A170
           by_cases c18 : t189.toList = ([60, 60] : List UInt8)
           ·rw [if_pos c18] at H
            have c18b0 : (t189.toList == ([60, 60] : List UInt8)) = true := beq_iff_eq.mpr c18
            have c18b1 : (t189.toList != ([60, 60] : List UInt8)) = false := bne_eq_false_iff_eq.mpr c18
            clear c18
            replace H := Option.bind_eq_some_iff.mp H
            obtain ⟨t190, A190, H⟩ := H
            replace H : (if t190 = 4 then ((num_Swap.f k 14).bind fun t191 => (if t191 = 16 then ((num_Text.f (-7)).bind fun t192 => (some (t192.toList == ([45, 55] : List UInt8)))) else (none))) else (none)) = some r := H
            have A19 := Aside0.mk A190
            clear A190
            by_cases c20 : t190 = 4
            ·rw [if_pos c20] at H
             have c20b0 : (t190 == 4) = true := beq_iff_eq.mpr c20
             have c20b1 : (t190 != 4) = false := bne_eq_false_iff_eq.mpr c20
             clear c20
             replace H := Option.bind_eq_some_iff.mp H
             obtain ⟨t191, A210, H⟩ := H
             replace H : (if t191 = 16 then ((num_Text.f (-7)).bind fun t192 => (some (t192.toList == ([45, 55] : List UInt8)))) else (none)) = some r := H
             have A21 := Aside0.mk A210
             clear A210
             by_cases c22 : t191 = 16
             ·rw [if_pos c22] at H
              have c22b0 : (t191 == 16) = true := beq_iff_eq.mpr c22
              have c22b1 : (t191 != 16) = false := bne_eq_false_iff_eq.mpr c22
              clear c22
              replace H := Option.bind_eq_some_iff.mp H
              obtain ⟨t192, A230, H⟩ := H
              replace H : (some (t192.toList == ([45, 55] : List UInt8))) = some r := H
              have A23 := Aside0.mk A230
              clear A230
              obtain rfl := Option.some.inj H
              go_enter Tryd.func10, Tryd.ntmps10
              go_wp2_with (first | ((with_reducible refine gate_callee (f := 11) rfl ?_); refine goesL_ (some 14) rfl rfl Tryd.func11 (by kernel_rfl) rfl #[.int .i64 10, .int .i64 (-5), .int .i64 1] rfl (by (try simp only [List.map_toArray, List.map_cons, List.map_nil]); first | done | rfl | (simp only [List.length_drop, List.length_take]; rfl)) ?_; (with_reducible refine (num_Do.calls k 10 (-5) 1 t177 t178 _ A1.out).mono ?_); rintro e w24 ⟨rfl, hb⟩; refine ⟨_, rfl, ?_⟩; have n0_ := Aside0.mk (below_step (by repeat (first | (with_reducible first | exact HB.out | apply below_alloc | apply pw_below_drewN | apply below_drew1) | exact HB.out)) hb); clear HB; have HB := n0_; clear n0_; (try clear hb); (try clear hb2); (try clear hk); (try clear hi)) | ((with_reducible refine gate_callee (f := 11) rfl ?_); refine goesL_ (some 18) rfl rfl Tryd.func11 (by kernel_rfl) rfl #[.int .i64 4, .int .i64 (-9223372036854775808), .int .i64 (-1)] rfl (by (try simp only [List.map_toArray, List.map_cons, List.map_nil]); first | done | rfl | (simp only [List.length_drop, List.length_take]; rfl)) ?_; (with_reducible refine (num_Do.calls k 4 (-9223372036854775808) (-1) t179 t180 _ A2.out).mono ?_); rintro e w25 ⟨rfl, hb⟩; refine ⟨_, rfl, ?_⟩; have n0_ := Aside0.mk (below_step (by repeat (first | (with_reducible first | exact HB.out | apply below_alloc | apply pw_below_drewN | apply below_drew1) | exact HB.out)) hb); clear HB; have HB := n0_; clear n0_; (try clear hb); (try clear hb2); (try clear hk); (try clear hi)) | ((with_reducible refine gate_callee (f := 11) rfl ?_); refine goesL_ (some 22) rfl rfl Tryd.func11 (by kernel_rfl) rfl #[.int .i64 5, .int .i64 5, .int .i64 0] rfl (by (try simp only [List.map_toArray, List.map_cons, List.map_nil]); first | done | rfl | (simp only [List.length_drop, List.length_take]; rfl)) ?_; (with_reducible refine (num_Do.calls k 5 5 0 t181 t182 _ A3.out).mono ?_); rintro e w26 ⟨rfl, hb⟩; refine ⟨_, rfl, ?_⟩; have n0_ := Aside0.mk (below_step (by repeat (first | (with_reducible first | exact HB.out | apply below_alloc | apply pw_below_drewN | apply below_drew1) | exact HB.out)) hb); clear HB; have HB := n0_; clear n0_; (try clear hb); (try clear hb2); (try clear hk); (try clear hi)) | ((with_reducible refine gate_callee (f := 11) rfl ?_); refine goesL_ (some 26) rfl rfl Tryd.func11 (by kernel_rfl) rfl #[.int .i64 19, .int .i64 1, .int .i64 1] rfl (by (try simp only [List.map_toArray, List.map_cons, List.map_nil]); first | done | rfl | (simp only [List.length_drop, List.length_take]; rfl)) ?_; (with_reducible refine (num_Do.calls k 19 1 1 t183 t184 _ A4.out).mono ?_); rintro e w27 ⟨rfl, hb⟩; refine ⟨_, rfl, ?_⟩; have n0_ := Aside0.mk (below_step (by repeat (first | (with_reducible first | exact HB.out | apply below_alloc | apply pw_below_drewN | apply below_drew1) | exact HB.out)) hb); clear HB; have HB := n0_; clear n0_; (try clear hb); (try clear hb2); (try clear hk); (try clear hi)) | ((with_reducible refine gate_callee (f := 20) rfl ?_); refine goesL_ (some 30) rfl rfl Tryd.func20 (by kernel_rfl) rfl #[.string (⟨#[45, 49, 50]⟩ : ByteArray)] rfl (by (try simp only [List.map_toArray, List.map_cons, List.map_nil]); first | done | rfl | (simp only [List.length_drop, List.length_take]; rfl)) ?_; (with_reducible refine (num_Parse.calls (⟨#[45, 49, 50]⟩ : ByteArray) t185 t186 _ A5.out).mono ?_); rintro e w28 ⟨rfl, hb⟩; refine ⟨_, rfl, ?_⟩; have n0_ := Aside0.mk (below_step (by repeat (first | (with_reducible first | exact HB.out | apply below_alloc | apply pw_below_drewN | apply below_drew1) | exact HB.out)) hb); clear HB; have HB := n0_; clear n0_; (try clear hb); (try clear hb2); (try clear hk); (try clear hi)) | ((with_reducible refine gate_callee (f := 16) rfl ?_); refine goesL_ (some 34) rfl rfl Tryd.func16 (by kernel_rfl) rfl #[.string (⟨#[45]⟩ : ByteArray), .int .i64 1] rfl (by (try simp only [List.map_toArray, List.map_cons, List.map_nil]); first | done | rfl | (simp only [List.length_drop, List.length_take]; rfl)) ?_; (with_reducible refine (num_Signed.calls k (⟨#[45]⟩ : ByteArray) 1 t187 true _ A6.out).mono ?_); rintro e w29 ⟨rfl, hb⟩; refine ⟨_, rfl, ?_⟩; have n0_ := Aside0.mk (below_step (by repeat (first | (with_reducible first | exact HB.out | apply below_alloc | apply pw_below_drewN | apply below_drew1) | exact HB.out)) hb); clear HB; have HB := n0_; clear n0_; (try clear hb); (try clear hb2); (try clear hk); (try clear hi)) | (go_at_call 17; (with_reducible refine (num_Sign.calls 9 t189 _ A17.out).mono ?_); rintro e w30 ⟨rfl, hb⟩; have n0_ := Aside0.mk (below_step (by repeat (first | (with_reducible first | exact HB.out | apply below_alloc | apply pw_below_drewN | apply below_drew1) | exact HB.out)) hb); clear HB; have HB := n0_; clear n0_; (try clear hb); (try clear hb2); (try clear hk); (try clear hi)) | (go_at_call 18; (with_reducible refine (num_Level.calls k 8 t190 _ A19.out).mono ?_); rintro e w' ⟨rfl, ⟨nd, rfl⟩⟩) | (go_at_call 24; (with_reducible refine (num_Swap.calls k 14 t191 _ A21.out).mono ?_); rintro e w' ⟨rfl, ⟨nd, rfl⟩⟩) | (go_at_call 22; (with_reducible refine (num_Text.calls (-7) t192 _ A23.out).mono ?_); rintro e w31 ⟨rfl, hb⟩; have n0_ := Aside0.mk (below_step (by repeat (first | (with_reducible first | exact HB.out | apply below_alloc | apply pw_below_drewN | apply below_drew1) | exact HB.out)) hb); clear HB; have HB := n0_; clear n0_; (try clear hb); (try clear hb2); (try clear hk); (try clear hi)))
              go_ret
              exact ⟨by first | rfl | (simp [errW_none, errW_some] <;> rfl) | (simp [*, errW_none, errW_some] <;> rfl), by repeat (first | (with_reducible first | exact HB.out | apply below_alloc | apply pw_below_drewN | apply below_drew1) | exact HB.out)⟩
             ·rw [if_neg c22] at H
              exact absurd H (by simp)
            ·rw [if_neg c20] at H
             exact absurd H (by simp)
           ·rw [if_neg c18] at H
            exact absurd H (by simp)
          ·rw [if_neg c16] at H
           exact absurd H (by simp)
         ·replace c15 := Bool.eq_false_iff.mpr c15
          subst c15
          have H1 : (none) = some r := by rw [if_neg (show ¬ (false = true) by decide)] at H; exact H
          clear H
          have H := H1
          clear H1
          exact absurd H (by simp)
        ·rw [if_neg c14] at H
         exact absurd H (by simp)
       ·rw [if_neg c13] at H
        exact absurd H (by simp)
      ·rw [if_neg c12] at H
       exact absurd H (by simp)
     ·rw [if_neg c11] at H
      exact absurd H (by simp)
    ·rw [if_neg c10] at H
     exact absurd H (by simp)
   ·rw [if_neg c9] at H
    exact absurd H (by simp)
  ·rw [if_neg c8] at H
   exact absurd H (by simp)
 ·rw [if_neg c7] at H
  exact absurd H (by simp)

end Go.Proofs.YtcmppjonpmgncaaDoor.Q

/- Small lemmas that the hand-proved contracts of this seat use. -/

namespace Go.Proofs.YtcmppjonpmgncaaDoor.Q
open Go.RowKit Go.Proofs.YtcmppjonpmgncaaDoorW.PrintWords Go.Proofs.YtcmppjonpmgncaaDoorW.PrintLast Go.Proofs.YtcmppjonpmgncaaDoorW.PrintMore
set_option linter.unusedVariables false
set_option linter.unusedSimpArgs false
theorem Drawn0.trans {w w1 w2 : World} (h : Drawn0 w w1) (k : Drawn0 w1 w2) : Drawn0 w w2 := by
 obtain ⟨n, rfl⟩ := k
 exact h.step n
theorem tl_len (s : ByteArray) : s.toList.length = s.size := by rw [ByteArray.toList_eq, Array.length_toList]; rfl
theorem all_succ {P : Nat → Prop} {k : Nat} (h : ∀ i, i < k → P i) (hk : P k) : ∀ i, i < k + 1 → P i := fun i hi => by
 by_cases e : i = k
 ·subst e; exact hk
 ·exact h i (by omega)
theorem getD_at {α : Type} (l : List α) (z : α) {k : Nat} (hk : k < l.length) : l.getD k z = l[k] := by simp [List.getD, List.getElem?_eq_getElem hk]
/-- Where the first stands of which p holds; -1: there is none. -/
def findR {α : Type} (p : α → Bool) (l : List α) : Int := if l.findIdx p < l.length then (l.findIdx p : Int) else -1
theorem find_lt {α : Type} {p : α → Bool} {l : List α} {m : Nat} (h : findR p l = (m : Int)) : m < l.length := by
 unfold findR at h
 split at h <;> omega
theorem find_last {α : Type} {p : α → Bool} {l : List α} {z : α} {k : Nat} (hk : k < l.length) (h : ∀ i : Nat, i < k → p (l.getD i z) = false) (h2 : p (l.getD k z) = true) : findR p l = k := by
 have e : l.findIdx p = k := by
  rw [List.findIdx_eq hk]
  refine ⟨by rw [← getD_at l z hk]; exact h2, fun j hj => by rw [← getD_at l z (by omega)]; exact h j hj⟩
 unfold findR; rw [e, if_pos hk]
theorem find_none {α : Type} {p : α → Bool} {l : List α} {z : α} (h : ∀ i : Nat, i < l.length → p (l.getD i z) = false) : findR p l = -1 := by
 unfold findR
 rw [if_neg]
 intro hlt
 have := List.findIdx_getElem (w := hlt)
 rw [← getD_at l z hlt, h _ hlt] at this
 cases this
def placeOf (m : Int) : Int × Bool := if m < 0 then (0, false) else (m, true)
noncomputable def decB (p : Prop) : Bool := @decide p (Classical.propDecidable p)
theorem decB_true {p : Prop} (h : p) : decB p = true := by unfold decB; exact @decide_eq_true p (Classical.propDecidable p) h
theorem decB_false {p : Prop} (h : ¬ p) : decB p = false := by unfold decB; exact @decide_eq_false p (Classical.propDecidable p) h
theorem bytes_eq {a b : ByteArray} (h : a.toList = b.toList) : a = b := by
 rw [ByteArray.toList_eq, ByteArray.toList_eq] at h
 cases a; cases b; simp only [Array.toList_inj] at h; rw [h]
theorem lists_eq {α : Type} {l l' : List α} (z : α) (hn : l.length = l'.length) (h : ∀ j : Nat, j < l.length → l.getD j z = l'.getD j z) : l = l' := by
 apply List.ext_getElem hn
 intro i h1 h2
 have := h i h1
 rwa [getD_at l z h1, getD_at l' z h2] at this
theorem wrap_succ {i : Int} (h0 : 0 ≤ i) (h : i < 9223372036854775807) : wrap64 (i + 1) = i + 1 := by unfold wrap64; omega
end Go.Proofs.YtcmppjonpmgncaaDoor.Q

/- truantref01.Sign and Level, tables in an array: by hand. -/
namespace Go.Proofs.YtcmppjonpmgncaaDoor.Q
open Go.RowKit Go.Proofs.YtcmppjonpmgncaaDoorW.PrintWords Go.Proofs.YtcmppjonpmgncaaDoorW.PrintLast Go.Proofs.YtcmppjonpmgncaaDoorW.PrintMore
set_option linter.unusedVariables false
set_option linter.unusedSimpArgs false
def refSigns : List ByteArray := [(⟨#[]⟩ : ByteArray), (⟨#[43]⟩ : ByteArray), (⟨#[45]⟩ : ByteArray), (⟨#[42]⟩ : ByteArray), (⟨#[47]⟩ : ByteArray), (⟨#[37]⟩ : ByteArray), (⟨#[38]⟩ : ByteArray), (⟨#[124]⟩ : ByteArray), (⟨#[94]⟩ : ByteArray), (⟨#[60, 60]⟩ : ByteArray), (⟨#[62, 62]⟩ : ByteArray), (⟨#[61, 61]⟩ : ByteArray), (⟨#[33, 61]⟩ : ByteArray), (⟨#[60]⟩ : ByteArray), (⟨#[60, 61]⟩ : ByteArray), (⟨#[62]⟩ : ByteArray), (⟨#[62, 61]⟩ : ByteArray), (⟨#[45]⟩ : ByteArray), (⟨#[33]⟩ : ByteArray)]
def refLevels : List Int := [0, 4, 4, 5, 5, 5, 5, 4, 4, 5, 5, 3, 3, 3, 3, 3, 3, 0, 0]
def truantref01_Sign.f (a0 : Int) : Option ByteArray := some (if 1 ≤ a0 ∧ a0 ≤ 18 then refSigns.getD a0.toNat ByteArray.empty else ⟨#[]⟩)
def truantref01_Level.f (a0 : Int) : Option Int := some (if 1 ≤ a0 ∧ a0 ≤ 18 then refLevels.getD a0.toNat 0 else 0)
section
variable {P : Program}
theorem wpList_build' {ops : Array Oper} {rest : List Oper} {o : Oper} {a : Act} {w : World} {Q : Exit → Act → World → Prop} (hg : o.guard = none) (t : TypeId) (parts : Array (Nat × Operand)) (ho : o.op = .build t parts) (C : Array Value)
  (hf : P.built t (parts.map fun (i, x) => (i, a.eval x)).toList = some C)
  (h : wpList P ops Q rest (a.put o.dst (.agg C)) w) : wpList P ops Q (o :: rest) a w :=
 wpList_build hg t parts ho (by rw [hf]; rfl) (by rw [hf]; exact h)
theorem wpList_alloc_row {ops : Array Oper} {rest : List Oper} {o : Oper} {a : Act} {w : World} {Q : Exit → Act → World → Prop} (hg : o.guard = none) (t : TypeId) (ho : o.op = .alloc t) (z : Array Value) (hz : ∀ w, (zeroValue t).run P w = .ok (.agg z) w)
  (h : wpList P ops Q rest (a.put o.dst (.pointer (some ⟨w.heap.size, 0, none⟩))) (w.alloc (.cells z t))) : wpList P ops Q (o :: rest) a w :=
 wpList_plain hg fun _ hK => by
  unfold Oper.wp execOp
  simp [ho, Instr.alloc, hz]
  exact hK _ _ h
theorem wpList_store_new {ops : Array Oper} {rest : List Oper} {o : Oper} {a : Act} {w : World} {Q : Exit → Act → World → Prop} (hgd : o.guard = none) (ty : TypeId) (x y : Operand) (ho : o.op = .store ty x y) (c C : Array Value)
  (hx : a.eval x = .pointer (some ⟨w.heap.size, 0, none⟩)) (hy : a.eval y = .agg C) (hi : (P.info? ty).map (·.size) = some C.size) (hc : c.size = C.size) (h1 : C.all (·.oneCell') = true)
  (h : wpList P ops Q rest (a.put o.dst undef) (w.alloc (.cells C ty))) : wpList P ops Q (o :: rest) a (w.alloc (.cells c ty)) :=
 wpList_plain hgd fun _ hK => by
  unfold Oper.wp execOp
  simp only [ho, hx, hy, Sem.run_bind, run_storeAt_new w ty c C hi hc h1, Result.andThen_ok]
  exact hK _ _ h
end
set_option maxHeartbeats 4000000 in
set_option maxRecDepth 100000 in
theorem truantref01_Sign.calls (a0 : Int) (r : ByteArray) (w : World) (h : truantref01_Sign.f a0 = some r) :
  Calls Tryd.prog 15 #[.int .i64 a0] w fun e w' => e = .returned (.string r) ∧ Below w.heap.size w w' := by
 have hr := (Option.some.inj h).symm
 clear h
 obtain ⟨C, hC⟩ : ∃ C : Array Value, C = (refSigns.map Value.string).toArray := ⟨_, rfl⟩
 have hn : C.size = 19 := by rw [hC]; rfl
 have h1 : C.all (·.oneCell') = true := by rw [hC]; kernel_rfl
 have hat : ∀ i : Nat, i < 19 → C[i]? = some (.string (refSigns.getD i ByteArray.empty)) := by
  intro i hi
  rw [hC]
  have : refSigns.length = 19 := rfl
  simp [List.getD, List.getElem?_eq_getElem (show i < refSigns.length by omega)]
 go_enter Tryd.func15, Tryd.ntmps15
 go_upto_region 1 with (fail)
 apply wp_region_lit
 refine wpList_build' rfl 52 _ rfl C (by rw [hC]; kernel_rfl) ?_
 clear hC
 refine wpList_alloc_row rfl 52 rfl _ Tryd.zeroValue52 ?_
 refine wpList_store_new rfl 52 _ _ rfl _ C rfl rfl (by rw [hn]; kernel_rfl) (by rw [hn]; kernel_rfl) h1 ?_
 have hcell : ∀ i : Nat, i < 19 → (w.alloc (.cells C 52)).cell? ⟨w.heap.size, i, none⟩ = some (.string (refSigns.getD i ByteArray.empty)) := fun i hi => by
  rw [World.cell?_alloc_new]; exact hat i hi
 have HB : Aside0 (Below w.heap.size w (w.alloc (.cells C 52))) := ⟨by with_reducible (apply below_alloc; exact Below.refl _ _)⟩
 have HC := Aside0.mk hcell
 clear hcell hat h1 hn
 generalize w.alloc (.cells C 52) = w1 at HB HC ⊢
 generalize w.heap.size = B at HC ⊢
 by_cases h1 : a0 < 1
 ·rw [if_neg (by omega)] at hr
  subst hr
  go_wp2
  go_ret
  exact ⟨rfl, HB.out⟩
 ·by_cases h18 : a0 > 18
  ·rw [if_neg (by omega)] at hr
   subst hr
   go_wp2
   go_ret
   exact ⟨rfl, HB.out⟩
  ·obtain ⟨n, rfl⟩ : ∃ n : Nat, a0 = n := ⟨a0.toNat, by omega⟩
   rw [if_pos (by omega), show ((n : Int).toNat) = n from rfl] at hr
   have hc := HC.out n (by omega)
   rw [← hr] at hc
   clear HC hr
   have hlt : n < 19 := by omega
   go_wp2
   go_ret
   exact ⟨rfl, HB.out⟩
set_option maxHeartbeats 4000000 in
set_option maxRecDepth 100000 in
theorem truantref01_Level.calls (a0 : Int) (r : Int) (w : World) (h : truantref01_Level.f a0 = some r) :
  Calls Tryd.prog 19 #[.int .i64 a0] w fun e w' => e = .returned (.int .i64 r) ∧ Below w.heap.size w w' := by
 have hr := (Option.some.inj h).symm
 clear h
 obtain ⟨C, hC⟩ : ∃ C : Array Value, C = (refLevels.map (Value.int .i64)).toArray := ⟨_, rfl⟩
 have hn : C.size = 19 := by rw [hC]; rfl
 have h1 : C.all (·.oneCell') = true := by rw [hC]; kernel_rfl
 have hat : ∀ i : Nat, i < 19 → C[i]? = some (.int .i64 (refLevels.getD i 0)) := by
  intro i hi
  rw [hC]
  have : refLevels.length = 19 := rfl
  simp [List.getD, List.getElem?_eq_getElem (show i < refLevels.length by omega)]
 go_enter Tryd.func19, Tryd.ntmps19
 go_upto_region 1 with (fail)
 apply wp_region_lit
 refine wpList_build' rfl 56 _ rfl C (by rw [hC]; kernel_rfl) ?_
 clear hC
 refine wpList_alloc_row rfl 56 rfl _ Tryd.zeroValue56 ?_
 refine wpList_store_new rfl 56 _ _ rfl _ C rfl rfl (by rw [hn]; kernel_rfl) (by rw [hn]; kernel_rfl) h1 ?_
 have hcell : ∀ i : Nat, i < 19 → (w.alloc (.cells C 56)).cell? ⟨w.heap.size, i, none⟩ = some (.int .i64 (refLevels.getD i 0)) := fun i hi => by
  rw [World.cell?_alloc_new]; exact hat i hi
 have HB : Aside0 (Below w.heap.size w (w.alloc (.cells C 56))) := ⟨by with_reducible (apply below_alloc; exact Below.refl _ _)⟩
 have HC := Aside0.mk hcell
 clear hcell hat h1 hn
 generalize w.alloc (.cells C 56) = w1 at HB HC ⊢
 generalize w.heap.size = B at HC ⊢
 by_cases h1 : a0 < 1
 ·rw [if_neg (by omega)] at hr
  subst hr
  go_wp2
  go_ret
  exact ⟨rfl, HB.out⟩
 ·by_cases h18 : a0 > 18
  ·rw [if_neg (by omega)] at hr
   subst hr
   go_wp2
   go_ret
   exact ⟨rfl, HB.out⟩
  ·obtain ⟨n, rfl⟩ : ∃ n : Nat, a0 = n := ⟨a0.toNat, by omega⟩
   rw [if_pos (by omega), show ((n : Int).toNat) = n from rfl] at hr
   have hc := HC.out n (by omega)
   rw [← hr] at hc
   clear HC hr
   have hlt : n < 19 := by omega
   go_wp2
   go_ret
   exact ⟨rfl, HB.out⟩
end Go.Proofs.YtcmppjonpmgncaaDoor.Q

namespace Go.Proofs.YtcmppjonpmgncaaDoor.Q
open Go.RowKit Go.Proofs.YtcmppjonpmgncaaDoorW.PrintWords Go.Proofs.YtcmppjonpmgncaaDoorW.PrintLast Go.Proofs.YtcmppjonpmgncaaDoorW.PrintMore
attribute [local go_sem] max2_int min2_int max_two min_two max_three min_three max_four min_four   -- for this text's walks alone
set_option linter.unusedVariables false
set_option linter.unusedSimpArgs false

/-! ### truantlaw01_NumSigns: function 4 -/
def truantlaw01_NumSigns.l0 : Nat → Int → ByteArray → Int → Int → Int → Option (Bool)
 | 0, _, _, _, _, _ => none
 | k + 1, x0, x1, x2, x7, x8 => if x8 ≤ 18 then ((truantref01_Sign.f x8).bind fun t288 => (if t288.toList = x1.toList then (if x2 = 2 then (if x8 ≤ 16 then (truantlaw01_NumSigns.l0 k x0 x1 x2 x8 (wrap64 (x8 + 1))) else (if x2 = 1 then (if x8 > 16 then (truantlaw01_NumSigns.l0 k x0 x1 x2 x8 (wrap64 (x8 + 1))) else (truantlaw01_NumSigns.l0 k x0 x1 x2 x7 (wrap64 (x8 + 1)))) else (truantlaw01_NumSigns.l0 k x0 x1 x2 x7 (wrap64 (x8 + 1))))) else (if x2 = 1 then (if x8 > 16 then (truantlaw01_NumSigns.l0 k x0 x1 x2 x8 (wrap64 (x8 + 1))) else (truantlaw01_NumSigns.l0 k x0 x1 x2 x7 (wrap64 (x8 + 1)))) else (truantlaw01_NumSigns.l0 k x0 x1 x2 x7 (wrap64 (x8 + 1))))) else (truantlaw01_NumSigns.l0 k x0 x1 x2 x7 (wrap64 (x8 + 1))))) else ((num_Signed.f k x1 x2).bind fun bt289 => (if bt289.1 = x7 then (if (bt289.2 == (x7 != 0)) = true then ((num_Sign.f x0).bind fun t291 => ((truantref01_Sign.f x0).bind fun t292 => (if t291.toList = t292.toList then ((num_Level.f k x0).bind fun t293 => ((truantref01_Level.f x0).bind fun t294 => (some (t293 == t294)))) else (none)))) else (none)) else (none)))
def truantlaw01_NumSigns.f (k : Nat) (a0 : Int) (a1 : ByteArray) (a2 : Int) : Option (Bool) := (truantlaw01_awake.f k).bind fun t287 => (if t287 = true then (if (a1.size : Int) > 100 then (some true) else (truantlaw01_NumSigns.l0 k a0 a1 a2 0 1)) else (none))
theorem truantlaw01_NumSigns.mono_l : ∀ k, (∀ y0 y1 y2 y3 y4, LeO (truantlaw01_NumSigns.l0 k y0 y1 y2 y3 y4) (truantlaw01_NumSigns.l0 (k + 1) y0 y1 y2 y3 y4))
 | 0 => fun _ _ _ _ _ r h => by simp [truantlaw01_NumSigns.l0] at h
 | k + 1 => by
  have ih0 := truantlaw01_NumSigns.mono_l k
  ·intro y0 y1 y2 y3 y4
   unfold truantlaw01_NumSigns.l0
   repeat' first
   | (with_reducible exact ih0 _ _ _ _ _)
   | (with_reducible exact num_Level.mono _ _)
   | (with_reducible exact num_Signed.mono _ _ _)
   | (with_reducible exact truantlaw01_awake.mono _)
   | (with_reducible exact LeO.refl _)
   | (with_reducible exact LeO.none _)
   | (with_reducible refine LeO.ite ?_ ?_)
   | (with_reducible refine LeO.bind ?_ (fun _ => ?_))
   | exact ih0 _ _ _ _ _
   | exact num_Level.mono _ _
   | exact num_Signed.mono _ _ _
   | exact truantlaw01_awake.mono _
   | exact LeO.none _
   | refine LeO.ite ?_ ?_
   | refine LeO.bind ?_ (fun _ => ?_)
theorem truantlaw01_NumSigns.mono : ∀ a0 a1 a2 k, LeO (truantlaw01_NumSigns.f k a0 a1 a2) (truantlaw01_NumSigns.f (k + 1) a0 a1 a2) := by
 intro a0 a1 a2 k
 have ih0 := truantlaw01_NumSigns.mono_l k
 unfold truantlaw01_NumSigns.f
 repeat' first
   | (with_reducible exact ih0 _ _ _ _ _)
   | (with_reducible exact num_Level.mono _ _)
   | (with_reducible exact num_Signed.mono _ _ _)
   | (with_reducible exact truantlaw01_awake.mono _)
   | (with_reducible exact LeO.refl _)
   | (with_reducible exact LeO.none _)
   | (with_reducible refine LeO.ite ?_ ?_)
   | (with_reducible refine LeO.bind ?_ (fun _ => ?_))
   | exact ih0 _ _ _ _ _
   | exact num_Level.mono _ _
   | exact num_Signed.mono _ _ _
   | exact truantlaw01_awake.mono _
   | exact LeO.none _
   | refine LeO.ite ?_ ?_
   | refine LeO.bind ?_ (fun _ => ?_)
set_option maxHeartbeats 8000000 in
set_option maxRecDepth 100000 in
theorem truantlaw01_NumSigns.calls (k : Nat) (a0 : Int) (a1 : ByteArray) (a2 : Int) (r : Bool) (w : World) (h : truantlaw01_NumSigns.f k a0 a1 a2 = some r) (hG : Glob w := by first | assumption | (refine Glob.below (by assumption) ?_; repeat (first | exact (Aside0.out (by assumption)) | (with_reducible first | apply below_alloc | apply pw_below_drewN | apply below_drew1)))) :
  Calls Tryd.prog 4 #[.int .i64 a0, .string a1, .int .i64 a2] w fun e w' => e = .returned (.bool r) ∧ Below w.heap.size w w' := by
 have HB := Aside0.mk (Below.refl w.heap.size w)
 have H : ((truantlaw01_awake.f k).bind fun t287 => (if t287 = true then (if (a1.size : Int) > 100 then (some true) else (truantlaw01_NumSigns.l0 k a0 a1 a2 0 1)) else (none))) = some r := h
 clear h
 replace H := Option.bind_eq_some_iff.mp H
 obtain ⟨t287, A40, H⟩ := H
 replace H : (if t287 = true then (if (a1.size : Int) > 100 then (some true) else (truantlaw01_NumSigns.l0 k a0 a1 a2 0 1)) else (none)) = some r := H
 have A4 := Aside0.mk A40
 clear A40
 by_cases c5 : t287 = true
 ·subst c5
  have H1 : (if (a1.size : Int) > 100 then (some true) else (truantlaw01_NumSigns.l0 k a0 a1 a2 0 1)) = some r := by rw [if_pos rfl] at H; exact H
  clear H
  have H := H1
  clear H1
  by_cases c6 : (a1.size : Int) > 100
  ·rw [if_pos c6] at H
   have c6b0 : decide (100 < (a1.size : Int)) = true := decide_eq_true c6
   have c6b1 : decide (100 < a1.size) = true := decide_eq_true (by omega)
   clear c6
   obtain rfl := Option.some.inj H
   go_enter Tryd.func4, Tryd.ntmps4
   go_wp2_with (first | ((with_reducible refine gate_callee (f := 10) rfl ?_); refine goesL_ (some 11) rfl rfl Tryd.func10 (by kernel_rfl) rfl #[] rfl (by (try simp only [List.map_toArray, List.map_cons, List.map_nil]); first | done | rfl | (simp only [List.length_drop, List.length_take]; rfl)) ?_; (with_reducible refine (truantlaw01_awake.calls k  true _ A4.out).mono ?_); rintro e w7 ⟨rfl, hb⟩; refine ⟨_, rfl, ?_⟩; have n0_ := Aside0.mk (below_step (by repeat (first | (with_reducible first | exact HB.out | apply below_alloc | apply pw_below_drewN | apply below_drew1) | exact HB.out)) hb); clear HB; have HB := n0_; clear n0_; (try clear hb); (try clear hb2); (try clear hk); (try clear hi)))
   go_ret
   exact ⟨by first | rfl | (simp [errW_none, errW_some] <;> rfl) | (simp [*, errW_none, errW_some] <;> rfl), by repeat (first | (with_reducible first | exact HB.out | apply below_alloc | apply pw_below_drewN | apply below_drew1) | exact HB.out)⟩
  ·rw [if_neg c6] at H
   have c6b0 : decide (100 < (a1.size : Int)) = false := decide_eq_false c6
   have c6b1 : decide (100 < a1.size) = false := decide_eq_false (by omega)
   clear c6
   have H' := Aside0.mk H
   clear H
   go_enter Tryd.func4, Tryd.ntmps4
   go_wp2_with (first | ((with_reducible refine gate_callee (f := 10) rfl ?_); refine goesL_ (some 11) rfl rfl Tryd.func10 (by kernel_rfl) rfl #[] rfl (by (try simp only [List.map_toArray, List.map_cons, List.map_nil]); first | done | rfl | (simp only [List.length_drop, List.length_take]; rfl)) ?_; (with_reducible refine (truantlaw01_awake.calls k  true _ A4.out).mono ?_); rintro e w8 ⟨rfl, hb⟩; refine ⟨_, rfl, ?_⟩; have n0_ := Aside0.mk (below_step (by repeat (first | (with_reducible first | exact HB.out | apply below_alloc | apply pw_below_drewN | apply below_drew1) | exact HB.out)) hb); clear HB; have HB := n0_; clear n0_; (try clear hb); (try clear hb2); (try clear hk); (try clear hi)))
   go_loopg [7, 8] k (fun kq v7 v8 w' => ∃ (x7_1 : Int) (x8_1 : Int), v7 = .int .i64 x7_1 ∧ v8 = .int .i64 x8_1 ∧ Aside0 (truantlaw01_NumSigns.l0 kq a0 a1 a2 x7_1 x8_1 = some r) ∧ Aside0 (kq ≤ k) ∧ Aside0 (Below w.heap.size w w'))
   case atStart => exact ⟨(0), (1), (by first | rfl | (simp; done) | (simp [*]; done)), (by first | rfl | (simp; done) | (simp [*]; done)), H', ⟨Nat.le_refl _⟩, ⟨by repeat (first | (with_reducible first | exact HB.out | apply below_alloc | apply pw_below_drewN | apply below_drew1) | exact HB.out)⟩⟩
   case round =>
    clear H'
    try clear c1
    try clear p2
    try clear c4
    try clear c5
    try clear c6
    try clear c6b0
    try clear c6b1
    obtain ⟨x7_1, x8_1, rfl, rfl, HA, HK1, HB⟩ := hrel
    cases gk with
    | zero => exact absurd HA.out (by simp [truantlaw01_NumSigns.l0])
    | succ k1 =>
     have H := HA.out
     clear HA
     simp only [truantlaw01_NumSigns.l0] at H
     by_cases c9 : x8_1 ≤ 18
     ·rw [if_pos c9] at H
      have c9b0 : decide (x8_1 ≤ 18) = true := decide_eq_true c9
      clear c9
      replace H := Option.bind_eq_some_iff.mp H
      obtain ⟨t288, A100, H⟩ := H
      replace H : (if t288.toList = a1.toList then (if a2 = 2 then (if x8_1 ≤ 16 then (truantlaw01_NumSigns.l0 k1 a0 a1 a2 x8_1 (wrap64 (x8_1 + 1))) else (if a2 = 1 then (if x8_1 > 16 then (truantlaw01_NumSigns.l0 k1 a0 a1 a2 x8_1 (wrap64 (x8_1 + 1))) else (truantlaw01_NumSigns.l0 k1 a0 a1 a2 x7_1 (wrap64 (x8_1 + 1)))) else (truantlaw01_NumSigns.l0 k1 a0 a1 a2 x7_1 (wrap64 (x8_1 + 1))))) else (if a2 = 1 then (if x8_1 > 16 then (truantlaw01_NumSigns.l0 k1 a0 a1 a2 x8_1 (wrap64 (x8_1 + 1))) else (truantlaw01_NumSigns.l0 k1 a0 a1 a2 x7_1 (wrap64 (x8_1 + 1)))) else (truantlaw01_NumSigns.l0 k1 a0 a1 a2 x7_1 (wrap64 (x8_1 + 1))))) else (truantlaw01_NumSigns.l0 k1 a0 a1 a2 x7_1 (wrap64 (x8_1 + 1)))) = some r := H
      have A10 := Aside0.mk A100
      clear A100
      by_cases c11 : t288.toList = a1.toList
      ·rw [if_pos c11] at H
       have c11b0 : (t288.toList == a1.toList) = true := beq_iff_eq.mpr c11
       have c11b1 : (t288.toList != a1.toList) = false := bne_eq_false_iff_eq.mpr c11
       clear c11
       by_cases c12 : a2 = 2
       ·rw [if_pos c12] at H
        have c12b0 : (a2 == 2) = true := beq_iff_eq.mpr c12
        have c12b1 : (a2 != 2) = false := bne_eq_false_iff_eq.mpr c12
        clear c12
        by_cases c13 : x8_1 ≤ 16
        ·rw [if_pos c13] at H
         have c13b0 : decide (x8_1 ≤ 16) = true := decide_eq_true c13
         clear c13
         have H' := Aside0.mk H
         clear H
         go_wp2_with (first | ((with_reducible refine gate_callee (f := 15) rfl ?_); refine goesL_ (some 21) rfl rfl Tryd.func15 (by kernel_rfl) rfl #[.int .i64 x8_1] rfl (by (try simp only [List.map_toArray, List.map_cons, List.map_nil]); first | done | rfl | (simp only [List.length_drop, List.length_take]; rfl)) ?_; (with_reducible refine (truantref01_Sign.calls x8_1 t288 _ A10.out).mono ?_); rintro e w14 ⟨rfl, hb⟩; refine ⟨_, rfl, ?_⟩; have n0_ := Aside0.mk (below_step (by repeat (first | (with_reducible first | exact HB.out | apply below_alloc | apply pw_below_drewN | apply below_drew1) | exact HB.out)) hb); clear HB; have HB := n0_; clear n0_; (try clear hb); (try clear hb2); (try clear hk); (try clear hi)))
         go_roundg k1
         case measure => have := HK1.out; omega
         case rel => exact ⟨(x8_1), (wrap64 (x8_1 + 1)), (by first | rfl | (simp; done) | (simp [*]; done)), (by first | rfl | (simp; done) | (simp [*]; done)), H', ⟨by have := HK1.out; omega⟩, ⟨by repeat (first | (with_reducible first | exact HB.out | apply below_alloc | apply pw_below_drewN | apply below_drew1) | exact HB.out)⟩⟩
        ·rw [if_neg c13] at H
         have c13b0 : decide (x8_1 ≤ 16) = false := decide_eq_false c13
         clear c13
         by_cases c15 : a2 = 1
         ·rw [if_pos c15] at H
          have c15b0 : (a2 == 1) = true := beq_iff_eq.mpr c15
          have c15b1 : (a2 != 1) = false := bne_eq_false_iff_eq.mpr c15
          clear c15
          by_cases c16 : x8_1 > 16
          ·rw [if_pos c16] at H
           have c16b0 : decide (16 < x8_1) = true := decide_eq_true c16
           clear c16
           have H' := Aside0.mk H
           clear H
           go_wp2_with (first | ((with_reducible refine gate_callee (f := 15) rfl ?_); refine goesL_ (some 21) rfl rfl Tryd.func15 (by kernel_rfl) rfl #[.int .i64 x8_1] rfl (by (try simp only [List.map_toArray, List.map_cons, List.map_nil]); first | done | rfl | (simp only [List.length_drop, List.length_take]; rfl)) ?_; (with_reducible refine (truantref01_Sign.calls x8_1 t288 _ A10.out).mono ?_); rintro e w17 ⟨rfl, hb⟩; refine ⟨_, rfl, ?_⟩; have n0_ := Aside0.mk (below_step (by repeat (first | (with_reducible first | exact HB.out | apply below_alloc | apply pw_below_drewN | apply below_drew1) | exact HB.out)) hb); clear HB; have HB := n0_; clear n0_; (try clear hb); (try clear hb2); (try clear hk); (try clear hi)))
           go_roundg k1
           case measure => have := HK1.out; omega
           case rel => exact ⟨(x8_1), (wrap64 (x8_1 + 1)), (by first | rfl | (simp; done) | (simp [*]; done)), (by first | rfl | (simp; done) | (simp [*]; done)), H', ⟨by have := HK1.out; omega⟩, ⟨by repeat (first | (with_reducible first | exact HB.out | apply below_alloc | apply pw_below_drewN | apply below_drew1) | exact HB.out)⟩⟩
          ·rw [if_neg c16] at H
           have c16b0 : decide (16 < x8_1) = false := decide_eq_false c16
           clear c16
           have H' := Aside0.mk H
           clear H
           go_wp2_with (first | ((with_reducible refine gate_callee (f := 15) rfl ?_); refine goesL_ (some 21) rfl rfl Tryd.func15 (by kernel_rfl) rfl #[.int .i64 x8_1] rfl (by (try simp only [List.map_toArray, List.map_cons, List.map_nil]); first | done | rfl | (simp only [List.length_drop, List.length_take]; rfl)) ?_; (with_reducible refine (truantref01_Sign.calls x8_1 t288 _ A10.out).mono ?_); rintro e w18 ⟨rfl, hb⟩; refine ⟨_, rfl, ?_⟩; have n0_ := Aside0.mk (below_step (by repeat (first | (with_reducible first | exact HB.out | apply below_alloc | apply pw_below_drewN | apply below_drew1) | exact HB.out)) hb); clear HB; have HB := n0_; clear n0_; (try clear hb); (try clear hb2); (try clear hk); (try clear hi)))
           go_roundg k1
           case measure => have := HK1.out; omega
           case rel => exact ⟨(x7_1), (wrap64 (x8_1 + 1)), (by first | rfl | (simp; done) | (simp [*]; done)), (by first | rfl | (simp; done) | (simp [*]; done)), H', ⟨by have := HK1.out; omega⟩, ⟨by repeat (first | (with_reducible first | exact HB.out | apply below_alloc | apply pw_below_drewN | apply below_drew1) | exact HB.out)⟩⟩
         ·rw [if_neg c15] at H
          have c15b0 : (a2 == 1) = false := beq_eq_false_iff_ne.mpr c15
          have c15b1 : (a2 != 1) = true := bne_iff_ne.mpr c15
          have H' := Aside0.mk H
          clear H
          go_wp2_with (first | ((with_reducible refine gate_callee (f := 15) rfl ?_); refine goesL_ (some 21) rfl rfl Tryd.func15 (by kernel_rfl) rfl #[.int .i64 x8_1] rfl (by (try simp only [List.map_toArray, List.map_cons, List.map_nil]); first | done | rfl | (simp only [List.length_drop, List.length_take]; rfl)) ?_; (with_reducible refine (truantref01_Sign.calls x8_1 t288 _ A10.out).mono ?_); rintro e w19 ⟨rfl, hb⟩; refine ⟨_, rfl, ?_⟩; have n0_ := Aside0.mk (below_step (by repeat (first | (with_reducible first | exact HB.out | apply below_alloc | apply pw_below_drewN | apply below_drew1) | exact HB.out)) hb); clear HB; have HB := n0_; clear n0_; (try clear hb); (try clear hb2); (try clear hk); (try clear hi)))
          go_roundg k1
          case measure => have := HK1.out; omega
          case rel => exact ⟨(x7_1), (wrap64 (x8_1 + 1)), (by first | rfl | (simp; done) | (simp [*]; done)), (by first | rfl | (simp; done) | (simp [*]; done)), H', ⟨by have := HK1.out; omega⟩, ⟨by repeat (first | (with_reducible first | exact HB.out | apply below_alloc | apply pw_below_drewN | apply below_drew1) | exact HB.out)⟩⟩
       ·rw [if_neg c12] at H
        have c12b0 : (a2 == 2) = false := beq_eq_false_iff_ne.mpr c12
        have c12b1 : (a2 != 2) = true := bne_iff_ne.mpr c12
        by_cases c20 : a2 = 1
        ·rw [if_pos c20] at H
         have c20b0 : (a2 == 1) = true := beq_iff_eq.mpr c20
         have c20b1 : (a2 != 1) = false := bne_eq_false_iff_eq.mpr c20
         clear c20
         by_cases c21 : x8_1 > 16
         ·rw [if_pos c21] at H
          have c21b0 : decide (16 < x8_1) = true := decide_eq_true c21
          clear c21
          have H' := Aside0.mk H
          clear H
          go_wp2_with (first | ((with_reducible refine gate_callee (f := 15) rfl ?_); refine goesL_ (some 21) rfl rfl Tryd.func15 (by kernel_rfl) rfl #[.int .i64 x8_1] rfl (by (try simp only [List.map_toArray, List.map_cons, List.map_nil]); first | done | rfl | (simp only [List.length_drop, List.length_take]; rfl)) ?_; (with_reducible refine (truantref01_Sign.calls x8_1 t288 _ A10.out).mono ?_); rintro e w22 ⟨rfl, hb⟩; refine ⟨_, rfl, ?_⟩; have n0_ := Aside0.mk (below_step (by repeat (first | (with_reducible first | exact HB.out | apply below_alloc | apply pw_below_drewN | apply below_drew1) | exact HB.out)) hb); clear HB; have HB := n0_; clear n0_; (try clear hb); (try clear hb2); (try clear hk); (try clear hi)))
          go_roundg k1
          case measure => have := HK1.out; omega
          case rel => exact ⟨(x8_1), (wrap64 (x8_1 + 1)), (by first | rfl | (simp; done) | (simp [*]; done)), (by first | rfl | (simp; done) | (simp [*]; done)), H', ⟨by have := HK1.out; omega⟩, ⟨by repeat (first | (with_reducible first | exact HB.out | apply below_alloc | apply pw_below_drewN | apply below_drew1) | exact HB.out)⟩⟩
         ·rw [if_neg c21] at H
          have c21b0 : decide (16 < x8_1) = false := decide_eq_false c21
          clear c21
          have H' := Aside0.mk H
          clear H
          go_wp2_with (first | ((with_reducible refine gate_callee (f := 15) rfl ?_); refine goesL_ (some 21) rfl rfl Tryd.func15 (by kernel_rfl) rfl #[.int .i64 x8_1] rfl (by (try simp only [List.map_toArray, List.map_cons, List.map_nil]); first | done | rfl | (simp only [List.length_drop, List.length_take]; rfl)) ?_; (with_reducible refine (truantref01_Sign.calls x8_1 t288 _ A10.out).mono ?_); rintro e w23 ⟨rfl, hb⟩; refine ⟨_, rfl, ?_⟩; have n0_ := Aside0.mk (below_step (by repeat (first | (with_reducible first | exact HB.out | apply below_alloc | apply pw_below_drewN | apply below_drew1) | exact HB.out)) hb); clear HB; have HB := n0_; clear n0_; (try clear hb); (try clear hb2); (try clear hk); (try clear hi)))
          go_roundg k1
          case measure => have := HK1.out; omega
          case rel => exact ⟨(x7_1), (wrap64 (x8_1 + 1)), (by first | rfl | (simp; done) | (simp [*]; done)), (by first | rfl | (simp; done) | (simp [*]; done)), H', ⟨by have := HK1.out; omega⟩, ⟨by repeat (first | (with_reducible first | exact HB.out | apply below_alloc | apply pw_below_drewN | apply below_drew1) | exact HB.out)⟩⟩
        ·rw [if_neg c20] at H
         have c20b0 : (a2 == 1) = false := beq_eq_false_iff_ne.mpr c20
         have c20b1 : (a2 != 1) = true := bne_iff_ne.mpr c20
         have H' := Aside0.mk H
         clear H
         go_wp2_with (first | ((with_reducible refine gate_callee (f := 15) rfl ?_); refine goesL_ (some 21) rfl rfl Tryd.func15 (by kernel_rfl) rfl #[.int .i64 x8_1] rfl (by (try simp only [List.map_toArray, List.map_cons, List.map_nil]); first | done | rfl | (simp only [List.length_drop, List.length_take]; rfl)) ?_; (with_reducible refine (truantref01_Sign.calls x8_1 t288 _ A10.out).mono ?_); rintro e w24 ⟨rfl, hb⟩; refine ⟨_, rfl, ?_⟩; have n0_ := Aside0.mk (below_step (by repeat (first | (with_reducible first | exact HB.out | apply below_alloc | apply pw_below_drewN | apply below_drew1) | exact HB.out)) hb); clear HB; have HB := n0_; clear n0_; (try clear hb); (try clear hb2); (try clear hk); (try clear hi)))
         go_roundg k1
         case measure => have := HK1.out; omega
         case rel => exact ⟨(x7_1), (wrap64 (x8_1 + 1)), (by first | rfl | (simp; done) | (simp [*]; done)), (by first | rfl | (simp; done) | (simp [*]; done)), H', ⟨by have := HK1.out; omega⟩, ⟨by repeat (first | (with_reducible first | exact HB.out | apply below_alloc | apply pw_below_drewN | apply below_drew1) | exact HB.out)⟩⟩
      ·rw [if_neg c11] at H
       have c11b0 : (t288.toList == a1.toList) = false := beq_eq_false_iff_ne.mpr c11
       have c11b1 : (t288.toList != a1.toList) = true := bne_iff_ne.mpr c11
       have H' := Aside0.mk H
       clear H
       go_wp2_with (first | ((with_reducible refine gate_callee (f := 15) rfl ?_); refine goesL_ (some 21) rfl rfl Tryd.func15 (by kernel_rfl) rfl #[.int .i64 x8_1] rfl (by (try simp only [List.map_toArray, List.map_cons, List.map_nil]); first | done | rfl | (simp only [List.length_drop, List.length_take]; rfl)) ?_; (with_reducible refine (truantref01_Sign.calls x8_1 t288 _ A10.out).mono ?_); rintro e w25 ⟨rfl, hb⟩; refine ⟨_, rfl, ?_⟩; have n0_ := Aside0.mk (below_step (by repeat (first | (with_reducible first | exact HB.out | apply below_alloc | apply pw_below_drewN | apply below_drew1) | exact HB.out)) hb); clear HB; have HB := n0_; clear n0_; (try clear hb); (try clear hb2); (try clear hk); (try clear hi)))
       go_roundg k1
       case measure => have := HK1.out; omega
       case rel => exact ⟨(x7_1), (wrap64 (x8_1 + 1)), (by first | rfl | (simp; done) | (simp [*]; done)), (by first | rfl | (simp; done) | (simp [*]; done)), H', ⟨by have := HK1.out; omega⟩, ⟨by repeat (first | (with_reducible first | exact HB.out | apply below_alloc | apply pw_below_drewN | apply below_drew1) | exact HB.out)⟩⟩
     ·rw [if_neg c9] at H
      have c9b0 : decide (x8_1 ≤ 18) = false := decide_eq_false c9
      clear c9
      replace H := Option.bind_eq_some_iff.mp H
      obtain ⟨⟨t289, t290⟩, A260, H⟩ := H
      replace H : (if t289 = x7_1 then (if (t290 == (x7_1 != 0)) = true then ((num_Sign.f a0).bind fun t291 => ((truantref01_Sign.f a0).bind fun t292 => (if t291.toList = t292.toList then ((num_Level.f k1 a0).bind fun t293 => ((truantref01_Level.f a0).bind fun t294 => (some (t293 == t294)))) else (none)))) else (none)) else (none)) = some r := H
      have A26 := Aside0.mk A260
      clear A260
      by_cases c27 : t289 = x7_1
      ·rw [if_pos c27] at H
       have c27b0 : (t289 == x7_1) = true := beq_iff_eq.mpr c27
       have c27b1 : (t289 != x7_1) = false := bne_eq_false_iff_eq.mpr c27
       clear c27
       by_cases c28 : (t290 == (x7_1 != 0)) = true
       ·rw [if_pos c28] at H
        have c28b0 : (t290 == (x7_1 != 0)) = true := c28
        (try (have c28b1 : decide (t290 = (x7_1 != 0)) = true := by simpa using c28))
        (try (have c28b2 : (t290 == (x7_1 != 0)) = true := by simpa using c28))
        clear c28
        replace H := Option.bind_eq_some_iff.mp H
        obtain ⟨t291, A290, H⟩ := H
        replace H : ((truantref01_Sign.f a0).bind fun t292 => (if t291.toList = t292.toList then ((num_Level.f k1 a0).bind fun t293 => ((truantref01_Level.f a0).bind fun t294 => (some (t293 == t294)))) else (none))) = some r := H
        have A29 := Aside0.mk A290
        clear A290
        replace H := Option.bind_eq_some_iff.mp H
        obtain ⟨t292, A300, H⟩ := H
        replace H : (if t291.toList = t292.toList then ((num_Level.f k1 a0).bind fun t293 => ((truantref01_Level.f a0).bind fun t294 => (some (t293 == t294)))) else (none)) = some r := H
        have A30 := Aside0.mk A300
        clear A300
        by_cases c31 : t291.toList = t292.toList
        ·rw [if_pos c31] at H
         have c31b0 : (t291.toList == t292.toList) = true := beq_iff_eq.mpr c31
         have c31b1 : (t291.toList != t292.toList) = false := bne_eq_false_iff_eq.mpr c31
         clear c31
         replace H := Option.bind_eq_some_iff.mp H
         obtain ⟨t293, A320, H⟩ := H
         replace H : ((truantref01_Level.f a0).bind fun t294 => (some (t293 == t294))) = some r := H
         have A32 := Aside0.mk A320
         clear A320
         replace H := Option.bind_eq_some_iff.mp H
         obtain ⟨t294, A330, H⟩ := H
         replace H : (some (t293 == t294)) = some r := H
         have A33 := Aside0.mk A330
         clear A330
         obtain rfl := Option.some.inj H
         go_wp2_with (first | ((with_reducible refine gate_callee (f := 16) rfl ?_); refine goesL_ (some 44) rfl rfl Tryd.func16 (by kernel_rfl) rfl #[.string a1, .int .i64 a2] rfl (by (try simp only [List.map_toArray, List.map_cons, List.map_nil]); first | done | rfl | (simp only [List.length_drop, List.length_take]; rfl)) ?_; (with_reducible refine (num_Signed.calls k1 a1 a2 t289 t290 _ A26.out).mono ?_); rintro e w34 ⟨rfl, hb⟩; refine ⟨_, rfl, ?_⟩; have n0_ := Aside0.mk (below_step (by repeat (first | (with_reducible first | exact HB.out | apply below_alloc | apply pw_below_drewN | apply below_drew1) | exact HB.out)) hb); clear HB; have HB := n0_; clear n0_; (try clear hb); (try clear hb2); (try clear hk); (try clear hi)) | (go_at_call 17; (with_reducible refine (num_Sign.calls a0 t291 _ A29.out).mono ?_); rintro e w35 ⟨rfl, hb⟩; have n0_ := Aside0.mk (below_step (by repeat (first | (with_reducible first | exact HB.out | apply below_alloc | apply pw_below_drewN | apply below_drew1) | exact HB.out)) hb); clear HB; have HB := n0_; clear n0_; (try clear hb); (try clear hb2); (try clear hk); (try clear hi)) | (go_at_call 15; (with_reducible refine (truantref01_Sign.calls a0 t292 _ A30.out).mono ?_); rintro e w36 ⟨rfl, hb⟩; have n0_ := Aside0.mk (below_step (by repeat (first | (with_reducible first | exact HB.out | apply below_alloc | apply pw_below_drewN | apply below_drew1) | exact HB.out)) hb); clear HB; have HB := n0_; clear n0_; (try clear hb); (try clear hb2); (try clear hk); (try clear hi)) | (go_at_call 18; (with_reducible refine (num_Level.calls k1 a0 t293 _ A32.out).mono ?_); rintro e w' ⟨rfl, ⟨nd, rfl⟩⟩) | (go_at_call 19; (with_reducible refine (truantref01_Level.calls a0 t294 _ A33.out).mono ?_); rintro e w37 ⟨rfl, hb⟩; have n0_ := Aside0.mk (below_step (by repeat (first | (with_reducible first | exact HB.out | apply below_alloc | apply pw_below_drewN | apply below_drew1) | exact HB.out)) hb); clear HB; have HB := n0_; clear n0_; (try clear hb); (try clear hb2); (try clear hk); (try clear hi)))
         go_ret
         exact ⟨by first | rfl | (simp [errW_none, errW_some] <;> rfl) | (simp [*, errW_none, errW_some] <;> rfl), by repeat (first | (with_reducible first | exact HB.out | apply below_alloc | apply pw_below_drewN | apply below_drew1) | exact HB.out)⟩
        ·rw [if_neg c31] at H
         exact absurd H (by simp)
       ·rw [if_neg c28] at H
        exact absurd H (by simp)
      ·rw [if_neg c27] at H
       exact absurd H (by simp)
 ·replace c5 := Bool.eq_false_iff.mpr c5
  subst c5
  have H1 : (none) = some r := by rw [if_neg (show ¬ (false = true) by decide)] at H; exact H
  clear H
  have H := H1
  clear H1
  exact absurd H (by simp)

end Go.Proofs.YtcmppjonpmgncaaDoor.Q

/- How an argument of a type reads: out of the form's reading comes the value that the printed walks take. -/
namespace Go.Proofs.YtcmppjonpmgncaaDoor.Q
open Go.RowKit Go.Proofs.YtcmppjonpmgncaaDoorW.PrintWords Go.Proofs.YtcmppjonpmgncaaDoorW.PrintLast Go.Proofs.YtcmppjonpmgncaaDoorW.PrintMore
set_option linter.unusedVariables false
set_option linter.unusedSimpArgs false
/-- What reads at type t reads as a value of kind K, of which Q holds. -/
structure Opens {α : Type} (P : Program) (t : TypeId) (K : Kd α) (Q : α → Prop) : Prop where
 out : ∀ {H : Type} {enc : TypeId × Value → H} {W : World} {base : Nat} {sp : Nat → Bool} {held : Bool} {fuel : Nat} {cs : List Value} {x : DataW H × List MemPlace},
  (∀ n ∈ x.1.weights P t, n ≤ reachBytes) → DataW.trod enc P W base sp held fuel t cs = some x → ∃ y, K.K W y cs ∧ Q y
section
variable {P : Program}
theorem opens_string {t : TypeId} (ht : P.underlying t = some .string) : Opens P t Kd.string (fun s => s.size ≤ 140737488351232) := by
 constructor
 intro H enc W base sp held fuel cs x hw h
 obtain ⟨s, rfl, rfl, hs⟩ : ∃ s : ByteArray, cs = [.string s] ∧ x = (.lit (.string s.data.toList), []) ∧ s.size ≤ maxLen := by
  cases fuel with
  | zero => simp [DataW.trod] at h
  | succ n =>
   unfold DataW.trod at h
   rw [ht] at h
   split at h <;> simp_all
 refine ⟨s, rfl, ?_⟩
 have := hw s.data.toList.length (by simp [DataW.weights])
 rw [Array.length_toList] at this
 exact this
theorem opens_int {t : TypeId} {q : IntKind} (ht : P.underlying t = some (.int q)) : Opens P t (Kd.int q) (fun n => (Lit.int q n).wf = true) := by
 constructor
 intro H enc W base sp held fuel cs x hw h
 obtain ⟨n, rfl, hs⟩ : ∃ n : Int, cs = [.int q n] ∧ (Lit.int q n).wf = true := by
  cases fuel with
  | zero => simp [DataW.trod] at h
  | succ n =>
   unfold DataW.trod at h
   rw [ht] at h
   split at h <;> simp_all
 exact ⟨n, rfl, hs⟩
theorem opens_bool {t : TypeId} (ht : P.underlying t = some .bool) : Opens P t Kd.bool (fun _ => True) := by
 constructor
 intro H enc W base sp held fuel cs x hw h
 obtain ⟨b, rfl⟩ : ∃ b : Bool, cs = [.bool b] := by
  cases fuel with
  | zero => simp [DataW.trod] at h
  | succ n =>
   unfold DataW.trod at h
   rw [ht] at h
   split at h <;> simp_all
 exact ⟨b, rfl, trivial⟩
theorem weights_all {H : Type} {e : TypeId} : ∀ {ds : List (DataW H)} {d : DataW H}, d ∈ ds → ∀ n ∈ d.weights P e, n ∈ DataW.weightsAll P e ds
 | d0 :: ds, d, hd, n, hn => by
  simp only [DataW.weightsAll, List.mem_append]
  rcases List.mem_cons.mp hd with rfl | h
  ·exact .inl hn
  ·exact .inr (weights_all h n hn)
theorem choose_list {α : Type} {p : Nat → α → Prop} : ∀ {n : Nat}, (∀ i, i < n → ∃ y, p i y) → ∃ ys : List α, ys.length = n ∧ ∀ i y, ys[i]? = some y → p i y
 | 0, _ => ⟨[], rfl, fun i y h => by simp at h⟩
 | n + 1, h => by
  obtain ⟨ys, hl, hy⟩ := choose_list (n := n) (fun i hi => h i (by omega))
  obtain ⟨y, hp⟩ := h n (by omega)
  refine ⟨ys ++ [y], by simp [hl], fun i z hz => ?_⟩
  by_cases hi : i < n
  ·rw [List.getElem?_append_left (by omega)] at hz
   exact hy i z hz
  ·have := (List.getElem?_eq_some_iff.mp hz).1
   simp at this
   have e : i = n := by omega
   subst e
   rw [List.getElem?_append_right (by omega)] at hz
   simp [hl] at hz
   subst hz
   exact hp
theorem opens_slice {α : Type} {t e : TypeId} {K : Kd α} {Q : α → Prop} (he : Opens P e K Q) (ht : P.underlying t = some (.slice e)) (hc : P.cellsOf e = K.sz) (bytes : Nat) (hb : P.bytesOf e = bytes) :
  Opens P t (Kd.slice e K) (fun l => l.length * bytes ≤ 140737488351232 ∧ ∀ x ∈ l, Q x) := by
 constructor
 intro H enc W base sp held fuel cs x hw h
 rcases Deep.open_slice ht h with ⟨rfl, rfl⟩ | ⟨a, len, cap, m, n, D, Pl, rfl, _, hl, hm, hmm, rfl, hel⟩
 ·exact ⟨[], ⟨none, 0, rfl, Nat.le_refl _, Kd.C_nil K W⟩, by simp, by simp⟩
 ·have hlm : len ≤ m := by rw [hmm]; split <;> omega
  have hw' : ∀ i, i < len → ∀ k ∈ (D i).weights P e, k ≤ reachBytes := fun i hi k hk => hw k (by
   simp only [DataW.weights, ht, List.mem_cons, List.mem_append]
   exact .inr (.inl (weights_all (List.mem_map.mpr ⟨i, by simpa using hi, rfl⟩) k hk)))
  obtain ⟨ys, hys, hY⟩ := choose_list (n := len) (p := fun i y => (∃ c, c.length = K.sz ∧ K.K W y c ∧ ∀ j u, c[j]? = some u → W.cell? (a.add (i * K.sz + j)) = some u) ∧ Q y) (fun i hi => by
   obtain ⟨c, h1, h2⟩ := hel i (by omega)
   obtain ⟨y, hy, hq⟩ := he.out (hw' i hi) h2
   obtain ⟨_, h3, h4⟩ := World.cells?_some h1
   rw [hc] at h3 h4
   refine ⟨y, ⟨c, h3, hy, fun j u hu => ?_⟩, hq⟩
   have hj : j < K.sz := by
    have := (List.getElem?_eq_some_iff.mp hu).1
    omega
   have h5 := h4 j hj
   rw [Addr.add_add] at h5
   rw [h5, hu])
  have hlen : len ≤ maxLen := by omega
  refine ⟨ys, ⟨some a, cap, by rw [hys], by omega, rfl, by rw [hys]; unfold maxLen at hlen; omega, fun _ => ⟨a, rfl, fun j p hj => (hY j p hj).1⟩⟩, ?_, ?_⟩
  ·have := hw ((((List.range len).map D).length + ((List.range (m - len)).map fun j => D (len + j)).length) * P.bytesOf e) (by simp [DataW.weights, ht])
   rw [hb] at this
   simp only [List.length_map, List.length_range] at this
   have h2 : len * bytes ≤ (len + (m - len)) * bytes := Nat.mul_le_mul_right _ (by omega)
   rw [hys]
   unfold reachBytes at this
   omega
  ·intro x hx
   obtain ⟨i, hi, rfl⟩ := List.mem_iff_getElem.mp hx
   exact (hY i _ (List.getElem?_eq_getElem hi)).2
/-- The fields from one on. -/
structure OpensF {α : Type} (P : Program) (fs : List Field) (off : Nat) (K : Kd α) (Q : α → Prop) : Prop where
 out : ∀ {H : Type} {enc : TypeId × Value → H} {W : World} {base : Nat} {sp : Nat → Bool} {held : Bool} {fuel : Nat} {cs : List Value} {xs : List (DataW H × List MemPlace)},
  cs.length = off + K.sz → (∀ n ∈ DataW.weightsEach P (fs.map (·.type)) (xs.map (·.1)), n ≤ reachBytes) → (fs.mapM fun f => DataW.trod enc P W base sp held fuel f.type ((cs.drop f.offset).take (P.cellsOf f.type))) = some xs → ∃ y, K.K W y (cs.drop off) ∧ Q y
theorem opensF_last {α : Type} {f : Field} {off t : Nat} {K : Kd α} {Q : α → Prop} (h : Opens P t K Q) (h0 : f.type = t) (hc : P.cellsOf t = K.sz) (ho : f.offset = off) : OpensF P [f] off K Q := by
 constructor
 intro H enc W base sp held fuel cs xs hl hw hm
 subst h0
 simp only [List.mapM_cons, List.mapM_nil, Option.pure_def, Option.bind_eq_bind, Option.bind_some] at hm
 obtain ⟨x, hx, hm⟩ := Option.bind_eq_some_iff.mp hm
 obtain rfl := Option.some.inj hm
 rw [hc, ho, List.take_of_length_le (by rw [List.length_drop]; omega)] at hx
 exact h.out (fun n hn => hw n (by simp [DataW.weightsEach, hn])) hx
theorem opensF_cons {α β : Type} {f : Field} {fs : List Field} {off t : Nat} {K : Kd α} {K1 : Kd β} {Q : α → Prop} {Q1 : β → Prop} (h : Opens P t K Q) (h0 : f.type = t) (hc : P.cellsOf t = K.sz) (ho : f.offset = off) (h1 : OpensF P fs (off + K.sz) K1 Q1) :
  OpensF P (f :: fs) off (Kd.pair K K1) (fun p => Q p.1 ∧ Q1 p.2) := by
 constructor
 intro H enc W base sp held fuel cs xs hl hw hm
 subst h0
 have hl : cs.length = off + (K.sz + K1.sz) := hl
 rw [List.mapM_cons] at hm
 simp only [Option.pure_def, Option.bind_eq_bind] at hm
 obtain ⟨x, hx, hm⟩ := Option.bind_eq_some_iff.mp hm
 obtain ⟨xs', hxs, hm⟩ := Option.bind_eq_some_iff.mp hm
 obtain rfl := Option.some.inj hm
 rw [hc, ho] at hx
 obtain ⟨y, hy, hq⟩ := h.out (fun n hn => hw n (by simp only [List.map_cons, DataW.weightsEach, List.mem_append]; exact .inl hn)) hx
 obtain ⟨z, hz, hq1⟩ := h1.out (by omega) (fun n hn => hw n (by simp only [List.map_cons, DataW.weightsEach, List.mem_append]; exact .inr hn)) hxs
 refine ⟨(y, z), ⟨(cs.drop off).take K.sz, cs.drop (off + K.sz), ?_, hy, hz⟩, hq, hq1⟩
 rw [← List.drop_drop, List.take_append_drop]
theorem opens_struct {α β : Type} {t : TypeId} {fs : Array Field} {K : Kd α} {Q : α → Prop} (ht : P.underlying t = some (.struct fs)) (h : OpensF P fs.toList 0 K Q) (hc : P.cellsOf t = K.sz) (g : β → α) (g' : α → β) (hg : ∀ y, g (g' y) = y) : Opens P t (Kd.iso K g) (fun x => Q (g x)) := by
 constructor
 intro H enc W base sp held fuel cs x hw hm
 cases fuel with
 | zero => simp [DataW.trod] at hm
 | succ n =>
  unfold DataW.trod at hm
  rw [ht] at hm
  simp only at hm
  split at hm
  ·rename_i hl
   obtain ⟨xs, hxs, rfl⟩ := Option.map_eq_some_iff.mp hm
   obtain ⟨y, hy, hq⟩ := h.out (cs := cs) (xs := xs) (by rw [hl, hc]; omega) (fun n hn => hw n (by simp only [DataW.weights, ht]; exact hn)) hxs
   exact ⟨g' y, by show K.K W (g (g' y)) cs; rw [hg]; simpa using hy, by show Q (g (g' y)); rw [hg]; exact hq⟩
  ·cases hm
theorem opens_struct' {α β : Type} {t : TypeId} {fs : Array Field} {K : Kd α} {Q : α → Prop} {k : Kd β} {WF : β → Prop} (g' : α → β) (g : β → α) (ht : P.underlying t = some (.struct fs)) (h : OpensF P fs.toList 0 K Q) (hc : P.cellsOf t = K.sz) (hk : k = Kd.iso K g) (hg : ∀ y, g (g' y) = y) (hQ : ∀ x, Q (g x) → WF x) : Opens P t k WF := by
 subst hk
 constructor
 intro H enc W base sp held fuel cs x hw hm
 obtain ⟨y, h1, h2⟩ := (opens_struct ht h hc g g' hg).out hw hm
 exact ⟨y, h1, hQ y h2⟩
end
/-- What came in, as a row that is shared. -/
theorem came_V {α : Type} {d : Kd α} {e : Nat} {w : World} {A : Option Addr} {c : Nat} {xs : List α} (hd : Kd.Heap d) (h : d.C w A xs.length xs) (hc : xs.length ≤ c) : Kd.V d e w w.heap.size (fun k_ => k_ < w.heap.size) (.slice A xs.length c) xs :=
 Kd.V_mk hc (fun W' hW => hd.C (fun k hk => hW k hk hk) h)
end Go.Proofs.YtcmppjonpmgncaaDoor.Q

namespace Go.Proofs.YtcmppjonpmgncaaDoor.Q
open Go.RowKit Go.Proofs.YtcmppjonpmgncaaDoorW.PrintWords Go.Proofs.YtcmppjonpmgncaaDoorW.PrintLast Go.Proofs.YtcmppjonpmgncaaDoorW.PrintMore
set_option linter.unusedVariables false
set_option linter.unusedSimpArgs false

end Go.Proofs.YtcmppjonpmgncaaDoor.Q

namespace Go.Proofs.YtcmppjonpmgncaaDoor.Q
open Go.RowKit Go.Proofs.YtcmppjonpmgncaaDoorW.PrintWords Go.Proofs.YtcmppjonpmgncaaDoorW.PrintLast Go.Proofs.YtcmppjonpmgncaaDoorW.PrintMore
set_option linter.unusedVariables false
set_option linter.unusedSimpArgs false
def NumSigns.Pure : Prop := ∀ (a0 : Int) (a1 : ByteArray) (a2 : Int), (fun n : Int => (Lit.int .i64 n).wf = true) a0 → (fun s : ByteArray => s.size ≤ 140737488351232) a1 → (fun n : Int => (Lit.int .i64 n).wf = true) a2 → ∃ k, truantlaw01_NumSigns.f k a0 a1 a2 = some true
end Go.Proofs.YtcmppjonpmgncaaDoor.Q

/- Small words on 'from some number of rounds on'. -/

namespace Go.Proofs.YtcmppjonpmgncaaDoor.Q
open Go.RowKit Go.Proofs.YtcmppjonpmgncaaDoorW.PrintWords Go.Proofs.YtcmppjonpmgncaaDoorW.PrintLast Go.Proofs.YtcmppjonpmgncaaDoorW.PrintMore
set_option linter.unusedVariables false
set_option linter.unusedSimpArgs false
section
variable {α : Type}
theorem Ev.pos {c : Prop} [Decidable c] {A B : Nat → Option α} {r : α} (h : c) (k : Ev A r) : Ev (fun n => if c then A n else B n) r := Ev.congr (fun n => if_pos h) k
theorem Ev.neg {c : Prop} [Decidable c] {A B : Nat → Option α} {r : α} (h : ¬ c) (k : Ev B r) : Ev (fun n => if c then A n else B n) r := Ev.congr (fun n => if_neg h) k
theorem Ev.one {β : Type} {a : Option β} {b : β} {f : Nat → β → Option α} {r : α} (h : a = some b) (k : Ev (fun n => f n b) r) : Ev (fun n => a.bind (f n)) r := Ev.congr (fun n => by rw [h]; rfl) k
theorem Ev.eq {g : Nat → Option α} {r r' : α} (k : Ev g r) (h : r = r') : Ev g r' := h ▸ k
theorem Ev.det {g : Nat → Option α} {r r' : α} (k : Ev g r) (h : Ev g r') : r = r' := by
 obtain ⟨K, k⟩ := k
 obtain ⟨K', h⟩ := h
 have h1 := k (max K K') (by omega)
 have h2 := h (max K K') (by omega)
 rw [h1] at h2
 exact Option.some.inj h2
theorem Ev.at_ {g : Nat → Option α} {r r' : α} {k : Nat} (hg : ∀ k, LeO (g k) (g (k + 1))) (h : g k = some r) (h' : Ev g r') : r = r' := Ev.det (Ev.of hg h) h'
theorem getD_succ {β : Type} (l : List β) (z : β) (x : β) (i : Nat) : (x :: l).getD (i + 1) z = l.getD i z := rfl
end
end Go.Proofs.YtcmppjonpmgncaaDoor.Q

/- What num's functions answer, op by op: by hand. -/

namespace Go.Proofs.YtcmppjonpmgncaaDoor.Q
open Go.RowKit Go.Proofs.YtcmppjonpmgncaaDoorW.PrintWords Go.Proofs.YtcmppjonpmgncaaDoorW.PrintLast Go.Proofs.YtcmppjonpmgncaaDoorW.PrintMore
set_option linter.unusedVariables false
set_option linter.unusedSimpArgs false
def R64 (x : Int) : Prop := -9223372036854775808 ≤ x ∧ x ≤ 9223372036854775807
theorem R64.of {x : Int} (h : (fun n : Int => (Lit.int .i64 n).wf = true) x) : R64 x := by
 have : (Lit.int .i64 x).wf = true := h
 simpa [Lit.wf, IntKind.min, IntKind.max, IntKind.signed, IntKind.bits, R64] using this
theorem wrap_in (x : Int) : R64 (wrap64 x) := by unfold R64 wrap64; omega
theorem wrap_id {x : Int} (h : R64 x) : wrap64 x = x := by unfold R64 at h; unfold wrap64; omega
theorem wrap_mod (x : Int) : wrap64 x % 18446744073709551616 = x % 18446744073709551616 := by unfold wrap64; omega
theorem wrap_of_mod {a b : Int} (h : a % 18446744073709551616 = b % 18446744073709551616) : wrap64 a = wrap64 b := by unfold wrap64; omega
theorem wrap_mul (a b : Int) : wrap64 (wrap64 a * b) = wrap64 (a * b) := wrap_of_mod (by rw [Int.mul_emod, wrap_mod, ← Int.mul_emod])
theorem shl_is (x : Int) (n : Nat) (h : n ≤ 64) : shl .i64 x n = wrap64 (x * 2 ^ n) := by
 unfold shl
 rw [IntKind.wrap_i64, show min ((n : Int).toNat) IntKind.i64.bits = n by simp [IntKind.bits]; omega]
 unfold wrap64
 rfl
theorem shr_is (x : Int) (n : Nat) (h : n ≤ 64) : shr .i64 x n = x / 2 ^ n := by
 unfold shr
 rw [show min ((n : Int).toNat) IntKind.i64.bits = n by simp [IntKind.bits]; omega]
theorem awake_all : ∀ k, truantlaw01_awake.f (k + 30) = some true := by
 have h : truantlaw01_awake.f 30 = some true := by kernel_rfl
 intro k
 induction k with
 | zero => exact h
 | succ k ih => have := truantlaw01_awake.mono (k + 30) _ ih; rwa [show k + 30 + 1 = k + 1 + 30 by omega] at this
theorem do_1 (k : Nat) (x y : Int) : num_Do.f (k + 30) 1 x y = some (wrap64 (x + y), 0) := by simp [num_Do.f, num_Do.j0, num_Do.j1, num_Do.j2, num_IsBinary.f, num_plain.f]
theorem do_2 (k : Nat) (x y : Int) : num_Do.f (k + 30) 2 x y = some (wrap64 (x - y), 0) := by simp [num_Do.f, num_Do.j0, num_Do.j1, num_Do.j2, num_IsBinary.f, num_plain.f]
theorem do_3 (k : Nat) (x y : Int) : num_Do.f (k + 30) 3 x y = some (wrap64 (x * y), 0) := by simp [num_Do.f, num_Do.j0, num_Do.j1, num_Do.j2, num_IsBinary.f, num_plain.f]
theorem do_4 (k : Nat) (x y : Int) : num_Do.f (k + 30) 4 x y = if y = 0 then some (0, 11) else some (wrap64 (Int.tdiv x y), 0) := by
 by_cases h : y = 0 <;> simp [num_Do.f, num_Do.j0, num_Do.j1, num_Do.j2, num_IsBinary.f, num_divide.f, h]
theorem do_5 (k : Nat) (x y : Int) : num_Do.f (k + 30) 5 x y = if y = 0 then some (0, 11) else some (Int.tmod x y, 0) := by
 by_cases h : y = 0 <;> simp [num_Do.f, num_Do.j0, num_Do.j1, num_Do.j2, num_IsBinary.f, num_divide.f, h]
theorem do_6 (k : Nat) (x y : Int) : num_Do.f (k + 30) 6 x y = some (Go.bits .and .i64 x y, 0) := by simp [num_Do.f, num_Do.j0, num_Do.j1, num_Do.j2, num_IsBinary.f, num_plain.f]
theorem do_7 (k : Nat) (x y : Int) : num_Do.f (k + 30) 7 x y = some (Go.bits .or .i64 x y, 0) := by simp [num_Do.f, num_Do.j0, num_Do.j1, num_Do.j2, num_IsBinary.f, num_plain.f]
theorem do_8 (k : Nat) (x y : Int) : num_Do.f (k + 30) 8 x y = some (Go.bits .xor .i64 x y, 0) := by simp [num_Do.f, num_Do.j0, num_Do.j1, num_Do.j2, num_IsBinary.f, num_plain.f]
theorem do_9 (k : Nat) (x y : Int) : num_Do.f (k + 30) 9 x y = num_shift.f 9 x y := by
 simp only [num_Do.f, num_Do.j0, num_Do.j1, num_Do.j2, num_IsBinary.f]
 simp
 cases num_shift.f 9 x y <;> rfl
theorem do_10 (k : Nat) (x y : Int) : num_Do.f (k + 30) 10 x y = num_shift.f 10 x y := by
 simp only [num_Do.f, num_Do.j0, num_Do.j1, num_Do.j2, num_IsBinary.f]
 simp
 cases num_shift.f 10 x y <;> rfl
theorem shl_val {x y : Int} (hy : R64 y) : num_shift.f 9 x y = if y < 0 then some (0, 12) else some (if y ≥ 64 then 0 else wrap64 (x * 2 ^ y.toNat), 0) := by
 unfold num_shift.f
 by_cases h1 : y < 0
 ·simp [h1]
 ·rw [if_neg h1, if_neg h1, if_neg (by decide)]
  by_cases h2 : y ≥ 64
  ·simp [h2]
  ·obtain ⟨n, rfl⟩ : ∃ n : Nat, y = n := ⟨y.toNat, by omega⟩
   rw [if_neg h2, if_neg h2]
   have e : IntKind.u64.wrap (n : Int) = n := by rw [IntKind.wrap_u64]; omega
   rw [e, if_pos (by omega), shl_is _ _ (by omega)]
   rfl
theorem shr_val {x y : Int} (hy : R64 y) : num_shift.f 10 x y = if y < 0 then some (0, 12) else some (x / 2 ^ (min y.toNat 63), 0) := by
 unfold num_shift.f
 by_cases h1 : y < 0
 ·simp [h1]
 ·rw [if_neg h1, if_neg h1, if_pos rfl]
  obtain ⟨n, rfl⟩ : ∃ n : Nat, y = n := ⟨y.toNat, by omega⟩
  have e : IntKind.u64.wrap (mn (n : Int) 63) = ((min n 63 : Nat) : Int) := by rw [IntKind.wrap_u64]; unfold mn; split <;> omega
  rw [e, if_pos (by omega), shr_is _ _ (by omega)]
  rfl
end Go.Proofs.YtcmppjonpmgncaaDoor.Q

/- What IsBinary, IsUnary and Sign answer: by hand. -/

namespace Go.Proofs.YtcmppjonpmgncaaDoor.Q
open Go.RowKit Go.Proofs.YtcmppjonpmgncaaDoorW.PrintWords Go.Proofs.YtcmppjonpmgncaaDoorW.PrintLast Go.Proofs.YtcmppjonpmgncaaDoorW.PrintMore
set_option linter.unusedVariables false
set_option linter.unusedSimpArgs false
theorem isBin (op : Int) : num_IsBinary.f op = some (decide (1 ≤ op ∧ op ≤ 16)) := by
 unfold num_IsBinary.f
 by_cases h : op ≥ 1
 ·by_cases h2 : op ≤ 16 <;> simp [h, h2, show 1 ≤ op by omega]
 ·simp [h, show ¬ 1 ≤ op by omega]
theorem isUn (op : Int) : num_IsUnary.f op = some (decide (op = 17 ∨ op = 18)) := by
 unfold num_IsUnary.f
 by_cases h : op = 17
 ·simp [h]
 ·by_cases h2 : op = 18 <;> simp [h, h2]
theorem sign_in {op : Int} (h : 1 ≤ op ∧ op ≤ 18) : ∃ t, num_Sign.f op = some t ∧ t.toList ≠ [] := by
 obtain ⟨h1, h2⟩ := h
 have : op = 1 ∨ op = 2 ∨ op = 3 ∨ op = 4 ∨ op = 5 ∨ op = 6 ∨ op = 7 ∨ op = 8 ∨ op = 9 ∨ op = 10 ∨ op = 11 ∨ op = 12 ∨ op = 13 ∨ op = 14 ∨ op = 15 ∨ op = 16 ∨ op = 17 ∨ op = 18 := by omega
 rcases this with rfl | rfl | rfl | rfl | rfl | rfl | rfl | rfl | rfl | rfl | rfl | rfl | rfl | rfl | rfl | rfl | rfl | rfl <;> exact ⟨_, rfl, by rw [Lib.toList_data]; simp [rdOf]⟩
theorem sign_out {op : Int} (h : ¬ (1 ≤ op ∧ op ≤ 18)) : num_Sign.f op = some ⟨#[]⟩ := by
 unfold num_Sign.f
 rw [isBin, isUn]
 have h1 : ¬ (1 ≤ op ∧ op ≤ 16) := by omega
 have h2 : ¬ (op = 17 ∨ op = 18) := by omega
 simp only [h1, h2, decide_false, Option.bind_some]
 rfl
end Go.Proofs.YtcmppjonpmgncaaDoor.Q

/- The plain law of NumSigns: by hand. -/

namespace Go.Proofs.YtcmppjonpmgncaaDoor.Q
open Go.RowKit Go.Proofs.YtcmppjonpmgncaaDoorW.PrintWords Go.Proofs.YtcmppjonpmgncaaDoorW.PrintLast Go.Proofs.YtcmppjonpmgncaaDoorW.PrintMore
set_option linter.unusedVariables false
set_option linter.unusedSimpArgs false
theorem sign_same (op : Int) : num_Sign.f op = truantref01_Sign.f op := by
 by_cases h : 1 ≤ op ∧ op ≤ 18
 ·obtain ⟨h1, h2⟩ := h
  have : op = 1 ∨ op = 2 ∨ op = 3 ∨ op = 4 ∨ op = 5 ∨ op = 6 ∨ op = 7 ∨ op = 8 ∨ op = 9 ∨ op = 10 ∨ op = 11 ∨ op = 12 ∨ op = 13 ∨ op = 14 ∨ op = 15 ∨ op = 16 ∨ op = 17 ∨ op = 18 := by omega
  rcases this with rfl | rfl | rfl | rfl | rfl | rfl | rfl | rfl | rfl | rfl | rfl | rfl | rfl | rfl | rfl | rfl | rfl | rfl <;> rfl
 ·rw [sign_out h, truantref01_Sign.f, if_neg h]
theorem level_in : ∀ n : Fin 19, num_Level.f 30 (n.val : Int) = truantref01_Level.f (n.val : Int) := by decide +kernel
theorem level_same (op : Int) : num_Level.f 30 op = truantref01_Level.f op := by
 by_cases h : 1 ≤ op ∧ op ≤ 18
 ·have := level_in ⟨op.toNat, by omega⟩
  rwa [show ((op.toNat : Nat) : Int) = op by omega] at this
 ·rw [truantref01_Level.f, if_neg h]
  have h1 : op ≠ 1 := by omega
  have h2 : op ≠ 2 := by omega
  have h3 : op ≠ 3 := by omega
  have h4 : op ≠ 4 := by omega
  have h5 : op ≠ 5 := by omega
  have h6 : op ≠ 6 := by omega
  have h7 : op ≠ 7 := by omega
  have h8 : op ≠ 8 := by omega
  have h9 : op ≠ 9 := by omega
  have h10 : op ≠ 10 := by omega
  have h11 : op ≠ 11 := by omega
  have h12 : op ≠ 12 := by omega
  have h13 : op ≠ 13 := by omega
  have h14 : op ≠ 14 := by omega
  have h15 : op ≠ 15 := by omega
  have h16 : op ≠ 16 := by omega
  simp [num_Level.f, num_Level.j0, num_Level.j1, h1, h2, h3, h4, h5, h6, h7, h8, h9, h10, h11, h12, h13, h14, h15, h16]
/-- One round of the law's search. -/
def upd (l : List UInt8) (args : Int) (w : Int) (i : Nat) : Int := if (refSigns.getD i ByteArray.empty).toList = l ∧ (args = 2 ∧ i ≤ 16 ∨ args = 1 ∧ i > 16) then i else w
def foldW (l : List UInt8) (args : Int) (w : Int) (i : Nat) : Nat → Int
 | 0 => w
 | m + 1 => foldW l args (upd l args w i) (i + 1) m
def tailW (k : Nat) (x0 : Int) (x1 : ByteArray) (x2 : Int) (x7 : Int) : Option Bool := (num_Signed.f k x1 x2).bind fun bt289 => (if bt289.1 = x7 then (if (bt289.2 == (x7 != 0)) = true then ((num_Sign.f x0).bind fun t291 => ((truantref01_Sign.f x0).bind fun t292 => (if t291.toList = t292.toList then ((num_Level.f k x0).bind fun t293 => ((truantref01_Level.f x0).bind fun t294 => (some (t293 == t294)))) else (none)))) else (none)) else (none))
theorem sg_loop (x0 : Int) (x1 : ByteArray) (x2 : Int) (r : Bool) : ∀ (m i : Nat) (w : Int), i + m = 19 → 1 ≤ i → Ev (fun k => tailW k x0 x1 x2 (foldW x1.toList x2 w i m)) r → Ev (fun k => truantlaw01_NumSigns.l0 k x0 x1 x2 w i) r := by
 intro m
 induction m with
 | zero =>
  intro i w hi h1 hE
  refine Ev.step (fun k => rfl) ?_
  refine Ev.neg (by omega) ?_
  exact hE
 | succ m ih =>
  intro i w hi h1 hE
  have hn := ih (i + 1) (upd x1.toList x2 w i) (by omega) (by omega) hE
  have e3 : wrap64 ((i : Int) + 1) = ((i + 1 : Nat) : Int) := by unfold wrap64; omega
  rw [← e3] at hn
  refine Ev.step (fun k => rfl) ?_
  refine Ev.pos (by omega) ?_
  refine Ev.one (show truantref01_Sign.f (i : Int) = some (refSigns.getD i ByteArray.empty) by rw [truantref01_Sign.f, if_pos (by omega)]; rfl) ?_
  unfold upd at hn
  by_cases hs : (refSigns.getD i ByteArray.empty).toList = x1.toList
  ·refine Ev.pos hs ?_
   by_cases h2 : x2 = 2
   ·refine Ev.pos h2 ?_
    by_cases h16 : i ≤ 16
    ·rw [if_pos ⟨hs, .inl ⟨h2, h16⟩⟩] at hn
     exact Ev.pos (by omega) hn
    ·rw [if_neg (by omega)] at hn
     refine Ev.neg (by omega) ?_
     exact Ev.neg (by omega) hn
   ·refine Ev.neg h2 ?_
    by_cases h1 : x2 = 1
    ·refine Ev.pos h1 ?_
     by_cases h16 : i > 16
     ·rw [if_pos ⟨hs, .inr ⟨h1, h16⟩⟩] at hn
      exact Ev.pos (by omega) hn
     ·rw [if_neg (by omega)] at hn
      exact Ev.neg (by omega) hn
    ·rw [if_neg (by omega)] at hn
     exact Ev.neg h1 hn
  ·rw [if_neg (fun h => hs h.1)] at hn
   exact Ev.neg hs hn
theorem idx_none (l : List ByteArray) (s : ByteArray) (hz : l.length ≤ 100) (h : ∀ i : Nat, i < l.length → s.toList ≠ (l.getD i ByteArray.empty).toList) : Ev (fun k => slices_Index_string_string.f k l s) (-1) := by
 have : ∀ (m i : Nat), i + m = l.length → Ev (fun k => slices_Index_string_string.l0 k l s (l.length : Int) i) (-1) := by
  intro m
  induction m with
  | zero =>
   intro i hi
   refine Ev.step (fun k => rfl) ?_
   exact Ev.neg (by omega) (Ev.now _)
  | succ m ih =>
   intro i hi
   have e3 : wrap64 ((i : Int) + 1) = ((i + 1 : Nat) : Int) := by unfold wrap64; omega
   have hn := ih (i + 1) (by omega)
   rw [← e3] at hn
   refine Ev.step (fun k => rfl) ?_
   refine Ev.pos (by omega) ?_
   refine Ev.pos (by omega) ?_
   refine Ev.pos (by omega) ?_
   exact Ev.neg (h i (by omega)) hn
 exact this l.length 0 (by omega)
theorem fold_none (l : List UInt8) (args : Int) (h : ∀ i : Nat, 1 ≤ i → i ≤ 18 → ¬ ((refSigns.getD i ByteArray.empty).toList = l ∧ (args = 2 ∧ i ≤ 16 ∨ args = 1 ∧ i > 16))) : ∀ (m i : Nat) (w : Int), i + m = 19 → 1 ≤ i → foldW l args w i m = w := by
 intro m
 induction m with
 | zero => intro i w _ _; rfl
 | succ m ih =>
  intro i w hi h1
  rw [foldW, ih (i + 1) _ (by omega) (by omega), upd, if_neg (h i h1 (by omega))]
theorem sub_take (i : Nat) (h : i < 17) : ([(⟨#[]⟩ : ByteArray), (⟨#[43]⟩ : ByteArray), (⟨#[45]⟩ : ByteArray), (⟨#[42]⟩ : ByteArray), (⟨#[47]⟩ : ByteArray), (⟨#[37]⟩ : ByteArray), (⟨#[38]⟩ : ByteArray), (⟨#[124]⟩ : ByteArray), (⟨#[94]⟩ : ByteArray), (⟨#[60, 60]⟩ : ByteArray), (⟨#[62, 62]⟩ : ByteArray), (⟨#[61, 61]⟩ : ByteArray), (⟨#[33, 61]⟩ : ByteArray), (⟨#[60]⟩ : ByteArray), (⟨#[60, 61]⟩ : ByteArray), (⟨#[62]⟩ : ByteArray), (⟨#[62, 61]⟩ : ByteArray)] : List ByteArray).getD i ByteArray.empty = refSigns.getD i ByteArray.empty := by
 have : i = 0 ∨ i = 1 ∨ i = 2 ∨ i = 3 ∨ i = 4 ∨ i = 5 ∨ i = 6 ∨ i = 7 ∨ i = 8 ∨ i = 9 ∨ i = 10 ∨ i = 11 ∨ i = 12 ∨ i = 13 ∨ i = 14 ∨ i = 15 ∨ i = 16 := by omega
 rcases this with rfl | rfl | rfl | rfl | rfl | rfl | rfl | rfl | rfl | rfl | rfl | rfl | rfl | rfl | rfl | rfl | rfl <;> rfl
/-- Where the sign is none of the 18. -/
theorem signed_none (s : ByteArray) (args : Int) (h : ∀ i : Nat, 1 ≤ i → i ≤ 18 → s.toList ≠ (refSigns.getD i ByteArray.empty).toList) : Ev (fun k => num_Signed.f k s args) (0, false) := by
 unfold num_Signed.f
 refine Ev.one (b := refSigns) rfl ?_
 by_cases h0 : s.toList = []
 ·exact Ev.pos h0 (Ev.step (f := fun _ => some (0, false)) (fun k => by simp [num_Signed.j0]) (Ev.now _))
 ·refine Ev.neg h0 ?_
  by_cases h1 : args < 1
  ·exact Ev.pos h1 (Ev.step (f := fun _ => some (0, false)) (fun k => by simp [num_Signed.j0]) (Ev.now _))
  ·refine Ev.neg h1 ?_
   by_cases h2 : args > 2
   ·rw [show decide (args > 2) = true by simpa using h2]
    exact Ev.step (f := fun _ => some (0, false)) (fun k => by simp [num_Signed.j0]) (Ev.now _)
   ·rw [show decide (args > 2) = false by simpa using h2]
    refine Ev.step (fun k => rfl) ?_
    by_cases h3 : args = 2
    ·refine Ev.pos h3 ?_
     refine Ev.pos (show (17 : Int) ≤ (refSigns.length : Int) by decide) ?_
     refine Ev.bind (idx_none _ s (by decide) (fun i hi => ?_)) ?_
     ·have hi' : i < 17 := hi
      rw [show refSigns.take 17 = [(⟨#[]⟩ : ByteArray), (⟨#[43]⟩ : ByteArray), (⟨#[45]⟩ : ByteArray), (⟨#[42]⟩ : ByteArray), (⟨#[47]⟩ : ByteArray), (⟨#[37]⟩ : ByteArray), (⟨#[38]⟩ : ByteArray), (⟨#[124]⟩ : ByteArray), (⟨#[94]⟩ : ByteArray), (⟨#[60, 60]⟩ : ByteArray), (⟨#[62, 62]⟩ : ByteArray), (⟨#[61, 61]⟩ : ByteArray), (⟨#[33, 61]⟩ : ByteArray), (⟨#[60]⟩ : ByteArray), (⟨#[60, 61]⟩ : ByteArray), (⟨#[62]⟩ : ByteArray), (⟨#[62, 61]⟩ : ByteArray)] from rfl, sub_take i hi']
      by_cases e : i = 0
      ·subst e
       rw [show (refSigns.getD 0 ByteArray.empty).toList = [] by rw [Lib.toList_data]; rfl]
       exact h0
      ·exact h i (by omega) (by omega)
     ·exact ⟨0, fun _ _ => rfl⟩
    ·refine Ev.neg h3 ?_
     refine Ev.pos (show (17 : Int) ≤ (refSigns.length : Int) by decide) ?_
     refine Ev.bind (idx_none _ s (by decide) (fun i hi => ?_)) ?_
     ·have hi' : i < 2 := hi
      have : i = 0 ∨ i = 1 := by omega
      rcases this with rfl | rfl
      ·exact h 17 (by omega) (by omega)
      ·exact h 18 (by omega) (by omega)
     ·exact ⟨0, fun _ _ => rfl⟩
theorem signed_any (s : ByteArray) (args : Int) : Ev (fun k => num_Signed.f k s args) (foldW s.toList args 0 1 18, foldW s.toList args 0 1 18 != 0) := by
 by_cases ha : args = 1 ∨ args = 2
 ·by_cases h : ∀ i : Nat, 1 ≤ i → i ≤ 18 → s.toList ≠ (refSigns.getD i ByteArray.empty).toList
  ·rw [fold_none s.toList args (fun i h1 h2 hh => h i h1 h2 hh.1.symm) 18 1 0 (by omega) (by omega)]
   exact signed_none s args h
  ·obtain ⟨i, hi⟩ := Classical.not_forall.mp h
   obtain ⟨h1, hi⟩ := Classical.not_imp.mp hi
   obtain ⟨h2, hi⟩ := Classical.not_imp.mp hi
   have hi := bytes_eq (Classical.not_not.mp hi)
   subst hi
   have : i = 1 ∨ i = 2 ∨ i = 3 ∨ i = 4 ∨ i = 5 ∨ i = 6 ∨ i = 7 ∨ i = 8 ∨ i = 9 ∨ i = 10 ∨ i = 11 ∨ i = 12 ∨ i = 13 ∨ i = 14 ∨ i = 15 ∨ i = 16 ∨ i = 17 ∨ i = 18 := by omega
   rcases ha with rfl | rfl
   ·rcases this with rfl | rfl | rfl | rfl | rfl | rfl | rfl | rfl | rfl | rfl | rfl | rfl | rfl | rfl | rfl | rfl | rfl | rfl <;> exact Ev.of (fun k => num_Signed.mono _ _ k) (k := 40) (by kernel_rfl)
   ·rcases this with rfl | rfl | rfl | rfl | rfl | rfl | rfl | rfl | rfl | rfl | rfl | rfl | rfl | rfl | rfl | rfl | rfl | rfl <;> exact Ev.of (fun k => num_Signed.mono _ _ k) (k := 40) (by kernel_rfl)
 ·rw [fold_none s.toList args (fun i h1 h2 hh => by omega) 18 1 0 (by omega) (by omega)]
  unfold num_Signed.f
  refine Ev.one (b := refSigns) rfl ?_
  have stop : Ev (fun k => num_Signed.j0 k s args refSigns true) (0, false) := Ev.step (f := fun _ => some (0, false)) (fun k => by simp [num_Signed.j0]) (Ev.now _)
  by_cases h0 : s.toList = []
  ·exact Ev.pos h0 stop
  ·refine Ev.neg h0 ?_
   by_cases h1 : args < 1
   ·exact Ev.pos h1 stop
   ·refine Ev.neg h1 ?_
    rw [show decide (args > 2) = true by simp; omega]
    exact stop
theorem NumSigns_pure : NumSigns.Pure := by
 intro op s args _ hs _
 refine Ev.rounds ?_
 unfold truantlaw01_NumSigns.f
 refine Ev.bind ⟨30, fun k hk => by obtain ⟨m, rfl⟩ : ∃ m, k = m + 30 := ⟨k - 30, by omega⟩; exact awake_all m⟩ ?_
 refine Ev.congr (fun k => if_pos rfl) ?_
 by_cases hz : (s.size : Int) > 100
 ·exact Ev.pos hz (Ev.now _)
 ·refine Ev.neg hz ?_
  refine sg_loop op s args true 18 1 0 (by omega) (by omega) ?_
  unfold tailW
  refine Ev.bind (signed_any s args) ?_
  refine Ev.pos rfl ?_
  refine Ev.pos (by simp) ?_
  have hS : truantref01_Sign.f op = some (if 1 ≤ op ∧ op ≤ 18 then refSigns.getD op.toNat ByteArray.empty else ⟨#[]⟩) := rfl
  refine Ev.one ((sign_same op).trans hS) ?_
  refine Ev.one hS ?_
  refine Ev.pos rfl ?_
  have hL : truantref01_Level.f op = some (if 1 ≤ op ∧ op ≤ 18 then refLevels.getD op.toNat 0 else 0) := rfl
  refine Ev.bind (Ev.of (fun k => num_Level.mono _ k) (k := 30) ((level_same op).trans hL)) ?_
  refine Ev.one hL ?_
  exact ⟨0, fun _ _ => by simp⟩
end Go.Proofs.YtcmppjonpmgncaaDoor.Q

/- From what the row lists to what the calls read of the package-level variables: by hand. -/
namespace Go.Proofs.YtcmppjonpmgncaaDoor.Q
open Go.RowKit Go.Proofs.YtcmppjonpmgncaaDoorW.PrintWords Go.Proofs.YtcmppjonpmgncaaDoorW.PrintLast Go.Proofs.YtcmppjonpmgncaaDoorW.PrintMore
set_option linter.unusedVariables false
set_option linter.unusedSimpArgs false
theorem gES : Tryd.prog.globalNamed "strconv.ErrSyntax" = some 0 := by kernel_rfl
theorem gER : Tryd.prog.globalNamed "strconv.ErrRange" = some 1 := by kernel_rfl
theorem gPow : Tryd.prog.globalNamed "internal/strconv.uint64pow10" = some 2 := by kernel_rfl
theorem gESType : (Tryd.prog.globals[0]?).map (·.type) = some 60 := by kernel_rfl
theorem gERType : (Tryd.prog.globals[1]?).map (·.type) = some 60 := by kernel_rfl
theorem gPowType : (Tryd.prog.globals[2]?).map (·.type) = some 102 := by kernel_rfl
theorem cellsES : Tryd.prog.cellsOf 101 = 1 := by kernel_rfl
theorem cellsStr : Tryd.prog.cellsOf 9 = 1 := by kernel_rfl
theorem cellsU64 : Tryd.prog.cellsOf 63 = 1 := by kernel_rfl
theorem cellsPow : Tryd.prog.cellsOf 102 = 20 := by kernel_rfl
theorem star_ : "*" ++ "errors.errorString" = "*errors.errorString" := by decide
theorem rowES (u : TypeId) (h : Tryd.prog.typeName? 3 u = some "*errors.errorString") : u = 99 :=
 typeName_ptr_named (nm := "errors.errorString") (by rw [star_]; kernel_rfl) (by kernel_rfl) (by decide) u (by rw [star_]; exact h)
theorem powData : (Rows.laid_internal_strconv_uint64pow10 : DataW Unit) = Lib.tabData .u64 Lib.pow10Tab := by kernel_rfl
def listed : List (String × DataW Unit) := [("math/bits.deBruijn32tab", Rows.laid_math_bits_deBruijn32tab), ("math/bits.deBruijn64tab", Rows.laid_math_bits_deBruijn64tab), ("internal/strconv.uint64pow10", Rows.laid_internal_strconv_uint64pow10), ("unicode/utf8.acceptRanges", Rows.laid_unicode_utf8_acceptRanges), ("strconv.ErrRange", Rows.laid_strconv_ErrRange), ("strconv.ErrSyntax", Rows.laid_strconv_ErrSyntax), ("unicode/utf8.first", Rows.laid_unicode_utf8_first)]
theorem glob_of_laid {W : World} (h : laidMetH Tryd.prog listed W) : Glob W := by
 rw [MakeChecks.laidMetH_plain _ _ _ (by kernel_rfl)] at h
 have h2 := h.tail.tail
 have h4 := h2.tail.tail
 have h5 := h4.tail
 rw [powData] at h2
 have a := Lib.tabIs_of_head gPow gPowType Tryd.underlying102 Tryd.underlying63 cellsU64 cellsPow h2
 obtain ⟨p4, _, v4, _, _, _⟩ := laid_sentinel h4 gER gERType Tryd.underlying60 rowES Tryd.underlying99 Tryd.underlying101 rfl rfl Tryd.underlying9 cellsES cellsStr
 obtain ⟨p5, _, v5, _, _, _⟩ := laid_sentinel h5 gES gESType Tryd.underlying60 rowES Tryd.underlying99 Tryd.underlying101 rfl rfl Tryd.underlying9 cellsES cellsStr
 exact ⟨a, ⟨_, _, v5⟩, ⟨_, _, v4⟩⟩
end Go.Proofs.YtcmppjonpmgncaaDoor.Q
