/- What the row of IrWords rests on, part 4: contracts of the functions that it reaches, and the plain law. -/
import Derived.Test.YtkiiojgaaoaipaaDoorJIrWords3
/- How an argument of a type reads: out of the form's reading comes the value that the printed walks take. -/
namespace Go.Proofs.YtkiiojgaaoaipaaDoor.Q
open Go.RowKit Go.Proofs.YtkiiojgaaoaipaaDoorW.PrintWords Go.Proofs.YtkiiojgaaoaipaaDoorW.PrintLast Go.Proofs.YtkiiojgaaoaipaaDoorW.PrintMore
set_option linter.unusedVariables false
set_option linter.unusedSimpArgs false
section
variable {P : Program}
end
end Go.Proofs.YtkiiojgaaoaipaaDoor.Q

namespace Go.Proofs.YtkiiojgaaoaipaaDoor.Q
open Go.RowKit Go.Proofs.YtkiiojgaaoaipaaDoorW.PrintWords Go.Proofs.YtkiiojgaaoaipaaDoorW.PrintLast Go.Proofs.YtkiiojgaaoaipaaDoorW.PrintMore
set_option linter.unusedVariables false
set_option linter.unusedSimpArgs false

end Go.Proofs.YtkiiojgaaoaipaaDoor.Q

namespace Go.Proofs.YtkiiojgaaoaipaaDoor.Q
open Go.RowKit Go.Proofs.YtkiiojgaaoaipaaDoorW.PrintWords Go.Proofs.YtkiiojgaaoaipaaDoorW.PrintLast Go.Proofs.YtkiiojgaaoaipaaDoorW.PrintMore
set_option linter.unusedVariables false
set_option linter.unusedSimpArgs false
def IrWords.Pure : Prop := ∀ (a0 : Int) (a1 : Int), (fun n : Int => (Lit.int .i64 n).wf = true) a0 → (fun n : Int => (Lit.int .i64 n).wf = true) a1 → ∃ k, truantlaw08_IrWords.f k a0 a1 = some true
end Go.Proofs.YtkiiojgaaoaipaaDoor.Q

namespace Go.Proofs.YtkiiojgaaoaipaaDoor.Q
open Go.RowKit Go.Proofs.YtkiiojgaaoaipaaDoorW.PrintWords Go.Proofs.YtkiiojgaaoaipaaDoorW.PrintLast Go.Proofs.YtkiiojgaaoaipaaDoorW.PrintMore
attribute [local go_sem] max2_int min2_int max_two min_two max_three min_three max_four min_four   -- for this text's walks alone
set_option linter.unusedVariables false
set_option linter.unusedSimpArgs false

/-! ### truantref08_Args: function 18 -/
mutual
def truantref08_Args.j0 : Nat → Int → Int → Bool → Option (Int)
 | 0, _, _, _ => none
 | k + 1, x0, x3, x4 => if x4 = true then (some 1) else (if x3 = 26 then (some 2) else (if x3 = 20 then (truantref08_Args.j1 k x0 (x3 == 20)) else (if x3 = 21 then (truantref08_Args.j1 k x0 (x3 == 21)) else (if x3 = 22 then (truantref08_Args.j1 k x0 (x3 == 22)) else (if x3 = 23 then (truantref08_Args.j1 k x0 (x3 == 23)) else (if x3 = 24 then (truantref08_Args.j1 k x0 (x3 == 24)) else (if x3 = 27 then (truantref08_Args.j1 k x0 (x3 == 27)) else (if x3 = 29 then (truantref08_Args.j1 k x0 (x3 == 29)) else (truantref08_Args.j1 k x0 (x3 == 33))))))))))
def truantref08_Args.j1 : Nat → Int → Bool → Option (Int)
 | 0, _, _ => none
 | k + 1, x0, x13 => if x13 = true then (some 0) else (if x0 ≥ 1 then (if x0 ≤ 16 then (some 2) else (some (-1))) else (some (-1)))
end
def truantref08_Args.f (k : Nat) (a0 : Int) : Option (Int) := if a0 = 17 then (truantref08_Args.j0 k a0 a0 (a0 == 17)) else (if a0 = 18 then (truantref08_Args.j0 k a0 a0 (a0 == 18)) else (if a0 = 25 then (truantref08_Args.j0 k a0 a0 (a0 == 25)) else (if a0 = 28 then (truantref08_Args.j0 k a0 a0 (a0 == 28)) else (if a0 = 30 then (truantref08_Args.j0 k a0 a0 (a0 == 30)) else (truantref08_Args.j0 k a0 a0 (a0 == 32))))))
theorem truantref08_Args.mono_l : ∀ k, (∀ y0 y1 y2, LeO (truantref08_Args.j0 k y0 y1 y2) (truantref08_Args.j0 (k + 1) y0 y1 y2)) ∧ (∀ y0 y1, LeO (truantref08_Args.j1 k y0 y1) (truantref08_Args.j1 (k + 1) y0 y1))
 | 0 => ⟨fun _ _ _ r h => by simp [truantref08_Args.j0] at h, fun _ _ r h => by simp [truantref08_Args.j1] at h⟩
 | k + 1 => by
  obtain ⟨ih0, ih1⟩ := truantref08_Args.mono_l k
  refine ⟨?_, ?_⟩
  ·intro y0 y1 y2
   unfold truantref08_Args.j0
   repeat' first
   | (with_reducible exact ih0 _ _ _)
   | (with_reducible exact ih1 _ _)
   | (with_reducible exact LeO.refl _)
   | (with_reducible exact LeO.none _)
   | (with_reducible refine LeO.ite ?_ ?_)
   | (with_reducible refine LeO.bind ?_ (fun _ => ?_))
   | exact ih0 _ _ _
   | exact ih1 _ _
   | exact LeO.none _
   | refine LeO.ite ?_ ?_
   | refine LeO.bind ?_ (fun _ => ?_)
  ·intro y0 y1
   unfold truantref08_Args.j1
   repeat' first
   | (with_reducible exact ih0 _ _ _)
   | (with_reducible exact ih1 _ _)
   | (with_reducible exact LeO.refl _)
   | (with_reducible exact LeO.none _)
   | (with_reducible refine LeO.ite ?_ ?_)
   | (with_reducible refine LeO.bind ?_ (fun _ => ?_))
   | exact ih0 _ _ _
   | exact ih1 _ _
   | exact LeO.none _
   | refine LeO.ite ?_ ?_
   | refine LeO.bind ?_ (fun _ => ?_)
theorem truantref08_Args.mono : ∀ a0 k, LeO (truantref08_Args.f k a0) (truantref08_Args.f (k + 1) a0) := by
 intro a0 k
 obtain ⟨ih0, ih1⟩ := truantref08_Args.mono_l k
 unfold truantref08_Args.f
 repeat' first
   | (with_reducible exact ih0 _ _ _)
   | (with_reducible exact ih1 _ _)
   | (with_reducible exact LeO.refl _)
   | (with_reducible exact LeO.none _)
   | (with_reducible refine LeO.ite ?_ ?_)
   | (with_reducible refine LeO.bind ?_ (fun _ => ?_))
   | exact ih0 _ _ _
   | exact ih1 _ _
   | exact LeO.none _
   | refine LeO.ite ?_ ?_
   | refine LeO.bind ?_ (fun _ => ?_)
set_option maxHeartbeats 8000000 in
set_option maxRecDepth 100000 in
theorem truantref08_Args.calls (k : Nat) (a0 : Int) (r : Int) (w : World) (h : truantref08_Args.f k a0 = some r) :
  Calls Tryd.prog 18 #[.int .i64 a0] w fun e w' => e = .returned (.int .i64 r) ∧ Drawn0 w w' := by
 have H : (if a0 = 17 then (truantref08_Args.j0 k a0 a0 (a0 == 17)) else (if a0 = 18 then (truantref08_Args.j0 k a0 a0 (a0 == 18)) else (if a0 = 25 then (truantref08_Args.j0 k a0 a0 (a0 == 25)) else (if a0 = 28 then (truantref08_Args.j0 k a0 a0 (a0 == 28)) else (if a0 = 30 then (truantref08_Args.j0 k a0 a0 (a0 == 30)) else (truantref08_Args.j0 k a0 a0 (a0 == 32))))))) = some r := h
 clear h
 have HC2 := Aside0.mk H
 clear H
 go_enter Tryd.func18, Tryd.ntmps18
 go_upto_if 4 with (fail)
 go_cut [4] (fun v4 wc => ∃ (kq : Nat) (x4_1 : Bool), v4 = .bool x4_1 ∧ Aside0 (truantref08_Args.j0 kq a0 a0 x4_1 = some r) ∧ Aside0 (kq ≤ k) ∧ Drawn0 w wc)
 case first =>
  have H := HC2.out
  clear HC2
  by_cases c3 : a0 = 17
  ·rw [if_pos c3] at H
   have c3b0 : (a0 == 17) = true := beq_iff_eq.mpr c3
   have c3b1 : (a0 != 17) = false := bne_eq_false_iff_eq.mpr c3
   clear c3
   (first | rw [c3b0] | rw [c3b1] | rw [c3b4] | (simp only [i64_w, i32_w]; rw [c3b0]) | skip)
   have H' := Aside0.mk H
   clear H
   go_wp2
   go_meet
   case rel => exact ⟨_, ((a0 == 17)), (bq73), H', ⟨by first | omega | exact Nat.le_refl _⟩, by repeat (first | exact Drawn0.refl _ | apply Drawn0.step)⟩
  ·rw [if_neg c3] at H
   have c3b0 : (a0 == 17) = false := beq_eq_false_iff_ne.mpr c3
   have c3b1 : (a0 != 17) = true := bne_iff_ne.mpr c3
   (first | rw [c3b0] | rw [c3b1] | rw [c3b4] | (simp only [i64_w, i32_w]; rw [c3b0]) | skip)
   by_cases c4 : a0 = 18
   ·rw [if_pos c4] at H
    have c4b0 : (a0 == 18) = true := beq_iff_eq.mpr c4
    have c4b1 : (a0 != 18) = false := bne_eq_false_iff_eq.mpr c4
    clear c4
    have H' := Aside0.mk H
    clear H
    go_wp2
    go_meet
    case rel => exact ⟨_, ((a0 == 18)), (bq73), H', ⟨by first | omega | exact Nat.le_refl _⟩, by repeat (first | exact Drawn0.refl _ | apply Drawn0.step)⟩
   ·rw [if_neg c4] at H
    have c4b0 : (a0 == 18) = false := beq_eq_false_iff_ne.mpr c4
    have c4b1 : (a0 != 18) = true := bne_iff_ne.mpr c4
    by_cases c5 : a0 = 25
    ·rw [if_pos c5] at H
     have c5b0 : (a0 == 25) = true := beq_iff_eq.mpr c5
     have c5b1 : (a0 != 25) = false := bne_eq_false_iff_eq.mpr c5
     clear c5
     have H' := Aside0.mk H
     clear H
     go_wp2
     go_meet
     case rel => exact ⟨_, ((a0 == 25)), (bq73), H', ⟨by first | omega | exact Nat.le_refl _⟩, by repeat (first | exact Drawn0.refl _ | apply Drawn0.step)⟩
    ·rw [if_neg c5] at H
     have c5b0 : (a0 == 25) = false := beq_eq_false_iff_ne.mpr c5
     have c5b1 : (a0 != 25) = true := bne_iff_ne.mpr c5
     by_cases c6 : a0 = 28
     ·rw [if_pos c6] at H
      have c6b0 : (a0 == 28) = true := beq_iff_eq.mpr c6
      have c6b1 : (a0 != 28) = false := bne_eq_false_iff_eq.mpr c6
      clear c6
      have H' := Aside0.mk H
      clear H
      go_wp2
      go_meet
      case rel => exact ⟨_, ((a0 == 28)), (bq73), H', ⟨by first | omega | exact Nat.le_refl _⟩, by repeat (first | exact Drawn0.refl _ | apply Drawn0.step)⟩
     ·rw [if_neg c6] at H
      have c6b0 : (a0 == 28) = false := beq_eq_false_iff_ne.mpr c6
      have c6b1 : (a0 != 28) = true := bne_iff_ne.mpr c6
      by_cases c7 : a0 = 30
      ·rw [if_pos c7] at H
       have c7b0 : (a0 == 30) = true := beq_iff_eq.mpr c7
       have c7b1 : (a0 != 30) = false := bne_eq_false_iff_eq.mpr c7
       clear c7
       have H' := Aside0.mk H
       clear H
       go_wp2
       go_meet
       case rel => exact ⟨_, ((a0 == 30)), (bq73), H', ⟨by first | omega | exact Nat.le_refl _⟩, by repeat (first | exact Drawn0.refl _ | apply Drawn0.step)⟩
      ·rw [if_neg c7] at H
       have c7b0 : (a0 == 30) = false := beq_eq_false_iff_ne.mpr c7
       have c7b1 : (a0 != 30) = true := bne_iff_ne.mpr c7
       have H' := Aside0.mk H
       clear H
       go_wp2
       go_meet
       case rel => exact ⟨_, ((a0 == 32)), (bq73), H', ⟨by first | omega | exact Nat.le_refl _⟩, by repeat (first | exact Drawn0.refl _ | apply Drawn0.step)⟩
 case rest =>
  clear HC2
  try clear c1
  try clear p2
  try clear c3
  try clear c3b0
  try clear c3b1
  try clear c4
  try clear c4b0
  try clear c4b1
  try clear c5
  try clear c5b0
  try clear c5b1
  try clear c6
  try clear c6b0
  try clear c6b1
  try clear c7
  try clear c7b0
  try clear c7b1
  obtain ⟨kq, x4_1, rfl, HA, HJ1, ⟨mc1, rfl⟩⟩ := hcut
  cases kq with
  | zero => exact absurd HA.out (by simp [truantref08_Args.j0])
  | succ kj1 =>
   have H := HA.out
   clear HA
   simp only [truantref08_Args.j0] at H
   by_cases c8 : x4_1 = true
   ·subst c8
    have H1 := H; rw [if_pos rfl] at H1; (try dsimp only at H1)
    clear H
    have H := H1
    clear H1
    obtain rfl := Option.some.inj H
    go_wp2
    go_ret
    exact ⟨bq73, by repeat (first | exact Drawn0.refl _ | apply Drawn0.step)⟩
   ·replace c8 := Bool.eq_false_iff.mpr c8
    subst c8
    have H1 := H; rw [if_neg (show ¬ (false = true) by decide)] at H1; (try dsimp only at H1)
    clear H
    have H := H1
    clear H1
    by_cases c9 : a0 = 26
    ·rw [if_pos c9] at H
     have c9b0 : (a0 == 26) = true := beq_iff_eq.mpr c9
     have c9b1 : (a0 != 26) = false := bne_eq_false_iff_eq.mpr c9
     clear c9
     obtain rfl := Option.some.inj H
     go_wp2
     go_ret
     exact ⟨bq73, by repeat (first | exact Drawn0.refl _ | apply Drawn0.step)⟩
    ·rw [if_neg c9] at H
     have c9b0 : (a0 == 26) = false := beq_eq_false_iff_ne.mpr c9
     have c9b1 : (a0 != 26) = true := bne_iff_ne.mpr c9
     have HC10 := Aside0.mk H
     clear H
     go_upto_if 13 with (fail)
     go_cut [13] (fun v13 wc => ∃ (kq : Nat) (x13_9 : Bool), v13 = .bool x13_9 ∧ Aside0 (truantref08_Args.j1 kq a0 x13_9 = some r) ∧ Aside0 (kq ≤ kj1) ∧ Drawn0 w wc)
     case first =>
      have H := HC10.out
      clear HC10
      by_cases c11 : a0 = 20
      ·rw [if_pos c11] at H
       have c11b0 : (a0 == 20) = true := beq_iff_eq.mpr c11
       have c11b1 : (a0 != 20) = false := bne_eq_false_iff_eq.mpr c11
       clear c11
       (first | rw [c11b0] | rw [c11b1] | rw [c11b4] | (simp only [i64_w, i32_w]; rw [c11b0]) | skip)
       have H' := Aside0.mk H
       clear H
       go_wp2
       go_meet
       case rel => exact ⟨_, ((a0 == 20)), (bq73), H', ⟨by have := HJ1.out; first | omega | exact Nat.le_refl _⟩, by repeat (first | exact Drawn0.refl _ | apply Drawn0.step)⟩
      ·rw [if_neg c11] at H
       have c11b0 : (a0 == 20) = false := beq_eq_false_iff_ne.mpr c11
       have c11b1 : (a0 != 20) = true := bne_iff_ne.mpr c11
       (first | rw [c11b0] | rw [c11b1] | rw [c11b4] | (simp only [i64_w, i32_w]; rw [c11b0]) | skip)
       by_cases c12 : a0 = 21
       ·rw [if_pos c12] at H
        have c12b0 : (a0 == 21) = true := beq_iff_eq.mpr c12
        have c12b1 : (a0 != 21) = false := bne_eq_false_iff_eq.mpr c12
        clear c12
        have H' := Aside0.mk H
        clear H
        go_wp2
        go_meet
        case rel => exact ⟨_, ((a0 == 21)), (bq73), H', ⟨by have := HJ1.out; first | omega | exact Nat.le_refl _⟩, by repeat (first | exact Drawn0.refl _ | apply Drawn0.step)⟩
       ·rw [if_neg c12] at H
        have c12b0 : (a0 == 21) = false := beq_eq_false_iff_ne.mpr c12
        have c12b1 : (a0 != 21) = true := bne_iff_ne.mpr c12
        by_cases c13 : a0 = 22
        ·rw [if_pos c13] at H
         have c13b0 : (a0 == 22) = true := beq_iff_eq.mpr c13
         have c13b1 : (a0 != 22) = false := bne_eq_false_iff_eq.mpr c13
         clear c13
         have H' := Aside0.mk H
         clear H
         go_wp2
         go_meet
         case rel => exact ⟨_, ((a0 == 22)), (bq73), H', ⟨by have := HJ1.out; first | omega | exact Nat.le_refl _⟩, by repeat (first | exact Drawn0.refl _ | apply Drawn0.step)⟩
        ·rw [if_neg c13] at H
         have c13b0 : (a0 == 22) = false := beq_eq_false_iff_ne.mpr c13
         have c13b1 : (a0 != 22) = true := bne_iff_ne.mpr c13
         by_cases c14 : a0 = 23
         ·rw [if_pos c14] at H
          have c14b0 : (a0 == 23) = true := beq_iff_eq.mpr c14
          have c14b1 : (a0 != 23) = false := bne_eq_false_iff_eq.mpr c14
          clear c14
          have H' := Aside0.mk H
          clear H
          go_wp2
          go_meet
          case rel => exact ⟨_, ((a0 == 23)), (bq73), H', ⟨by have := HJ1.out; first | omega | exact Nat.le_refl _⟩, by repeat (first | exact Drawn0.refl _ | apply Drawn0.step)⟩
         ·rw [if_neg c14] at H
          have c14b0 : (a0 == 23) = false := beq_eq_false_iff_ne.mpr c14
          have c14b1 : (a0 != 23) = true := bne_iff_ne.mpr c14
          by_cases c15 : a0 = 24
          ·rw [if_pos c15] at H
           have c15b0 : (a0 == 24) = true := beq_iff_eq.mpr c15
           have c15b1 : (a0 != 24) = false := bne_eq_false_iff_eq.mpr c15
           clear c15
           have H' := Aside0.mk H
           clear H
           go_wp2
           go_meet
           case rel => exact ⟨_, ((a0 == 24)), (bq73), H', ⟨by have := HJ1.out; first | omega | exact Nat.le_refl _⟩, by repeat (first | exact Drawn0.refl _ | apply Drawn0.step)⟩
          ·rw [if_neg c15] at H
           have c15b0 : (a0 == 24) = false := beq_eq_false_iff_ne.mpr c15
           have c15b1 : (a0 != 24) = true := bne_iff_ne.mpr c15
           by_cases c16 : a0 = 27
           ·rw [if_pos c16] at H
            have c16b0 : (a0 == 27) = true := beq_iff_eq.mpr c16
            have c16b1 : (a0 != 27) = false := bne_eq_false_iff_eq.mpr c16
            clear c16
            have H' := Aside0.mk H
            clear H
            go_wp2
            go_meet
            case rel => exact ⟨_, ((a0 == 27)), (bq73), H', ⟨by have := HJ1.out; first | omega | exact Nat.le_refl _⟩, by repeat (first | exact Drawn0.refl _ | apply Drawn0.step)⟩
           ·rw [if_neg c16] at H
            have c16b0 : (a0 == 27) = false := beq_eq_false_iff_ne.mpr c16
            have c16b1 : (a0 != 27) = true := bne_iff_ne.mpr c16
            by_cases c17 : a0 = 29
            ·rw [if_pos c17] at H
             have c17b0 : (a0 == 29) = true := beq_iff_eq.mpr c17
             have c17b1 : (a0 != 29) = false := bne_eq_false_iff_eq.mpr c17
             clear c17
             have H' := Aside0.mk H
             clear H
             go_wp2
             go_meet
             case rel => exact ⟨_, ((a0 == 29)), (bq73), H', ⟨by have := HJ1.out; first | omega | exact Nat.le_refl _⟩, by repeat (first | exact Drawn0.refl _ | apply Drawn0.step)⟩
            ·rw [if_neg c17] at H
             have c17b0 : (a0 == 29) = false := beq_eq_false_iff_ne.mpr c17
             have c17b1 : (a0 != 29) = true := bne_iff_ne.mpr c17
             have H' := Aside0.mk H
             clear H
             go_wp2
             go_meet
             case rel => exact ⟨_, ((a0 == 33)), (bq73), H', ⟨by have := HJ1.out; first | omega | exact Nat.le_refl _⟩, by repeat (first | exact Drawn0.refl _ | apply Drawn0.step)⟩
     case rest =>
      clear HC10
      try clear c1
      try clear p2
      try clear c3
      try clear c3b0
      try clear c3b1
      try clear c4
      try clear c4b0
      try clear c4b1
      try clear c5
      try clear c5b0
      try clear c5b1
      try clear c6
      try clear c6b0
      try clear c6b1
      try clear c7
      try clear c7b0
      try clear c7b1
      try clear c8
      try clear c9
      try clear c9b0
      try clear c9b1
      try clear c11
      try clear c11b0
      try clear c11b1
      try clear c12
      try clear c12b0
      try clear c12b1
      try clear c13
      try clear c13b0
      try clear c13b1
      try clear c14
      try clear c14b0
      try clear c14b1
      try clear c15
      try clear c15b0
      try clear c15b1
      try clear c16
      try clear c16b0
      try clear c16b1
      try clear c17
      try clear c17b0
      try clear c17b1
      try clear p2
      obtain ⟨kq, x13_9, rfl, HA, HJ9, ⟨mc9, rfl⟩⟩ := hcut
      cases kq with
      | zero => exact absurd HA.out (by simp [truantref08_Args.j1])
      | succ kj9 =>
       have H := HA.out
       clear HA
       simp only [truantref08_Args.j1] at H
       by_cases c18 : x13_9 = true
       ·subst c18
        have H1 := H; rw [if_pos rfl] at H1; (try dsimp only at H1)
        clear H
        have H := H1
        clear H1
        obtain rfl := Option.some.inj H
        go_wp2
        go_ret
        exact ⟨bq73, by repeat (first | exact Drawn0.refl _ | apply Drawn0.step)⟩
       ·replace c18 := Bool.eq_false_iff.mpr c18
        subst c18
        have H1 := H; rw [if_neg (show ¬ (false = true) by decide)] at H1; (try dsimp only at H1)
        clear H
        have H := H1
        clear H1
        by_cases c19 : a0 ≥ 1
        ·rw [if_pos c19] at H
         have c19b0 := decide_eq_true c19
         clear c19
         by_cases c20 : a0 ≤ 16
         ·rw [if_pos c20] at H
          have c20b0 := decide_eq_true c20
          clear c20
          obtain rfl := Option.some.inj H
          go_wp2
          go_ret
          exact ⟨bq73, by repeat (first | exact Drawn0.refl _ | apply Drawn0.step)⟩
         ·rw [if_neg c20] at H
          have c20b0 := decide_eq_false c20
          clear c20
          obtain rfl := Option.some.inj H
          go_wp2
          go_ret
          exact ⟨bq73, by repeat (first | exact Drawn0.refl _ | apply Drawn0.step)⟩
        ·rw [if_neg c19] at H
         have c19b0 := decide_eq_false c19
         clear c19
         obtain rfl := Option.some.inj H
         go_wp2
         go_ret
         exact ⟨bq73, by repeat (first | exact Drawn0.refl _ | apply Drawn0.step)⟩

end Go.Proofs.YtkiiojgaaoaipaaDoor.Q

/- IrWords: each op has its own word. -/

namespace Go.Proofs.YtkiiojgaaoaipaaDoor.Q
open Go.RowKit Go.Proofs.YtkiiojgaaoaipaaDoorW.PrintWords Go.Proofs.YtkiiojgaaoaipaaDoorW.PrintLast Go.Proofs.YtkiiojgaaoaipaaDoorW.PrintMore
set_option linter.unusedVariables false
set_option linter.unusedSimpArgs false
def opB (a : Int) : Bool := decide (1 ≤ a ∧ a ≤ 34 ∧ a ≠ 19)
theorem empty_list : (⟨#[]⟩ : ByteArray).toList = [] := by kernel_rfl
theorem word_out (a : Int) (h : a < 0 ∨ 34 < a) : wordOf a = ⟨#[]⟩ := if_neg (by omega)
theorem opB_out (a : Int) (h : a < 0 ∨ 34 < a) : opB a = false := decide_eq_false (by omega)
set_option maxHeartbeats 2000000 in
theorem ir_Args_out (a : Int) (h : a < 0 ∨ 34 < a) : ir_Args.f 60 a = some (-1) := by
 have h0 : ¬ a = 0 := by omega
 have b0 : (a == 0) = false := by simp [h0]
 have h1 : ¬ a = 1 := by omega
 have b1 : (a == 1) = false := by simp [h1]
 have h2 : ¬ a = 2 := by omega
 have b2 : (a == 2) = false := by simp [h2]
 have h3 : ¬ a = 3 := by omega
 have b3 : (a == 3) = false := by simp [h3]
 have h4 : ¬ a = 4 := by omega
 have b4 : (a == 4) = false := by simp [h4]
 have h5 : ¬ a = 5 := by omega
 have b5 : (a == 5) = false := by simp [h5]
 have h6 : ¬ a = 6 := by omega
 have b6 : (a == 6) = false := by simp [h6]
 have h7 : ¬ a = 7 := by omega
 have b7 : (a == 7) = false := by simp [h7]
 have h8 : ¬ a = 8 := by omega
 have b8 : (a == 8) = false := by simp [h8]
 have h9 : ¬ a = 9 := by omega
 have b9 : (a == 9) = false := by simp [h9]
 have h10 : ¬ a = 10 := by omega
 have b10 : (a == 10) = false := by simp [h10]
 have h11 : ¬ a = 11 := by omega
 have b11 : (a == 11) = false := by simp [h11]
 have h12 : ¬ a = 12 := by omega
 have b12 : (a == 12) = false := by simp [h12]
 have h13 : ¬ a = 13 := by omega
 have b13 : (a == 13) = false := by simp [h13]
 have h14 : ¬ a = 14 := by omega
 have b14 : (a == 14) = false := by simp [h14]
 have h15 : ¬ a = 15 := by omega
 have b15 : (a == 15) = false := by simp [h15]
 have h16 : ¬ a = 16 := by omega
 have b16 : (a == 16) = false := by simp [h16]
 have h17 : ¬ a = 17 := by omega
 have b17 : (a == 17) = false := by simp [h17]
 have h18 : ¬ a = 18 := by omega
 have b18 : (a == 18) = false := by simp [h18]
 have h19 : ¬ a = 19 := by omega
 have b19 : (a == 19) = false := by simp [h19]
 have h20 : ¬ a = 20 := by omega
 have b20 : (a == 20) = false := by simp [h20]
 have h21 : ¬ a = 21 := by omega
 have b21 : (a == 21) = false := by simp [h21]
 have h22 : ¬ a = 22 := by omega
 have b22 : (a == 22) = false := by simp [h22]
 have h23 : ¬ a = 23 := by omega
 have b23 : (a == 23) = false := by simp [h23]
 have h24 : ¬ a = 24 := by omega
 have b24 : (a == 24) = false := by simp [h24]
 have h25 : ¬ a = 25 := by omega
 have b25 : (a == 25) = false := by simp [h25]
 have h26 : ¬ a = 26 := by omega
 have b26 : (a == 26) = false := by simp [h26]
 have h27 : ¬ a = 27 := by omega
 have b27 : (a == 27) = false := by simp [h27]
 have h28 : ¬ a = 28 := by omega
 have b28 : (a == 28) = false := by simp [h28]
 have h29 : ¬ a = 29 := by omega
 have b29 : (a == 29) = false := by simp [h29]
 have h30 : ¬ a = 30 := by omega
 have b30 : (a == 30) = false := by simp [h30]
 have h31 : ¬ a = 31 := by omega
 have b31 : (a == 31) = false := by simp [h31]
 have h32 : ¬ a = 32 := by omega
 have b32 : (a == 32) = false := by simp [h32]
 have h33 : ¬ a = 33 := by omega
 have b33 : (a == 33) = false := by simp [h33]
 have h34 : ¬ a = 34 := by omega
 have b34 : (a == 34) = false := by simp [h34]
 have c1 : ¬ (1 ≤ a ∧ a ≤ 16) := by omega
 have c2 : 1 ≤ a → ¬ a ≤ 16 := by omega
 have c3 : 1 ≤ a → ¬ a ≤ 18 := by omega
 simp [ir_Args.f, ir_Args.j0, ir_Args.j1, h0, b0, h1, b1, h2, b2, h3, b3, h4, b4, h5, b5, h6, b6, h7, b7, h8, b8, h9, b9, h10, b10, h11, b11, h12, b12, h13, b13, h14, b14, h15, b15, h16, b16, h17, b17, h18, b18, h19, b19, h20, b20, h21, b21, h22, b22, h23, b23, h24, b24, h25, b25, h26, b26, h27, b27, h28, b28, h29, b29, h30, b30, h31, b31, h32, b32, h33, b33, h34, b34]
 try (first | exact c2 | exact c3 | omega | (intro hh; omega))
set_option maxHeartbeats 2000000 in
theorem ir_IsQuiet_out (a : Int) (h : a < 0 ∨ 34 < a) : ir_IsQuiet.f 60 a = some false := by
 have h0 : ¬ a = 0 := by omega
 have b0 : (a == 0) = false := by simp [h0]
 have h1 : ¬ a = 1 := by omega
 have b1 : (a == 1) = false := by simp [h1]
 have h2 : ¬ a = 2 := by omega
 have b2 : (a == 2) = false := by simp [h2]
 have h3 : ¬ a = 3 := by omega
 have b3 : (a == 3) = false := by simp [h3]
 have h4 : ¬ a = 4 := by omega
 have b4 : (a == 4) = false := by simp [h4]
 have h5 : ¬ a = 5 := by omega
 have b5 : (a == 5) = false := by simp [h5]
 have h6 : ¬ a = 6 := by omega
 have b6 : (a == 6) = false := by simp [h6]
 have h7 : ¬ a = 7 := by omega
 have b7 : (a == 7) = false := by simp [h7]
 have h8 : ¬ a = 8 := by omega
 have b8 : (a == 8) = false := by simp [h8]
 have h9 : ¬ a = 9 := by omega
 have b9 : (a == 9) = false := by simp [h9]
 have h10 : ¬ a = 10 := by omega
 have b10 : (a == 10) = false := by simp [h10]
 have h11 : ¬ a = 11 := by omega
 have b11 : (a == 11) = false := by simp [h11]
 have h12 : ¬ a = 12 := by omega
 have b12 : (a == 12) = false := by simp [h12]
 have h13 : ¬ a = 13 := by omega
 have b13 : (a == 13) = false := by simp [h13]
 have h14 : ¬ a = 14 := by omega
 have b14 : (a == 14) = false := by simp [h14]
 have h15 : ¬ a = 15 := by omega
 have b15 : (a == 15) = false := by simp [h15]
 have h16 : ¬ a = 16 := by omega
 have b16 : (a == 16) = false := by simp [h16]
 have h17 : ¬ a = 17 := by omega
 have b17 : (a == 17) = false := by simp [h17]
 have h18 : ¬ a = 18 := by omega
 have b18 : (a == 18) = false := by simp [h18]
 have h19 : ¬ a = 19 := by omega
 have b19 : (a == 19) = false := by simp [h19]
 have h20 : ¬ a = 20 := by omega
 have b20 : (a == 20) = false := by simp [h20]
 have h21 : ¬ a = 21 := by omega
 have b21 : (a == 21) = false := by simp [h21]
 have h22 : ¬ a = 22 := by omega
 have b22 : (a == 22) = false := by simp [h22]
 have h23 : ¬ a = 23 := by omega
 have b23 : (a == 23) = false := by simp [h23]
 have h24 : ¬ a = 24 := by omega
 have b24 : (a == 24) = false := by simp [h24]
 have h25 : ¬ a = 25 := by omega
 have b25 : (a == 25) = false := by simp [h25]
 have h26 : ¬ a = 26 := by omega
 have b26 : (a == 26) = false := by simp [h26]
 have h27 : ¬ a = 27 := by omega
 have b27 : (a == 27) = false := by simp [h27]
 have h28 : ¬ a = 28 := by omega
 have b28 : (a == 28) = false := by simp [h28]
 have h29 : ¬ a = 29 := by omega
 have b29 : (a == 29) = false := by simp [h29]
 have h30 : ¬ a = 30 := by omega
 have b30 : (a == 30) = false := by simp [h30]
 have h31 : ¬ a = 31 := by omega
 have b31 : (a == 31) = false := by simp [h31]
 have h32 : ¬ a = 32 := by omega
 have b32 : (a == 32) = false := by simp [h32]
 have h33 : ¬ a = 33 := by omega
 have b33 : (a == 33) = false := by simp [h33]
 have h34 : ¬ a = 34 := by omega
 have b34 : (a == 34) = false := by simp [h34]
 have c1 : ¬ (1 ≤ a ∧ a ≤ 16) := by omega
 have c2 : 1 ≤ a → ¬ a ≤ 16 := by omega
 have c3 : 1 ≤ a → ¬ a ≤ 18 := by omega
 simp [ir_IsQuiet.f, ir_IsQuiet.j0, h0, b0, h1, b1, h2, b2, h3, b3, h4, b4, h5, b5, h6, b6, h7, b7, h8, b8, h9, b9, h10, b10, h11, b11, h12, b12, h13, b13, h14, b14, h15, b15, h16, b16, h17, b17, h18, b18, h19, b19, h20, b20, h21, b21, h22, b22, h23, b23, h24, b24, h25, b25, h26, b26, h27, b27, h28, b28, h29, b29, h30, b30, h31, b31, h32, b32, h33, b33, h34, b34]
 try (first | exact c2 | exact c3 | omega | (intro hh; omega))
theorem in_list (a : Int) (h : ¬ (a < 0 ∨ 34 < a)) : ∃ n : Nat, n < 35 ∧ a = n := ⟨a.toNat, by omega, by omega⟩
def rowOk (n : Nat) : Bool := (match ir_IsQuiet.f 60 n with | some q => (!q || opB n) | none => false) && (match ir_Args.f 60 n with | some m => decide (-1 ≤ m ∧ m ≤ 2) && (opB n || m == -1) | none => false) && (opB n == ((wordOf n).toList != ([] : List UInt8)))
theorem rows_ok : ((List.range 35).all rowOk) = true := by kernel_rfl
def pairOk (n m : Nat) : Bool := ((wordOf n).toList == (wordOf m).toList) == (if n = m then true else if opB n then false else !opB m)
theorem pairs_ok : ((List.range 35).all fun n => (List.range 35).all fun m => pairOk n m) = true := by kernel_rfl
theorem row_is (a : Int) : (∃ q, ir_IsQuiet.f 60 a = some q ∧ (q = true → opB a = true)) ∧ (∃ m, ir_Args.f 60 a = some m ∧ -1 ≤ m ∧ m ≤ 2 ∧ (opB a = false → m = -1)) ∧ opB a = ((wordOf a).toList != ([] : List UInt8)) := by
 by_cases h : a < 0 ∨ 34 < a
 ·refine ⟨⟨false, ir_IsQuiet_out a h, fun e => by cases e⟩, ⟨-1, ir_Args_out a h, by decide, by decide, fun _ => rfl⟩, ?_⟩
  rw [opB_out a h, word_out a h, empty_list]; rfl
 ·obtain ⟨n, hn, rfl⟩ := in_list a h
  have h1 := List.all_eq_true.mp rows_ok n (List.mem_range.mpr hn)
  unfold rowOk at h1
  cases hq : ir_IsQuiet.f 60 (n : Int) with
  | none => rw [hq] at h1; simp at h1
  | some q =>
   cases hm : ir_Args.f 60 (n : Int) with
   | none => rw [hq, hm] at h1; simp at h1
   | some m =>
    rw [hq, hm] at h1
    simp only [Bool.and_eq_true, Bool.or_eq_true, Bool.not_eq_true', decide_eq_true_eq, beq_iff_eq] at h1
    obtain ⟨⟨h2, ⟨h3, h4⟩, h5⟩, h6⟩ := h1
    refine ⟨⟨q, rfl, fun e => h2.resolve_left (by rw [e]; decide)⟩, ⟨m, rfl, h3, h4, fun e => h5.resolve_left (by rw [e]; decide)⟩, h6⟩
theorem pair_is (a b : Int) : ((wordOf a).toList == (wordOf b).toList) = (if a = b then true else if opB a = true then false else !opB b) := by
 by_cases ha : a < 0 ∨ 34 < a
 ·have hb := (row_is b).2.2
  rw [word_out a ha, opB_out a ha, hb, empty_list]
  by_cases e : a = b
  ·subst e
   rw [word_out a ha, if_pos rfl, empty_list]; rfl
  ·rw [if_neg e, if_neg (by decide)]
   cases (wordOf b).toList <;> rfl
 ·by_cases hb : b < 0 ∨ 34 < b
  ·have h := (row_is a).2.2
   have hne : a ≠ b := fun e => ha (by rw [e]; exact hb)
   rw [word_out b hb, opB_out b hb, h, if_neg hne, empty_list]
   cases (wordOf a).toList <;> rfl
  ·obtain ⟨n, hn, rfl⟩ := in_list a ha
   obtain ⟨m, hm, rfl⟩ := in_list b hb
   have h1 := List.all_eq_true.mp (List.all_eq_true.mp pairs_ok n (List.mem_range.mpr hn)) m (List.mem_range.mpr hm)
   unfold pairOk at h1
   have h2 := beq_iff_eq.mp h1
   by_cases e : n = m
   ·subst e
    rw [h2, if_pos rfl, if_pos rfl]
   ·have e2 : ¬ ((n : Int) = (m : Int)) := fun q => e (Int.ofNat.inj q)
    rw [h2, if_neg e, if_neg e2]
theorem IrWords_pure : IrWords.Pure := by
 intro a b _ _
 refine ⟨60, ?_⟩
 obtain ⟨⟨q, hq, hqo⟩, ⟨m, hm, hm1, hm2, hmo⟩, hw⟩ := row_is a
 have hp := pair_is a b
 have ea : ir_IsOp.f a = some (opB a) := isOp_is a
 have eb : ir_IsOp.f b = some (opB b) := isOp_is b
 have wa : ir_Word.f a = some (wordOf a) := rfl
 have wb : ir_Word.f b = some (wordOf b) := rfl
 unfold truantlaw08_IrWords.f truantlaw08_awake.f
 simp only [ea, eb, wa, wb, hq, hm, Option.bind_some, ← hw, bne_self_eq_false, Bool.false_eq_true, if_true, if_false, hp, if_neg (show ¬ m < -1 by omega), if_neg (show ¬ m > 2 by omega)]
 by_cases e : a = b
 ·simp only [if_pos e]
  cases ho : opB a <;> cases q <;> simp_all
 ·simp only [if_neg e]
  cases ho : opB a <;> cases q <;> simp_all
end Go.Proofs.YtkiiojgaaoaipaaDoor.Q

/- From what the row lists to what the calls read of the package-level variables: by hand. -/
namespace Go.Proofs.YtkiiojgaaoaipaaDoor.Q
open Go.RowKit Go.Proofs.YtkiiojgaaoaipaaDoorW.PrintWords Go.Proofs.YtkiiojgaaoaipaaDoorW.PrintLast Go.Proofs.YtkiiojgaaoaipaaDoorW.PrintMore
set_option linter.unusedVariables false
set_option linter.unusedSimpArgs false
theorem gPow : Tryd.prog.globalNamed "internal/strconv.uint64pow10" = some 1 := by kernel_rfl
theorem gPowType : (Tryd.prog.globals[1]?).map (·.type) = some 125 := by kernel_rfl
theorem cellsU64 : Tryd.prog.cellsOf 106 = 1 := by kernel_rfl
theorem cellsPow : Tryd.prog.cellsOf 125 = 20 := by kernel_rfl
theorem powData : (Rows.laid_internal_strconv_uint64pow10 : DataW Unit) = Lib.tabData .u64 Lib.pow10Tab := by kernel_rfl
def listedG : List (String × DataW Unit) := [("math/bits.deBruijn32tab", Rows.laid_math_bits_deBruijn32tab), ("math/bits.deBruijn64tab", Rows.laid_math_bits_deBruijn64tab), ("internal/strconv.uint64pow10", Rows.laid_internal_strconv_uint64pow10)]
theorem glob_of_laid {W : World} (h : laidMetH Tryd.prog listedG W) : Glob W := by
 rw [MakeChecks.laidMetH_plain _ _ _ (by kernel_rfl)] at h
 have h2 := h.tail.tail
 rw [powData] at h2
 exact Lib.tabIs_of_head gPow gPowType Tryd.underlying125 Tryd.underlying106 cellsU64 cellsPow h2
end Go.Proofs.YtkiiojgaaoaipaaDoor.Q

