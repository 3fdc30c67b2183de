/- What the row of LexExact rests on, part 2: contracts of the functions that it reaches, and the plain law. -/
import Derived.Test.YtcmppjonpmgncaaGreatDoorJLexExact1
namespace Go.Proofs.YtcmppjonpmgncaaGreatDoor.Q
open Go.RowKit Go.Proofs.YtcmppjonpmgncaaGreatDoorW.PrintWords Go.Proofs.YtcmppjonpmgncaaGreatDoorW.PrintLast Go.Proofs.YtcmppjonpmgncaaGreatDoorW.PrintMore
attribute [local go_sem] max2_int min2_int max_two min_two max_three min_three max_four min_four   -- for this text's walks alone
set_option linter.unusedVariables false
set_option linter.unusedSimpArgs false

/-! ### truantref02_sign: function 22 -/
def truantref02_sign.j0 : Nat → ByteArray → Int → ByteArray → Option (Int)
 | 0, _, _, _ => none
 | k + 1, x0, x1, x5 => if x5.toList = ([60, 60] : List UInt8) then (some 2) else (if x5.toList = ([62, 62] : List UInt8) then (some 2) else (if x5.toList = ([61, 61] : List UInt8) then (some 2) else (if x5.toList = ([33, 61] : List UInt8) then (some 2) else (if x5.toList = ([60, 61] : List UInt8) then (some 2) else (if x5.toList = ([62, 61] : List UInt8) then (some 2) else (if x5.toList = ([38, 38] : List UInt8) then (some 2) else (if x5.toList = ([124, 124] : List UInt8) then (some 2) else (if x5.toList = ([58, 61] : List UInt8) then (some 2) else (if 0 ≤ x1 then (if x1 < (x0.size : Int) then (if (bt x0 x1) = 43 then (some 1) else (if (bt x0 x1) = 45 then (some 1) else (if (bt x0 x1) = 42 then (some 1) else (if (bt x0 x1) = 47 then (some 1) else (if (bt x0 x1) = 37 then (some 1) else (if (bt x0 x1) = 38 then (some 1) else (if (bt x0 x1) = 124 then (some 1) else (if (bt x0 x1) = 94 then (some 1) else (if (bt x0 x1) = 60 then (some 1) else (if (bt x0 x1) = 62 then (some 1) else (if (bt x0 x1) = 33 then (some 1) else (if (bt x0 x1) = 61 then (some 1) else (if (bt x0 x1) = 46 then (some 1) else (if (bt x0 x1) = 44 then (some 1) else (if (bt x0 x1) = 59 then (some 1) else (if (bt x0 x1) = 40 then (some 1) else (if (bt x0 x1) = 41 then (some 1) else (if (bt x0 x1) = 123 then (some 1) else (if (bt x0 x1) = 125 then (some 1) else (some 0)))))))))))))))))))) else (none)) else (none))))))))))
def truantref02_sign.f (k : Nat) (a0 : ByteArray) (a1 : Int) : Option (Int) := if (wrap64 (a1 + 2)) ≤ (a0.size : Int) then (if 0 ≤ a1 then (if a1 ≤ (wrap64 (a1 + 2)) then (truantref02_sign.j0 k a0 a1 (a0.extract (a1 : Int).toNat ((wrap64 (a1 + 2)) : Int).toNat)) else (none)) else (none)) else (truantref02_sign.j0 k a0 a1 (⟨#[]⟩ : ByteArray))
theorem truantref02_sign.mono_l : ∀ k, (∀ y0 y1 y2, LeO (truantref02_sign.j0 k y0 y1 y2) (truantref02_sign.j0 (k + 1) y0 y1 y2))
 | 0 => fun _ _ _ r h => by simp [truantref02_sign.j0] at h
 | k + 1 => by
  have ih0 := truantref02_sign.mono_l k
  ·intro y0 y1 y2
   unfold truantref02_sign.j0
   repeat' first
   | (with_reducible exact ih0 _ _ _)
   | (with_reducible exact LeO.refl _)
   | (with_reducible exact LeO.none _)
   | (with_reducible refine LeO.ite ?_ ?_)
   | (with_reducible refine LeO.bind ?_ (fun _ => ?_))
   | exact ih0 _ _ _
   | exact LeO.none _
   | refine LeO.ite ?_ ?_
   | refine LeO.bind ?_ (fun _ => ?_)
theorem truantref02_sign.mono : ∀ a0 a1 k, LeO (truantref02_sign.f k a0 a1) (truantref02_sign.f (k + 1) a0 a1) := by
 intro a0 a1 k
 have ih0 := truantref02_sign.mono_l k
 unfold truantref02_sign.f
 repeat' first
   | (with_reducible exact ih0 _ _ _)
   | (with_reducible exact LeO.refl _)
   | (with_reducible exact LeO.none _)
   | (with_reducible refine LeO.ite ?_ ?_)
   | (with_reducible refine LeO.bind ?_ (fun _ => ?_))
   | exact ih0 _ _ _
   | exact LeO.none _
   | refine LeO.ite ?_ ?_
   | refine LeO.bind ?_ (fun _ => ?_)
set_option maxHeartbeats 8000000 in
set_option maxRecDepth 100000 in
theorem truantref02_sign.calls (k : Nat) (a0 : ByteArray) (a1 : Int) (r : Int) (w : World) (h : truantref02_sign.f k a0 a1 = some r) :
  Calls Tryz.prog 22 #[.string a0, .int .i64 a1] w fun e w' => e = .returned (.int .i64 r) ∧ Drawn0 w w' := by
 have H : (if (wrap64 (a1 + 2)) ≤ (a0.size : Int) then (if 0 ≤ a1 then (if a1 ≤ (wrap64 (a1 + 2)) then (truantref02_sign.j0 k a0 a1 (a0.extract (a1 : Int).toNat ((wrap64 (a1 + 2)) : Int).toNat)) else (none)) else (none)) else (truantref02_sign.j0 k a0 a1 (⟨#[]⟩ : ByteArray))) = some r := h
 clear h
 have HC3 := Aside0.mk H
 clear H
 go_enter Tryz.func22, Tryz.ntmps22
 go_upto_if 10 with (fail)
 go_cut [5] (fun v5 wc => ∃ (kq : Nat) (x5_2 : ByteArray), v5 = .string x5_2 ∧ Aside0 (truantref02_sign.j0 kq a0 a1 x5_2 = some r) ∧ Aside0 (kq ≤ k) ∧ Drawn0 w wc)
 case first =>
  have H := HC3.out
  clear HC3
  by_cases c4 : (wrap64 (a1 + 2)) ≤ (a0.size : Int)
  ·rw [if_pos c4] at H
   have c4b0 : decide ((wrap64 (a1 + 2)) ≤ (a0.size : Int)) = true := decide_eq_true c4
   clear c4
   (first | rw [c4b0] | (simp only [i64_w, i32_w]; rw [c4b0]) | skip)
   by_cases c5 : 0 ≤ a1
   ·rw [if_pos c5] at H
    have c5b0 := eq_true c5
    have c5b1 : decide (0 ≤ a1) = true := decide_eq_true c5
    clear c5
    by_cases c6 : a1 ≤ (wrap64 (a1 + 2))
    ·rw [if_pos c6] at H
     have c6b0 := eq_true c6
     have c6b1 : decide (a1 ≤ (wrap64 (a1 + 2))) = true := decide_eq_true c6
     have c7b0 := eq_true (of_decide_eq_true (by first | (with_reducible assumption) | assumption) : (wrap64 (a1 + 2)) ≤ (a0.size : Int))
     have H' := Aside0.mk H
     clear H
     go_wp2
     go_meet
     case rel => exact ⟨_, (a0.extract (a1 : Int).toNat ((wrap64 (a1 + 2)) : Int).toNat), (by first | rfl | (simp; done) | (simp [*]; done)), H', ⟨by first | omega | exact Nat.le_refl _⟩, by repeat (first | exact Drawn0.refl _ | apply Drawn0.step)⟩
    ·rw [if_neg c6] at H
     exact absurd H (by simp)
   ·rw [if_neg c5] at H
    exact absurd H (by simp)
  ·rw [if_neg c4] at H
   have c4b0 : decide ((wrap64 (a1 + 2)) ≤ (a0.size : Int)) = false := decide_eq_false c4
   clear c4
   (first | rw [c4b0] | (simp only [i64_w, i32_w]; rw [c4b0]) | skip)
   have H' := Aside0.mk H
   clear H
   go_wp2
   go_meet
   case rel => exact ⟨_, ((⟨#[]⟩ : ByteArray)), (by first | rfl | (simp; done) | (simp [*]; done)), H', ⟨by first | omega | exact Nat.le_refl _⟩, by repeat (first | exact Drawn0.refl _ | apply Drawn0.step)⟩
 case rest =>
  clear HC3
  try clear c2
  try clear p2
  try clear c4
  try clear c4b0
  try clear c5
  try clear c5b0
  try clear c5b1
  try clear c6
  try clear c6b0
  try clear c6b1
  try clear p6
  try clear c7
  try clear c7b0
  obtain ⟨kq, x5_2, rfl, HA, HJ2, ⟨mc2, rfl⟩⟩ := hcut
  cases kq with
  | zero => exact absurd HA.out (by simp [truantref02_sign.j0])
  | succ kj2 =>
   have H := HA.out
   clear HA
   simp only [truantref02_sign.j0] at H
   by_cases c8 : x5_2.toList = ([60, 60] : List UInt8)
   ·rw [if_pos c8] at H
    have c8b0 : (x5_2.toList == ([60, 60] : List UInt8)) = true := beq_iff_eq.mpr c8
    have c8b1 : (x5_2.toList != ([60, 60] : List UInt8)) = false := bne_eq_false_iff_eq.mpr c8
    clear c8
    obtain rfl := Option.some.inj H
    go_wp2
    go_ret
    exact ⟨by first | rfl | (simp; done) | (simp [*]; done), by repeat (first | exact Drawn0.refl _ | apply Drawn0.step)⟩
   ·rw [if_neg c8] at H
    have c8b0 : (x5_2.toList == ([60, 60] : List UInt8)) = false := beq_eq_false_iff_ne.mpr c8
    have c8b1 : (x5_2.toList != ([60, 60] : List UInt8)) = true := bne_iff_ne.mpr c8
    by_cases c9 : x5_2.toList = ([62, 62] : List UInt8)
    ·rw [if_pos c9] at H
     have c9b0 : (x5_2.toList == ([62, 62] : List UInt8)) = true := beq_iff_eq.mpr c9
     have c9b1 : (x5_2.toList != ([62, 62] : List UInt8)) = false := bne_eq_false_iff_eq.mpr c9
     clear c9
     obtain rfl := Option.some.inj H
     go_wp2
     go_ret
     exact ⟨by first | rfl | (simp; done) | (simp [*]; done), by repeat (first | exact Drawn0.refl _ | apply Drawn0.step)⟩
    ·rw [if_neg c9] at H
     have c9b0 : (x5_2.toList == ([62, 62] : List UInt8)) = false := beq_eq_false_iff_ne.mpr c9
     have c9b1 : (x5_2.toList != ([62, 62] : List UInt8)) = true := bne_iff_ne.mpr c9
     by_cases c10 : x5_2.toList = ([61, 61] : List UInt8)
     ·rw [if_pos c10] at H
      have c10b0 : (x5_2.toList == ([61, 61] : List UInt8)) = true := beq_iff_eq.mpr c10
      have c10b1 : (x5_2.toList != ([61, 61] : List UInt8)) = false := bne_eq_false_iff_eq.mpr c10
      clear c10
      obtain rfl := Option.some.inj H
      go_wp2
      go_ret
      exact ⟨by first | rfl | (simp; done) | (simp [*]; done), by repeat (first | exact Drawn0.refl _ | apply Drawn0.step)⟩
     ·rw [if_neg c10] at H
      have c10b0 : (x5_2.toList == ([61, 61] : List UInt8)) = false := beq_eq_false_iff_ne.mpr c10
      have c10b1 : (x5_2.toList != ([61, 61] : List UInt8)) = true := bne_iff_ne.mpr c10
      by_cases c11 : x5_2.toList = ([33, 61] : List UInt8)
      ·rw [if_pos c11] at H
       have c11b0 : (x5_2.toList == ([33, 61] : List UInt8)) = true := beq_iff_eq.mpr c11
       have c11b1 : (x5_2.toList != ([33, 61] : List UInt8)) = false := bne_eq_false_iff_eq.mpr c11
       clear c11
       obtain rfl := Option.some.inj H
       go_wp2
       go_ret
       exact ⟨by first | rfl | (simp; done) | (simp [*]; done), by repeat (first | exact Drawn0.refl _ | apply Drawn0.step)⟩
      ·rw [if_neg c11] at H
       have c11b0 : (x5_2.toList == ([33, 61] : List UInt8)) = false := beq_eq_false_iff_ne.mpr c11
       have c11b1 : (x5_2.toList != ([33, 61] : List UInt8)) = true := bne_iff_ne.mpr c11
       by_cases c12 : x5_2.toList = ([60, 61] : List UInt8)
       ·rw [if_pos c12] at H
        have c12b0 : (x5_2.toList == ([60, 61] : List UInt8)) = true := beq_iff_eq.mpr c12
        have c12b1 : (x5_2.toList != ([60, 61] : List UInt8)) = false := bne_eq_false_iff_eq.mpr c12
        clear c12
        obtain rfl := Option.some.inj H
        go_wp2
        go_ret
        exact ⟨by first | rfl | (simp; done) | (simp [*]; done), by repeat (first | exact Drawn0.refl _ | apply Drawn0.step)⟩
       ·rw [if_neg c12] at H
        have c12b0 : (x5_2.toList == ([60, 61] : List UInt8)) = false := beq_eq_false_iff_ne.mpr c12
        have c12b1 : (x5_2.toList != ([60, 61] : List UInt8)) = true := bne_iff_ne.mpr c12
        by_cases c13 : x5_2.toList = ([62, 61] : List UInt8)
        ·rw [if_pos c13] at H
         have c13b0 : (x5_2.toList == ([62, 61] : List UInt8)) = true := beq_iff_eq.mpr c13
         have c13b1 : (x5_2.toList != ([62, 61] : List UInt8)) = false := bne_eq_false_iff_eq.mpr c13
         clear c13
         obtain rfl := Option.some.inj H
         go_wp2
         go_ret
         exact ⟨by first | rfl | (simp; done) | (simp [*]; done), by repeat (first | exact Drawn0.refl _ | apply Drawn0.step)⟩
        ·rw [if_neg c13] at H
         have c13b0 : (x5_2.toList == ([62, 61] : List UInt8)) = false := beq_eq_false_iff_ne.mpr c13
         have c13b1 : (x5_2.toList != ([62, 61] : List UInt8)) = true := bne_iff_ne.mpr c13
         by_cases c14 : x5_2.toList = ([38, 38] : List UInt8)
         ·rw [if_pos c14] at H
          have c14b0 : (x5_2.toList == ([38, 38] : List UInt8)) = true := beq_iff_eq.mpr c14
          have c14b1 : (x5_2.toList != ([38, 38] : List UInt8)) = false := bne_eq_false_iff_eq.mpr c14
          clear c14
          obtain rfl := Option.some.inj H
          go_wp2
          go_ret
          exact ⟨by first | rfl | (simp; done) | (simp [*]; done), by repeat (first | exact Drawn0.refl _ | apply Drawn0.step)⟩
         ·rw [if_neg c14] at H
          have c14b0 : (x5_2.toList == ([38, 38] : List UInt8)) = false := beq_eq_false_iff_ne.mpr c14
          have c14b1 : (x5_2.toList != ([38, 38] : List UInt8)) = true := bne_iff_ne.mpr c14
          by_cases c15 : x5_2.toList = ([124, 124] : List UInt8)
          ·rw [if_pos c15] at H
           have c15b0 : (x5_2.toList == ([124, 124] : List UInt8)) = true := beq_iff_eq.mpr c15
           have c15b1 : (x5_2.toList != ([124, 124] : List UInt8)) = false := bne_eq_false_iff_eq.mpr c15
           clear c15
           obtain rfl := Option.some.inj H
           go_wp2
           go_ret
           exact ⟨by first | rfl | (simp; done) | (simp [*]; done), by repeat (first | exact Drawn0.refl _ | apply Drawn0.step)⟩
          ·rw [if_neg c15] at H
           have c15b0 : (x5_2.toList == ([124, 124] : List UInt8)) = false := beq_eq_false_iff_ne.mpr c15
           have c15b1 : (x5_2.toList != ([124, 124] : List UInt8)) = true := bne_iff_ne.mpr c15
           by_cases c16 : x5_2.toList = ([58, 61] : List UInt8)
           ·rw [if_pos c16] at H
            have c16b0 : (x5_2.toList == ([58, 61] : List UInt8)) = true := beq_iff_eq.mpr c16
            have c16b1 : (x5_2.toList != ([58, 61] : List UInt8)) = false := bne_eq_false_iff_eq.mpr c16
            clear c16
            obtain rfl := Option.some.inj H
            go_wp2
            go_ret
            exact ⟨by first | rfl | (simp; done) | (simp [*]; done), by repeat (first | exact Drawn0.refl _ | apply Drawn0.step)⟩
           ·rw [if_neg c16] at H
            have c16b0 : (x5_2.toList == ([58, 61] : List UInt8)) = false := beq_eq_false_iff_ne.mpr c16
            have c16b1 : (x5_2.toList != ([58, 61] : List UInt8)) = true := bne_iff_ne.mpr c16
            by_cases c17 : 0 ≤ a1
            ·rw [if_pos c17] at H
             have c17b0 : decide (0 ≤ a1) = true := decide_eq_true c17
             clear c17
             by_cases c18 : a1 < (a0.size : Int)
             ·rw [if_pos c18] at H
              have c18b0 : decide (a1 < (a0.size : Int)) = true := decide_eq_true c18
              clear c18
              by_cases c20 : (bt a0 a1) = 43
              ·rw [if_pos c20] at H
               have c20b0 : ((bt a0 a1) == 43) = true := beq_iff_eq.mpr c20
               have c20b1 : ((bt a0 a1) != 43) = false := bne_eq_false_iff_eq.mpr c20
               clear c20
               obtain rfl := Option.some.inj H
               have p19 : 0 ≤ (a1 : Int) := of_decide_eq_true (by first | (with_reducible assumption) | assumption)
               have q19 : a1 < (a0.size : Int) := of_decide_eq_true (by first | (with_reducible assumption) | assumption)
               have hx19 := bt_at a0 a1
               replace p19 := eq_true p19
               replace q19 := eq_true q19
               go_wp2
               go_ret
               exact ⟨by first | rfl | (simp; done) | (simp [*]; done), by repeat (first | exact Drawn0.refl _ | apply Drawn0.step)⟩
              ·rw [if_neg c20] at H
               have c20b0 : ((bt a0 a1) == 43) = false := beq_eq_false_iff_ne.mpr c20
               have c20b1 : ((bt a0 a1) != 43) = true := bne_iff_ne.mpr c20
               by_cases c21 : (bt a0 a1) = 45
               ·rw [if_pos c21] at H
                have c21b0 : ((bt a0 a1) == 45) = true := beq_iff_eq.mpr c21
                have c21b1 : ((bt a0 a1) != 45) = false := bne_eq_false_iff_eq.mpr c21
                clear c21
                obtain rfl := Option.some.inj H
                have p19 : 0 ≤ (a1 : Int) := of_decide_eq_true (by first | (with_reducible assumption) | assumption)
                have q19 : a1 < (a0.size : Int) := of_decide_eq_true (by first | (with_reducible assumption) | assumption)
                have hx19 := bt_at a0 a1
                replace p19 := eq_true p19
                replace q19 := eq_true q19
                go_wp2
                go_ret
                exact ⟨by first | rfl | (simp; done) | (simp [*]; done), by repeat (first | exact Drawn0.refl _ | apply Drawn0.step)⟩
               ·rw [if_neg c21] at H
                have c21b0 : ((bt a0 a1) == 45) = false := beq_eq_false_iff_ne.mpr c21
                have c21b1 : ((bt a0 a1) != 45) = true := bne_iff_ne.mpr c21
                by_cases c22 : (bt a0 a1) = 42
                ·rw [if_pos c22] at H
                 have c22b0 : ((bt a0 a1) == 42) = true := beq_iff_eq.mpr c22
                 have c22b1 : ((bt a0 a1) != 42) = false := bne_eq_false_iff_eq.mpr c22
                 clear c22
                 obtain rfl := Option.some.inj H
                 have p19 : 0 ≤ (a1 : Int) := of_decide_eq_true (by first | (with_reducible assumption) | assumption)
                 have q19 : a1 < (a0.size : Int) := of_decide_eq_true (by first | (with_reducible assumption) | assumption)
                 have hx19 := bt_at a0 a1
                 replace p19 := eq_true p19
                 replace q19 := eq_true q19
                 go_wp2
                 go_ret
                 exact ⟨by first | rfl | (simp; done) | (simp [*]; done), by repeat (first | exact Drawn0.refl _ | apply Drawn0.step)⟩
                ·rw [if_neg c22] at H
                 have c22b0 : ((bt a0 a1) == 42) = false := beq_eq_false_iff_ne.mpr c22
                 have c22b1 : ((bt a0 a1) != 42) = true := bne_iff_ne.mpr c22
                 by_cases c23 : (bt a0 a1) = 47
                 ·rw [if_pos c23] at H
                  have c23b0 : ((bt a0 a1) == 47) = true := beq_iff_eq.mpr c23
                  have c23b1 : ((bt a0 a1) != 47) = false := bne_eq_false_iff_eq.mpr c23
                  clear c23
                  obtain rfl := Option.some.inj H
                  have p19 : 0 ≤ (a1 : Int) := of_decide_eq_true (by first | (with_reducible assumption) | assumption)
                  have q19 : a1 < (a0.size : Int) := of_decide_eq_true (by first | (with_reducible assumption) | assumption)
                  have hx19 := bt_at a0 a1
                  replace p19 := eq_true p19
                  replace q19 := eq_true q19
                  go_wp2
                  go_ret
                  exact ⟨by first | rfl | (simp; done) | (simp [*]; done), by repeat (first | exact Drawn0.refl _ | apply Drawn0.step)⟩
                 ·rw [if_neg c23] at H
                  have c23b0 : ((bt a0 a1) == 47) = false := beq_eq_false_iff_ne.mpr c23
                  have c23b1 : ((bt a0 a1) != 47) = true := bne_iff_ne.mpr c23
                  by_cases c24 : (bt a0 a1) = 37
                  ·rw [if_pos c24] at H
                   have c24b0 : ((bt a0 a1) == 37) = true := beq_iff_eq.mpr c24
                   have c24b1 : ((bt a0 a1) != 37) = false := bne_eq_false_iff_eq.mpr c24
                   clear c24
                   obtain rfl := Option.some.inj H
                   have p19 : 0 ≤ (a1 : Int) := of_decide_eq_true (by first | (with_reducible assumption) | assumption)
                   have q19 : a1 < (a0.size : Int) := of_decide_eq_true (by first | (with_reducible assumption) | assumption)
                   have hx19 := bt_at a0 a1
                   replace p19 := eq_true p19
                   replace q19 := eq_true q19
                   go_wp2
                   go_ret
                   exact ⟨by first | rfl | (simp; done) | (simp [*]; done), by repeat (first | exact Drawn0.refl _ | apply Drawn0.step)⟩
                  ·rw [if_neg c24] at H
                   have c24b0 : ((bt a0 a1) == 37) = false := beq_eq_false_iff_ne.mpr c24
                   have c24b1 : ((bt a0 a1) != 37) = true := bne_iff_ne.mpr c24
                   by_cases c25 : (bt a0 a1) = 38
                   ·rw [if_pos c25] at H
                    have c25b0 : ((bt a0 a1) == 38) = true := beq_iff_eq.mpr c25
                    have c25b1 : ((bt a0 a1) != 38) = false := bne_eq_false_iff_eq.mpr c25
                    clear c25
                    obtain rfl := Option.some.inj H
                    have p19 : 0 ≤ (a1 : Int) := of_decide_eq_true (by first | (with_reducible assumption) | assumption)
                    have q19 : a1 < (a0.size : Int) := of_decide_eq_true (by first | (with_reducible assumption) | assumption)
                    have hx19 := bt_at a0 a1
                    replace p19 := eq_true p19
                    replace q19 := eq_true q19
                    go_wp2
                    go_ret
                    exact ⟨by first | rfl | (simp; done) | (simp [*]; done), by repeat (first | exact Drawn0.refl _ | apply Drawn0.step)⟩
                   ·rw [if_neg c25] at H
                    have c25b0 : ((bt a0 a1) == 38) = false := beq_eq_false_iff_ne.mpr c25
                    have c25b1 : ((bt a0 a1) != 38) = true := bne_iff_ne.mpr c25
                    by_cases c26 : (bt a0 a1) = 124
                    ·rw [if_pos c26] at H
                     have c26b0 : ((bt a0 a1) == 124) = true := beq_iff_eq.mpr c26
                     have c26b1 : ((bt a0 a1) != 124) = false := bne_eq_false_iff_eq.mpr c26
                     clear c26
                     obtain rfl := Option.some.inj H
                     have p19 : 0 ≤ (a1 : Int) := of_decide_eq_true (by first | (with_reducible assumption) | assumption)
                     have q19 : a1 < (a0.size : Int) := of_decide_eq_true (by first | (with_reducible assumption) | assumption)
                     have hx19 := bt_at a0 a1
                     replace p19 := eq_true p19
                     replace q19 := eq_true q19
                     go_wp2
                     go_ret
                     exact ⟨by first | rfl | (simp; done) | (simp [*]; done), by repeat (first | exact Drawn0.refl _ | apply Drawn0.step)⟩
                    ·rw [if_neg c26] at H
                     have c26b0 : ((bt a0 a1) == 124) = false := beq_eq_false_iff_ne.mpr c26
                     have c26b1 : ((bt a0 a1) != 124) = true := bne_iff_ne.mpr c26
                     by_cases c27 : (bt a0 a1) = 94
                     ·rw [if_pos c27] at H
                      have c27b0 : ((bt a0 a1) == 94) = true := beq_iff_eq.mpr c27
                      have c27b1 : ((bt a0 a1) != 94) = false := bne_eq_false_iff_eq.mpr c27
                      clear c27
                      obtain rfl := Option.some.inj H
                      have p19 : 0 ≤ (a1 : Int) := of_decide_eq_true (by first | (with_reducible assumption) | assumption)
                      have q19 : a1 < (a0.size : Int) := of_decide_eq_true (by first | (with_reducible assumption) | assumption)
                      have hx19 := bt_at a0 a1
                      replace p19 := eq_true p19
                      replace q19 := eq_true q19
                      go_wp2
                      go_ret
                      exact ⟨by first | rfl | (simp; done) | (simp [*]; done), by repeat (first | exact Drawn0.refl _ | apply Drawn0.step)⟩
                     ·rw [if_neg c27] at H
                      have c27b0 : ((bt a0 a1) == 94) = false := beq_eq_false_iff_ne.mpr c27
                      have c27b1 : ((bt a0 a1) != 94) = true := bne_iff_ne.mpr c27
                      by_cases c28 : (bt a0 a1) = 60
                      ·rw [if_pos c28] at H
                       have c28b0 : ((bt a0 a1) == 60) = true := beq_iff_eq.mpr c28
                       have c28b1 : ((bt a0 a1) != 60) = false := bne_eq_false_iff_eq.mpr c28
                       clear c28
                       obtain rfl := Option.some.inj H
                       have p19 : 0 ≤ (a1 : Int) := of_decide_eq_true (by first | (with_reducible assumption) | assumption)
                       have q19 : a1 < (a0.size : Int) := of_decide_eq_true (by first | (with_reducible assumption) | assumption)
                       have hx19 := bt_at a0 a1
                       replace p19 := eq_true p19
                       replace q19 := eq_true q19
                       go_wp2
                       go_ret
                       exact ⟨by first | rfl | (simp; done) | (simp [*]; done), by repeat (first | exact Drawn0.refl _ | apply Drawn0.step)⟩
                      ·rw [if_neg c28] at H
                       have c28b0 : ((bt a0 a1) == 60) = false := beq_eq_false_iff_ne.mpr c28
                       have c28b1 : ((bt a0 a1) != 60) = true := bne_iff_ne.mpr c28
                       by_cases c29 : (bt a0 a1) = 62
                       ·rw [if_pos c29] at H
                        have c29b0 : ((bt a0 a1) == 62) = true := beq_iff_eq.mpr c29
                        have c29b1 : ((bt a0 a1) != 62) = false := bne_eq_false_iff_eq.mpr c29
                        clear c29
                        obtain rfl := Option.some.inj H
                        have p19 : 0 ≤ (a1 : Int) := of_decide_eq_true (by first | (with_reducible assumption) | assumption)
                        have q19 : a1 < (a0.size : Int) := of_decide_eq_true (by first | (with_reducible assumption) | assumption)
                        have hx19 := bt_at a0 a1
                        replace p19 := eq_true p19
                        replace q19 := eq_true q19
                        go_wp2
                        go_ret
                        exact ⟨by first | rfl | (simp; done) | (simp [*]; done), by repeat (first | exact Drawn0.refl _ | apply Drawn0.step)⟩
                       ·rw [if_neg c29] at H
                        have c29b0 : ((bt a0 a1) == 62) = false := beq_eq_false_iff_ne.mpr c29
                        have c29b1 : ((bt a0 a1) != 62) = true := bne_iff_ne.mpr c29
                        by_cases c30 : (bt a0 a1) = 33
                        ·rw [if_pos c30] at H
                         have c30b0 : ((bt a0 a1) == 33) = true := beq_iff_eq.mpr c30
                         have c30b1 : ((bt a0 a1) != 33) = false := bne_eq_false_iff_eq.mpr c30
                         clear c30
                         obtain rfl := Option.some.inj H
                         have p19 : 0 ≤ (a1 : Int) := of_decide_eq_true (by first | (with_reducible assumption) | assumption)
                         have q19 : a1 < (a0.size : Int) := of_decide_eq_true (by first | (with_reducible assumption) | assumption)
                         have hx19 := bt_at a0 a1
                         replace p19 := eq_true p19
                         replace q19 := eq_true q19
                         go_wp2
                         go_ret
                         exact ⟨by first | rfl | (simp; done) | (simp [*]; done), by repeat (first | exact Drawn0.refl _ | apply Drawn0.step)⟩
                        ·rw [if_neg c30] at H
                         have c30b0 : ((bt a0 a1) == 33) = false := beq_eq_false_iff_ne.mpr c30
                         have c30b1 : ((bt a0 a1) != 33) = true := bne_iff_ne.mpr c30
                         by_cases c31 : (bt a0 a1) = 61
                         ·rw [if_pos c31] at H
                          have c31b0 : ((bt a0 a1) == 61) = true := beq_iff_eq.mpr c31
                          have c31b1 : ((bt a0 a1) != 61) = false := bne_eq_false_iff_eq.mpr c31
                          clear c31
                          obtain rfl := Option.some.inj H
                          have p19 : 0 ≤ (a1 : Int) := of_decide_eq_true (by first | (with_reducible assumption) | assumption)
                          have q19 : a1 < (a0.size : Int) := of_decide_eq_true (by first | (with_reducible assumption) | assumption)
                          have hx19 := bt_at a0 a1
                          replace p19 := eq_true p19
                          replace q19 := eq_true q19
                          go_wp2
                          go_ret
                          exact ⟨by first | rfl | (simp; done) | (simp [*]; done), by repeat (first | exact Drawn0.refl _ | apply Drawn0.step)⟩
                         ·rw [if_neg c31] at H
                          have c31b0 : ((bt a0 a1) == 61) = false := beq_eq_false_iff_ne.mpr c31
                          have c31b1 : ((bt a0 a1) != 61) = true := bne_iff_ne.mpr c31
                          by_cases c32 : (bt a0 a1) = 46
                          ·rw [if_pos c32] at H
                           have c32b0 : ((bt a0 a1) == 46) = true := beq_iff_eq.mpr c32
                           have c32b1 : ((bt a0 a1) != 46) = false := bne_eq_false_iff_eq.mpr c32
                           clear c32
                           obtain rfl := Option.some.inj H
                           have p19 : 0 ≤ (a1 : Int) := of_decide_eq_true (by first | (with_reducible assumption) | assumption)
                           have q19 : a1 < (a0.size : Int) := of_decide_eq_true (by first | (with_reducible assumption) | assumption)
                           have hx19 := bt_at a0 a1
                           replace p19 := eq_true p19
                           replace q19 := eq_true q19
                           go_wp2
                           go_ret
                           exact ⟨by first | rfl | (simp; done) | (simp [*]; done), by repeat (first | exact Drawn0.refl _ | apply Drawn0.step)⟩
                          ·rw [if_neg c32] at H
                           have c32b0 : ((bt a0 a1) == 46) = false := beq_eq_false_iff_ne.mpr c32
                           have c32b1 : ((bt a0 a1) != 46) = true := bne_iff_ne.mpr c32
                           by_cases c33 : (bt a0 a1) = 44
                           ·rw [if_pos c33] at H
                            have c33b0 : ((bt a0 a1) == 44) = true := beq_iff_eq.mpr c33
                            have c33b1 : ((bt a0 a1) != 44) = false := bne_eq_false_iff_eq.mpr c33
                            clear c33
                            obtain rfl := Option.some.inj H
                            have p19 : 0 ≤ (a1 : Int) := of_decide_eq_true (by first | (with_reducible assumption) | assumption)
                            have q19 : a1 < (a0.size : Int) := of_decide_eq_true (by first | (with_reducible assumption) | assumption)
                            have hx19 := bt_at a0 a1
                            replace p19 := eq_true p19
                            replace q19 := eq_true q19
                            go_wp2
                            go_ret
                            exact ⟨by first | rfl | (simp; done) | (simp [*]; done), by repeat (first | exact Drawn0.refl _ | apply Drawn0.step)⟩
                           ·rw [if_neg c33] at H
                            have c33b0 : ((bt a0 a1) == 44) = false := beq_eq_false_iff_ne.mpr c33
                            have c33b1 : ((bt a0 a1) != 44) = true := bne_iff_ne.mpr c33
                            by_cases c34 : (bt a0 a1) = 59
                            ·rw [if_pos c34] at H
                             have c34b0 : ((bt a0 a1) == 59) = true := beq_iff_eq.mpr c34
                             have c34b1 : ((bt a0 a1) != 59) = false := bne_eq_false_iff_eq.mpr c34
                             clear c34
                             obtain rfl := Option.some.inj H
                             have p19 : 0 ≤ (a1 : Int) := of_decide_eq_true (by first | (with_reducible assumption) | assumption)
                             have q19 : a1 < (a0.size : Int) := of_decide_eq_true (by first | (with_reducible assumption) | assumption)
                             have hx19 := bt_at a0 a1
                             replace p19 := eq_true p19
                             replace q19 := eq_true q19
                             go_wp2
                             go_ret
                             exact ⟨by first | rfl | (simp; done) | (simp [*]; done), by repeat (first | exact Drawn0.refl _ | apply Drawn0.step)⟩
                            ·rw [if_neg c34] at H
                             have c34b0 : ((bt a0 a1) == 59) = false := beq_eq_false_iff_ne.mpr c34
                             have c34b1 : ((bt a0 a1) != 59) = true := bne_iff_ne.mpr c34
                             by_cases c35 : (bt a0 a1) = 40
                             ·rw [if_pos c35] at H
                              have c35b0 : ((bt a0 a1) == 40) = true := beq_iff_eq.mpr c35
                              have c35b1 : ((bt a0 a1) != 40) = false := bne_eq_false_iff_eq.mpr c35
                              clear c35
                              obtain rfl := Option.some.inj H
                              have p19 : 0 ≤ (a1 : Int) := of_decide_eq_true (by first | (with_reducible assumption) | assumption)
                              have q19 : a1 < (a0.size : Int) := of_decide_eq_true (by first | (with_reducible assumption) | assumption)
                              have hx19 := bt_at a0 a1
                              replace p19 := eq_true p19
                              replace q19 := eq_true q19
                              go_wp2
                              go_ret
                              exact ⟨by first | rfl | (simp; done) | (simp [*]; done), by repeat (first | exact Drawn0.refl _ | apply Drawn0.step)⟩
                             ·rw [if_neg c35] at H
                              have c35b0 : ((bt a0 a1) == 40) = false := beq_eq_false_iff_ne.mpr c35
                              have c35b1 : ((bt a0 a1) != 40) = true := bne_iff_ne.mpr c35
                              by_cases c36 : (bt a0 a1) = 41
                              ·rw [if_pos c36] at H
                               have c36b0 : ((bt a0 a1) == 41) = true := beq_iff_eq.mpr c36
                               have c36b1 : ((bt a0 a1) != 41) = false := bne_eq_false_iff_eq.mpr c36
                               clear c36
                               obtain rfl := Option.some.inj H
                               have p19 : 0 ≤ (a1 : Int) := of_decide_eq_true (by first | (with_reducible assumption) | assumption)
                               have q19 : a1 < (a0.size : Int) := of_decide_eq_true (by first | (with_reducible assumption) | assumption)
                               have hx19 := bt_at a0 a1
                               replace p19 := eq_true p19
                               replace q19 := eq_true q19
                               go_wp2
                               go_ret
                               exact ⟨by first | rfl | (simp; done) | (simp [*]; done), by repeat (first | exact Drawn0.refl _ | apply Drawn0.step)⟩
                              ·rw [if_neg c36] at H
                               have c36b0 : ((bt a0 a1) == 41) = false := beq_eq_false_iff_ne.mpr c36
                               have c36b1 : ((bt a0 a1) != 41) = true := bne_iff_ne.mpr c36
                               by_cases c37 : (bt a0 a1) = 123
                               ·rw [if_pos c37] at H
                                have c37b0 : ((bt a0 a1) == 123) = true := beq_iff_eq.mpr c37
                                have c37b1 : ((bt a0 a1) != 123) = false := bne_eq_false_iff_eq.mpr c37
                                clear c37
                                obtain rfl := Option.some.inj H
                                have p19 : 0 ≤ (a1 : Int) := of_decide_eq_true (by first | (with_reducible assumption) | assumption)
                                have q19 : a1 < (a0.size : Int) := of_decide_eq_true (by first | (with_reducible assumption) | assumption)
                                have hx19 := bt_at a0 a1
                                replace p19 := eq_true p19
                                replace q19 := eq_true q19
                                go_wp2
                                go_ret
                                exact ⟨by first | rfl | (simp; done) | (simp [*]; done), by repeat (first | exact Drawn0.refl _ | apply Drawn0.step)⟩
                               ·rw [if_neg c37] at H
                                have c37b0 : ((bt a0 a1) == 123) = false := beq_eq_false_iff_ne.mpr c37
                                have c37b1 : ((bt a0 a1) != 123) = true := bne_iff_ne.mpr c37
                                by_cases c38 : (bt a0 a1) = 125
                                ·rw [if_pos c38] at H
                                 have c38b0 : ((bt a0 a1) == 125) = true := beq_iff_eq.mpr c38
                                 have c38b1 : ((bt a0 a1) != 125) = false := bne_eq_false_iff_eq.mpr c38
                                 clear c38
                                 obtain rfl := Option.some.inj H
                                 have p19 : 0 ≤ (a1 : Int) := of_decide_eq_true (by first | (with_reducible assumption) | assumption)
                                 have q19 : a1 < (a0.size : Int) := of_decide_eq_true (by first | (with_reducible assumption) | assumption)
                                 have hx19 := bt_at a0 a1
                                 replace p19 := eq_true p19
                                 replace q19 := eq_true q19
                                 go_wp2
                                 go_ret
                                 exact ⟨by first | rfl | (simp; done) | (simp [*]; done), by repeat (first | exact Drawn0.refl _ | apply Drawn0.step)⟩
                                ·rw [if_neg c38] at H
                                 have c38b0 : ((bt a0 a1) == 125) = false := beq_eq_false_iff_ne.mpr c38
                                 have c38b1 : ((bt a0 a1) != 125) = true := bne_iff_ne.mpr c38
                                 obtain rfl := Option.some.inj H
                                 have p19 : 0 ≤ (a1 : Int) := of_decide_eq_true (by first | (with_reducible assumption) | assumption)
                                 have q19 : a1 < (a0.size : Int) := of_decide_eq_true (by first | (with_reducible assumption) | assumption)
                                 have hx19 := bt_at a0 a1
                                 replace p19 := eq_true p19
                                 replace q19 := eq_true q19
                                 go_wp2
                                 go_ret
                                 exact ⟨by first | rfl | (simp; done) | (simp [*]; done), by repeat (first | exact Drawn0.refl _ | apply Drawn0.step)⟩
             ·rw [if_neg c18] at H
              exact absurd H (by simp)
            ·rw [if_neg c17] at H
             exact absurd H (by simp)

end Go.Proofs.YtcmppjonpmgncaaGreatDoor.Q

namespace Go.Proofs.YtcmppjonpmgncaaGreatDoor.Q
open Go.RowKit Go.Proofs.YtcmppjonpmgncaaGreatDoorW.PrintWords Go.Proofs.YtcmppjonpmgncaaGreatDoorW.PrintLast Go.Proofs.YtcmppjonpmgncaaGreatDoorW.PrintMore
attribute [local go_sem] max2_int min2_int max_two min_two max_three min_three max_four min_four   -- for this text's walks alone
set_option linter.unusedVariables false
set_option linter.unusedSimpArgs false

/-! ### truantref02_Scan: function 9 -/
mutual
def truantref02_Scan.l0 : Nat → ByteArray → List (S33) → Int → Option ((List (S33)) × Int × Int)
 | 0, _, _, _ => none
 | k + 1, x0, x5, x6 => if x6 < (x0.size : Int) then (if 0 ≤ x6 then (if (bt x0 x6) = 32 then (truantref02_Scan.j1 k x0 x5 x6 (bt x0 x6) true) else (if (bt x0 x6) = 9 then (truantref02_Scan.j1 k x0 x5 x6 (bt x0 x6) true) else (if (bt x0 x6) = 10 then (truantref02_Scan.j1 k x0 x5 x6 (bt x0 x6) true) else (truantref02_Scan.j1 k x0 x5 x6 (bt x0 x6) ((bt x0 x6) == 13))))) else (none)) else (some (x5, 0, 0))
def truantref02_Scan.j1 : Nat → ByteArray → List (S33) → Int → Int → Bool → Option ((List (S33)) × Int × Int)
 | 0, _, _, _, _, _ => none
 | k + 1, x0, x5, x6, x7, x36 => if x36 = true then (truantref02_Scan.l0 k x0 x5 (wrap64 (x6 + 1))) else (if x7 = 47 then (if (wrap64 (x6 + 1)) < (x0.size : Int) then (if 0 ≤ (wrap64 (x6 + 1)) then (truantref02_Scan.j2 k x0 x5 x6 x7 ((bt x0 (wrap64 (x6 + 1))) == 47)) else (none)) else (truantref02_Scan.j2 k x0 x5 x6 x7 false)) else (truantref02_Scan.j2 k x0 x5 x6 x7 false))
def truantref02_Scan.j2 : Nat → ByteArray → List (S33) → Int → Int → Bool → Option ((List (S33)) × Int × Int)
 | 0, _, _, _, _, _ => none
 | k + 1, x0, x5, x6, x7, x54 => if x54 = true then (truantref02_Scan.l1 k x0 x5 x6) else ((truantref02_letter.f x7).bind fun t239 => (if t239 = true then (truantref02_Scan.l2 k x0 x5 x6 x6) else ((truantref02_digit.f x7).bind fun t249 => (if t249 = true then (truantref02_Scan.l3 k x0 x5 x6 x6) else ((truantref02_sign.f k x0 x6).bind fun t257 => (if (wrap64 (x6 + t257)) = x6 then (some (([] : List (S33)), x6, 1)) else (if 0 ≤ x6 then (if x6 ≤ (wrap64 (x6 + t257)) then (if (wrap64 (x6 + t257)) ≤ (x0.size : Int) then (if x5.length < 4398046511104 then (truantref02_Scan.l0 k x0 (x5 ++ [(⟨4, x0.extract (x6 : Int).toNat ((wrap64 (x6 + t257)) : Int).toNat, x6⟩ : S33)]) (wrap64 (x6 + t257))) else (none)) else (none)) else (none)) else (none))))))))
def truantref02_Scan.l1 : Nat → ByteArray → List (S33) → Int → Option ((List (S33)) × Int × Int)
 | 0, _, _, _ => none
 | k + 1, x0, x5, x6 => if x6 < (x0.size : Int) then (if 0 ≤ x6 then (if (bt x0 x6) = 10 then (truantref02_Scan.l0 k x0 x5 x6) else (truantref02_Scan.l1 k x0 x5 (wrap64 (x6 + 1)))) else (none)) else (truantref02_Scan.l0 k x0 x5 x6)
def truantref02_Scan.j5 : Nat → ByteArray → List (S33) → Int → Int → Option ((List (S33)) × Int × Int)
 | 0, _, _, _, _ => none
 | k + 1, x0, x5, x6, x8 => if 0 ≤ x6 then (if x6 ≤ x8 then (if x8 ≤ (x0.size : Int) then ((truantref02_Key.f (x0.extract (x6 : Int).toNat (x8 : Int).toNat)).bind fun t242 => (if t242 = true then (if (wrap64 (x8 - x6)) > 12 then (some (([] : List (S33)), x6, 4)) else (if x5.length < 4398046511104 then (truantref02_Scan.l0 k x0 (x5 ++ [(⟨2, x0.extract (x6 : Int).toNat (x8 : Int).toNat, x6⟩ : S33)]) x8) else (none))) else (if (wrap64 (x8 - x6)) > 12 then (some (([] : List (S33)), x6, 4)) else (if x5.length < 4398046511104 then (truantref02_Scan.l0 k x0 (x5 ++ [(⟨1, x0.extract (x6 : Int).toNat (x8 : Int).toNat, x6⟩ : S33)]) x8) else (none))))) else (none)) else (none)) else (none)
def truantref02_Scan.l2 : Nat → ByteArray → List (S33) → Int → Int → Option ((List (S33)) × Int × Int)
 | 0, _, _, _, _ => none
 | k + 1, x0, x5, x6, x8 => if x8 < (x0.size : Int) then (if 0 ≤ x8 then ((truantref02_letter.f (bt x0 x8)).bind fun t240 => (if t240 = true then (truantref02_Scan.l2 k x0 x5 x6 (wrap64 (x8 + 1))) else ((truantref02_digit.f (bt x0 x8)).bind fun t241 => (if t241 = true then (truantref02_Scan.l2 k x0 x5 x6 (wrap64 (x8 + 1))) else (truantref02_Scan.j5 k x0 x5 x6 x8))))) else (none)) else (truantref02_Scan.j5 k x0 x5 x6 x8)
def truantref02_Scan.j7 : Nat → ByteArray → List (S33) → Int → Int → Option ((List (S33)) × Int × Int)
 | 0, _, _, _, _ => none
 | k + 1, x0, x5, x6, x8 => if x8 < (x0.size : Int) then (if 0 ≤ x8 then ((truantref02_letter.f (bt x0 x8)).bind fun t251 => (truantref02_Scan.j8 k x0 x5 x6 x8 3 t251)) else (none)) else (truantref02_Scan.j8 k x0 x5 x6 x8 3 false)
def truantref02_Scan.j8 : Nat → ByteArray → List (S33) → Int → Int → Int → Bool → Option ((List (S33)) × Int × Int)
 | 0, _, _, _, _, _, _ => none
 | k + 1, x0, x5, x6, x8, x9, x121 => if x121 = true then (some (([] : List (S33)), x6, 1)) else (if 0 ≤ x6 then (if x6 ≤ x8 then (if x8 ≤ (x0.size : Int) then ((truantref01_Parse.f k (x0.extract (x6 : Int).toNat (x8 : Int).toNat)).bind fun bt252 => (if bt252.2 = 0 then (if x5.length < 4398046511104 then (truantref02_Scan.l0 k x0 (x5 ++ [(⟨x9, x0.extract (x6 : Int).toNat (x8 : Int).toNat, x6⟩ : S33)]) x8) else (none)) else (some (([] : List (S33)), x6, bt252.2)))) else (none)) else (none)) else (none))
def truantref02_Scan.l3 : Nat → ByteArray → List (S33) → Int → Int → Option ((List (S33)) × Int × Int)
 | 0, _, _, _, _ => none
 | k + 1, x0, x5, x6, x8 => if x8 < (x0.size : Int) then (if 0 ≤ x8 then ((truantref02_digit.f (bt x0 x8)).bind fun t250 => (if t250 = true then (truantref02_Scan.l3 k x0 x5 x6 (wrap64 (x8 + 1))) else (truantref02_Scan.j7 k x0 x5 x6 x8))) else (none)) else (truantref02_Scan.j7 k x0 x5 x6 x8)
end
def truantref02_Scan.f (k : Nat) (a0 : ByteArray) : Option ((List (S33)) × Int × Int) := if (a0.size : Int) > 4096 then (some (([] : List (S33)), 4096, 4)) else (truantref02_Scan.l0 k a0 (([] : List (S33))) 0)
theorem truantref02_Scan.mono_l : ∀ k, (∀ y0 y1 y2, LeO (truantref02_Scan.l0 k y0 y1 y2) (truantref02_Scan.l0 (k + 1) y0 y1 y2)) ∧ (∀ y0 y1 y2 y3 y4, LeO (truantref02_Scan.j1 k y0 y1 y2 y3 y4) (truantref02_Scan.j1 (k + 1) y0 y1 y2 y3 y4)) ∧ (∀ y0 y1 y2 y3 y4, LeO (truantref02_Scan.j2 k y0 y1 y2 y3 y4) (truantref02_Scan.j2 (k + 1) y0 y1 y2 y3 y4)) ∧ (∀ y0 y1 y2, LeO (truantref02_Scan.l1 k y0 y1 y2) (truantref02_Scan.l1 (k + 1) y0 y1 y2)) ∧ (∀ y0 y1 y2 y3, LeO (truantref02_Scan.j5 k y0 y1 y2 y3) (truantref02_Scan.j5 (k + 1) y0 y1 y2 y3)) ∧ (∀ y0 y1 y2 y3, LeO (truantref02_Scan.l2 k y0 y1 y2 y3) (truantref02_Scan.l2 (k + 1) y0 y1 y2 y3)) ∧ (∀ y0 y1 y2 y3, LeO (truantref02_Scan.j7 k y0 y1 y2 y3) (truantref02_Scan.j7 (k + 1) y0 y1 y2 y3)) ∧ (∀ y0 y1 y2 y3 y4 y5, LeO (truantref02_Scan.j8 k y0 y1 y2 y3 y4 y5) (truantref02_Scan.j8 (k + 1) y0 y1 y2 y3 y4 y5)) ∧ (∀ y0 y1 y2 y3, LeO (truantref02_Scan.l3 k y0 y1 y2 y3) (truantref02_Scan.l3 (k + 1) y0 y1 y2 y3))
 | 0 => ⟨fun _ _ _ r h => by simp [truantref02_Scan.l0] at h, fun _ _ _ _ _ r h => by simp [truantref02_Scan.j1] at h, fun _ _ _ _ _ r h => by simp [truantref02_Scan.j2] at h, fun _ _ _ r h => by simp [truantref02_Scan.l1] at h, fun _ _ _ _ r h => by simp [truantref02_Scan.j5] at h, fun _ _ _ _ r h => by simp [truantref02_Scan.l2] at h, fun _ _ _ _ r h => by simp [truantref02_Scan.j7] at h, fun _ _ _ _ _ _ r h => by simp [truantref02_Scan.j8] at h, fun _ _ _ _ r h => by simp [truantref02_Scan.l3] at h⟩
 | k + 1 => by
  obtain ⟨ih0, ih1, ih2, ih3, ih4, ih5, ih6, ih7, ih8⟩ := truantref02_Scan.mono_l k
  refine ⟨?_, ?_, ?_, ?_, ?_, ?_, ?_, ?_, ?_⟩
  ·intro y0 y1 y2
   unfold truantref02_Scan.l0
   repeat' first
   | (with_reducible exact ih0 _ _ _)
   | (with_reducible exact ih1 _ _ _ _ _)
   | (with_reducible exact ih2 _ _ _ _ _)
   | (with_reducible exact ih3 _ _ _)
   | (with_reducible exact ih4 _ _ _ _)
   | (with_reducible exact ih5 _ _ _ _)
   | (with_reducible exact ih6 _ _ _ _)
   | (with_reducible exact ih7 _ _ _ _ _ _)
   | (with_reducible exact ih8 _ _ _ _)
   | (with_reducible exact truantref01_Parse.mono _ _)
   | (with_reducible exact truantref02_sign.mono _ _ _)
   | (with_reducible exact LeO.refl _)
   | (with_reducible exact LeO.none _)
   | (with_reducible refine LeO.ite ?_ ?_)
   | (with_reducible refine LeO.bind ?_ (fun _ => ?_))
   | exact ih0 _ _ _
   | exact ih1 _ _ _ _ _
   | exact ih2 _ _ _ _ _
   | exact ih3 _ _ _
   | exact ih4 _ _ _ _
   | exact ih5 _ _ _ _
   | exact ih6 _ _ _ _
   | exact ih7 _ _ _ _ _ _
   | exact ih8 _ _ _ _
   | exact truantref01_Parse.mono _ _
   | exact truantref02_sign.mono _ _ _
   | exact LeO.none _
   | refine LeO.ite ?_ ?_
   | refine LeO.bind ?_ (fun _ => ?_)
  ·intro y0 y1 y2 y3 y4
   unfold truantref02_Scan.j1
   repeat' first
   | (with_reducible exact ih0 _ _ _)
   | (with_reducible exact ih1 _ _ _ _ _)
   | (with_reducible exact ih2 _ _ _ _ _)
   | (with_reducible exact ih3 _ _ _)
   | (with_reducible exact ih4 _ _ _ _)
   | (with_reducible exact ih5 _ _ _ _)
   | (with_reducible exact ih6 _ _ _ _)
   | (with_reducible exact ih7 _ _ _ _ _ _)
   | (with_reducible exact ih8 _ _ _ _)
   | (with_reducible exact truantref01_Parse.mono _ _)
   | (with_reducible exact truantref02_sign.mono _ _ _)
   | (with_reducible exact LeO.refl _)
   | (with_reducible exact LeO.none _)
   | (with_reducible refine LeO.ite ?_ ?_)
   | (with_reducible refine LeO.bind ?_ (fun _ => ?_))
   | exact ih0 _ _ _
   | exact ih1 _ _ _ _ _
   | exact ih2 _ _ _ _ _
   | exact ih3 _ _ _
   | exact ih4 _ _ _ _
   | exact ih5 _ _ _ _
   | exact ih6 _ _ _ _
   | exact ih7 _ _ _ _ _ _
   | exact ih8 _ _ _ _
   | exact truantref01_Parse.mono _ _
   | exact truantref02_sign.mono _ _ _
   | exact LeO.none _
   | refine LeO.ite ?_ ?_
   | refine LeO.bind ?_ (fun _ => ?_)
  ·intro y0 y1 y2 y3 y4
   unfold truantref02_Scan.j2
   repeat' first
   | (with_reducible exact ih0 _ _ _)
   | (with_reducible exact ih1 _ _ _ _ _)
   | (with_reducible exact ih2 _ _ _ _ _)
   | (with_reducible exact ih3 _ _ _)
   | (with_reducible exact ih4 _ _ _ _)
   | (with_reducible exact ih5 _ _ _ _)
   | (with_reducible exact ih6 _ _ _ _)
   | (with_reducible exact ih7 _ _ _ _ _ _)
   | (with_reducible exact ih8 _ _ _ _)
   | (with_reducible exact truantref01_Parse.mono _ _)
   | (with_reducible exact truantref02_sign.mono _ _ _)
   | (with_reducible exact LeO.refl _)
   | (with_reducible exact LeO.none _)
   | (with_reducible refine LeO.ite ?_ ?_)
   | (with_reducible refine LeO.bind ?_ (fun _ => ?_))
   | exact ih0 _ _ _
   | exact ih1 _ _ _ _ _
   | exact ih2 _ _ _ _ _
   | exact ih3 _ _ _
   | exact ih4 _ _ _ _
   | exact ih5 _ _ _ _
   | exact ih6 _ _ _ _
   | exact ih7 _ _ _ _ _ _
   | exact ih8 _ _ _ _
   | exact truantref01_Parse.mono _ _
   | exact truantref02_sign.mono _ _ _
   | exact LeO.none _
   | refine LeO.ite ?_ ?_
   | refine LeO.bind ?_ (fun _ => ?_)
  ·intro y0 y1 y2
   unfold truantref02_Scan.l1
   repeat' first
   | (with_reducible exact ih0 _ _ _)
   | (with_reducible exact ih1 _ _ _ _ _)
   | (with_reducible exact ih2 _ _ _ _ _)
   | (with_reducible exact ih3 _ _ _)
   | (with_reducible exact ih4 _ _ _ _)
   | (with_reducible exact ih5 _ _ _ _)
   | (with_reducible exact ih6 _ _ _ _)
   | (with_reducible exact ih7 _ _ _ _ _ _)
   | (with_reducible exact ih8 _ _ _ _)
   | (with_reducible exact truantref01_Parse.mono _ _)
   | (with_reducible exact truantref02_sign.mono _ _ _)
   | (with_reducible exact LeO.refl _)
   | (with_reducible exact LeO.none _)
   | (with_reducible refine LeO.ite ?_ ?_)
   | (with_reducible refine LeO.bind ?_ (fun _ => ?_))
   | exact ih0 _ _ _
   | exact ih1 _ _ _ _ _
   | exact ih2 _ _ _ _ _
   | exact ih3 _ _ _
   | exact ih4 _ _ _ _
   | exact ih5 _ _ _ _
   | exact ih6 _ _ _ _
   | exact ih7 _ _ _ _ _ _
   | exact ih8 _ _ _ _
   | exact truantref01_Parse.mono _ _
   | exact truantref02_sign.mono _ _ _
   | exact LeO.none _
   | refine LeO.ite ?_ ?_
   | refine LeO.bind ?_ (fun _ => ?_)
  ·intro y0 y1 y2 y3
   unfold truantref02_Scan.j5
   repeat' first
   | (with_reducible exact ih0 _ _ _)
   | (with_reducible exact ih1 _ _ _ _ _)
   | (with_reducible exact ih2 _ _ _ _ _)
   | (with_reducible exact ih3 _ _ _)
   | (with_reducible exact ih4 _ _ _ _)
   | (with_reducible exact ih5 _ _ _ _)
   | (with_reducible exact ih6 _ _ _ _)
   | (with_reducible exact ih7 _ _ _ _ _ _)
   | (with_reducible exact ih8 _ _ _ _)
   | (with_reducible exact truantref01_Parse.mono _ _)
   | (with_reducible exact truantref02_sign.mono _ _ _)
   | (with_reducible exact LeO.refl _)
   | (with_reducible exact LeO.none _)
   | (with_reducible refine LeO.ite ?_ ?_)
   | (with_reducible refine LeO.bind ?_ (fun _ => ?_))
   | exact ih0 _ _ _
   | exact ih1 _ _ _ _ _
   | exact ih2 _ _ _ _ _
   | exact ih3 _ _ _
   | exact ih4 _ _ _ _
   | exact ih5 _ _ _ _
   | exact ih6 _ _ _ _
   | exact ih7 _ _ _ _ _ _
   | exact ih8 _ _ _ _
   | exact truantref01_Parse.mono _ _
   | exact truantref02_sign.mono _ _ _
   | exact LeO.none _
   | refine LeO.ite ?_ ?_
   | refine LeO.bind ?_ (fun _ => ?_)
  ·intro y0 y1 y2 y3
   unfold truantref02_Scan.l2
   repeat' first
   | (with_reducible exact ih0 _ _ _)
   | (with_reducible exact ih1 _ _ _ _ _)
   | (with_reducible exact ih2 _ _ _ _ _)
   | (with_reducible exact ih3 _ _ _)
   | (with_reducible exact ih4 _ _ _ _)
   | (with_reducible exact ih5 _ _ _ _)
   | (with_reducible exact ih6 _ _ _ _)
   | (with_reducible exact ih7 _ _ _ _ _ _)
   | (with_reducible exact ih8 _ _ _ _)
   | (with_reducible exact truantref01_Parse.mono _ _)
   | (with_reducible exact truantref02_sign.mono _ _ _)
   | (with_reducible exact LeO.refl _)
   | (with_reducible exact LeO.none _)
   | (with_reducible refine LeO.ite ?_ ?_)
   | (with_reducible refine LeO.bind ?_ (fun _ => ?_))
   | exact ih0 _ _ _
   | exact ih1 _ _ _ _ _
   | exact ih2 _ _ _ _ _
   | exact ih3 _ _ _
   | exact ih4 _ _ _ _
   | exact ih5 _ _ _ _
   | exact ih6 _ _ _ _
   | exact ih7 _ _ _ _ _ _
   | exact ih8 _ _ _ _
   | exact truantref01_Parse.mono _ _
   | exact truantref02_sign.mono _ _ _
   | exact LeO.none _
   | refine LeO.ite ?_ ?_
   | refine LeO.bind ?_ (fun _ => ?_)
  ·intro y0 y1 y2 y3
   unfold truantref02_Scan.j7
   repeat' first
   | (with_reducible exact ih0 _ _ _)
   | (with_reducible exact ih1 _ _ _ _ _)
   | (with_reducible exact ih2 _ _ _ _ _)
   | (with_reducible exact ih3 _ _ _)
   | (with_reducible exact ih4 _ _ _ _)
   | (with_reducible exact ih5 _ _ _ _)
   | (with_reducible exact ih6 _ _ _ _)
   | (with_reducible exact ih7 _ _ _ _ _ _)
   | (with_reducible exact ih8 _ _ _ _)
   | (with_reducible exact truantref01_Parse.mono _ _)
   | (with_reducible exact truantref02_sign.mono _ _ _)
   | (with_reducible exact LeO.refl _)
   | (with_reducible exact LeO.none _)
   | (with_reducible refine LeO.ite ?_ ?_)
   | (with_reducible refine LeO.bind ?_ (fun _ => ?_))
   | exact ih0 _ _ _
   | exact ih1 _ _ _ _ _
   | exact ih2 _ _ _ _ _
   | exact ih3 _ _ _
   | exact ih4 _ _ _ _
   | exact ih5 _ _ _ _
   | exact ih6 _ _ _ _
   | exact ih7 _ _ _ _ _ _
   | exact ih8 _ _ _ _
   | exact truantref01_Parse.mono _ _
   | exact truantref02_sign.mono _ _ _
   | exact LeO.none _
   | refine LeO.ite ?_ ?_
   | refine LeO.bind ?_ (fun _ => ?_)
  ·intro y0 y1 y2 y3 y4 y5
   unfold truantref02_Scan.j8
   repeat' first
   | (with_reducible exact ih0 _ _ _)
   | (with_reducible exact ih1 _ _ _ _ _)
   | (with_reducible exact ih2 _ _ _ _ _)
   | (with_reducible exact ih3 _ _ _)
   | (with_reducible exact ih4 _ _ _ _)
   | (with_reducible exact ih5 _ _ _ _)
   | (with_reducible exact ih6 _ _ _ _)
   | (with_reducible exact ih7 _ _ _ _ _ _)
   | (with_reducible exact ih8 _ _ _ _)
   | (with_reducible exact truantref01_Parse.mono _ _)
   | (with_reducible exact truantref02_sign.mono _ _ _)
   | (with_reducible exact LeO.refl _)
   | (with_reducible exact LeO.none _)
   | (with_reducible refine LeO.ite ?_ ?_)
   | (with_reducible refine LeO.bind ?_ (fun _ => ?_))
   | exact ih0 _ _ _
   | exact ih1 _ _ _ _ _
   | exact ih2 _ _ _ _ _
   | exact ih3 _ _ _
   | exact ih4 _ _ _ _
   | exact ih5 _ _ _ _
   | exact ih6 _ _ _ _
   | exact ih7 _ _ _ _ _ _
   | exact ih8 _ _ _ _
   | exact truantref01_Parse.mono _ _
   | exact truantref02_sign.mono _ _ _
   | exact LeO.none _
   | refine LeO.ite ?_ ?_
   | refine LeO.bind ?_ (fun _ => ?_)
  ·intro y0 y1 y2 y3
   unfold truantref02_Scan.l3
   repeat' first
   | (with_reducible exact ih0 _ _ _)
   | (with_reducible exact ih1 _ _ _ _ _)
   | (with_reducible exact ih2 _ _ _ _ _)
   | (with_reducible exact ih3 _ _ _)
   | (with_reducible exact ih4 _ _ _ _)
   | (with_reducible exact ih5 _ _ _ _)
   | (with_reducible exact ih6 _ _ _ _)
   | (with_reducible exact ih7 _ _ _ _ _ _)
   | (with_reducible exact ih8 _ _ _ _)
   | (with_reducible exact truantref01_Parse.mono _ _)
   | (with_reducible exact truantref02_sign.mono _ _ _)
   | (with_reducible exact LeO.refl _)
   | (with_reducible exact LeO.none _)
   | (with_reducible refine LeO.ite ?_ ?_)
   | (with_reducible refine LeO.bind ?_ (fun _ => ?_))
   | exact ih0 _ _ _
   | exact ih1 _ _ _ _ _
   | exact ih2 _ _ _ _ _
   | exact ih3 _ _ _
   | exact ih4 _ _ _ _
   | exact ih5 _ _ _ _
   | exact ih6 _ _ _ _
   | exact ih7 _ _ _ _ _ _
   | exact ih8 _ _ _ _
   | exact truantref01_Parse.mono _ _
   | exact truantref02_sign.mono _ _ _
   | exact LeO.none _
   | refine LeO.ite ?_ ?_
   | refine LeO.bind ?_ (fun _ => ?_)
theorem truantref02_Scan.mono : ∀ a0 k, LeO (truantref02_Scan.f k a0) (truantref02_Scan.f (k + 1) a0) := by
 intro a0 k
 obtain ⟨ih0, ih1, ih2, ih3, ih4, ih5, ih6, ih7, ih8⟩ := truantref02_Scan.mono_l k
 unfold truantref02_Scan.f
 repeat' first
   | (with_reducible exact ih0 _ _ _)
   | (with_reducible exact ih1 _ _ _ _ _)
   | (with_reducible exact ih2 _ _ _ _ _)
   | (with_reducible exact ih3 _ _ _)
   | (with_reducible exact ih4 _ _ _ _)
   | (with_reducible exact ih5 _ _ _ _)
   | (with_reducible exact ih6 _ _ _ _)
   | (with_reducible exact ih7 _ _ _ _ _ _)
   | (with_reducible exact ih8 _ _ _ _)
   | (with_reducible exact truantref01_Parse.mono _ _)
   | (with_reducible exact truantref02_sign.mono _ _ _)
   | (with_reducible exact LeO.refl _)
   | (with_reducible exact LeO.none _)
   | (with_reducible refine LeO.ite ?_ ?_)
   | (with_reducible refine LeO.bind ?_ (fun _ => ?_))
   | exact ih0 _ _ _
   | exact ih1 _ _ _ _ _
   | exact ih2 _ _ _ _ _
   | exact ih3 _ _ _
   | exact ih4 _ _ _ _
   | exact ih5 _ _ _ _
   | exact ih6 _ _ _ _
   | exact ih7 _ _ _ _ _ _
   | exact ih8 _ _ _ _
   | exact truantref01_Parse.mono _ _
   | exact truantref02_sign.mono _ _ _
   | exact LeO.none _
   | refine LeO.ite ?_ ?_
   | refine LeO.bind ?_ (fun _ => ?_)
set_option maxHeartbeats 8000000 in
set_option maxRecDepth 100000 in
theorem truantref02_Scan.calls (k : Nat) (a0 : ByteArray) (r1 : List (S33)) (r2 : Int) (r3 : Int) (w : World) (h : truantref02_Scan.f k a0 = some (r1, r2, r3)) :
  Calls Tryz.prog 9 #[.string a0] w fun e w' => ∃ v0_ : Value, e = .returned (.tuple #[v0_, .int .i64 r2, .int .i64 r3]) ∧ Kd.R k33 33 w' w.heap.size (fun _ => True) v0_ r1 ∧ Below w.heap.size w w' := by
 have hu33 := Tryz.underlying33
 have HB := Aside0.mk (Below.refl w.heap.size w)
 have H : (if (a0.size : Int) > 4096 then (some (([] : List (S33)), 4096, 4)) else (truantref02_Scan.l0 k a0 (([] : List (S33))) 0)) = some (r1, r2, r3) := h
 clear h
 by_cases c2 : (a0.size : Int) > 4096
 ·rw [if_pos c2] at H
  have c2b0 : decide (4096 < (a0.size : Int)) = true := decide_eq_true c2
  have c2b1 : decide (4096 < a0.size) = true := decide_eq_true (by omega)
  clear c2
  simp only [Option.some.injEq, Prod.mk.injEq] at H
  obtain ⟨rfl, rfl, rfl⟩ := H
  go_enter Tryz.func9, Tryz.ntmps9
  go_wp2
  go_ret3
  exact ⟨_, by first | rfl | (simp [errW_none, errW_some] <;> rfl) | (simp [*, errW_none, errW_some] <;> rfl), by first | exact Kd.R_nil _ _ _ _ _ | exact Kd.N_nil _ _ _ _ _ | exact Kd.V_nil _ _ _ _ _ | exact Kd.Q_nil _ _ _ _ _ | exact Kd.S_nil _ _ _ _ _, by repeat (first | (with_reducible first | exact HB.out | apply below_alloc | apply pw_below_drewN | apply below_drew1) | exact HB.out)⟩
 ·rw [if_neg c2] at H
  have c2b0 : decide (4096 < (a0.size : Int)) = false := decide_eq_false c2
  have c2b1 : decide (4096 < a0.size) = false := decide_eq_false (by omega)
  clear c2
  obtain ⟨y236, hy236⟩ : ∃ y_ : List (S33), y_ = (([] : List (S33))) := ⟨_, rfl⟩
  replace H : (truantref02_Scan.l0 k a0 y236 0) = some (r1, r2, r3) := by first | (rw [hy236]; with_reducible exact H) | (have H2_ := (Option.bind_some _ _).symm.trans H; rw [hy236]; with_reducible exact H2_) | (have H2_ := (Option.bind_some _ _).symm.trans H; with_reducible exact H2_) | with_reducible exact H | (rw [hy236]; exact H) | exact H
  have Ny236 := Aside0.mk hy236
  clear hy236
  have H' := Aside0.mk H
  clear H
  go_enter Tryz.func9, Tryz.ntmps9
  go_wp2_with (first | ((with_reducible refine gate_dst (N := 15) rfl ?_); (try (refine gate_guard (by rfl) ?_; dsimp only)); refine Kd.R_lit k33 _ 33 ?hg (N := 15) ?hd (xs := ([] : List (S33))) (inner := []) (ok := fun _ => True) (okp := fun _ => True) ?hr ?hp (fun _ hk => hk) trivial (Below.refl _ _) (Nat.le_refl _) (by simp) ?_; (case hd => rfl); (case hg => rfl); (case hr => first | (go_simp; done) | (go_simp; rfl)); (case hp => exact (Reps.none _ _)); intro v237 w3 ho4 hb hg_ hnew_; clear hg_ hnew_; (first | rw [← Ny236.out] at ho4 | (simp only [Int.reduceToNat] at ho4; rw [← Ny236.out] at ho4)); have n0_ := Aside0.mk (Kd.R_lower ho4 (below_size (by repeat (first | (with_reducible first | exact HB.out | apply below_alloc | apply pw_below_drewN | apply below_drew1) | exact HB.out)))); have n1_ := Aside0.mk (below_step (by repeat (first | (with_reducible first | exact HB.out | apply below_alloc | apply pw_below_drewN | apply below_drew1) | exact HB.out)) hb); clear HB; have HO238 := n0_; have HB := n1_; clear n0_ n1_; clear hb ho4))
  go_loopg [5, 6] k (fun kq v5 v6 w' => ∃ (x5_1 : List (S33)) (x6_1 : Int), v6 = .int .i64 x6_1 ∧ Aside0 (truantref02_Scan.l0 kq a0 x5_1 x6_1 = some (r1, r2, r3)) ∧ Aside0 (kq ≤ k) ∧ Aside0 (Kd.R k33 33 w' w.heap.size (fun _ => True) v5 x5_1) ∧ Aside0 (Below w.heap.size w w'))
  case atStart => exact ⟨(y236), (0), (by first | rfl | (simp; done) | (simp [*]; done)), H', ⟨Nat.le_refl _⟩, ⟨by (with_reducible repeat (first | apply Kd.R_alloc | apply Kd.R_drewN | apply Kd.R_drew)); exact HO238.out⟩, ⟨by repeat (first | (with_reducible first | exact HB.out | apply below_alloc | apply pw_below_drewN | apply below_drew1) | exact HB.out)⟩⟩
  case round =>
   clear H'
   try clear c2
   try clear c2b0
   try clear c2b1
   try clear p2
   obtain ⟨x5_1, x6_1, rfl, HA, HK1, HO_5, HB⟩ := hrel
   cases gk with
   | zero => exact absurd HA.out (by simp [truantref02_Scan.l0])
   | succ k1 =>
    have H := HA.out
    clear HA
    simp only [truantref02_Scan.l0] at H
    by_cases c5 : x6_1 < (a0.size : Int)
    ·rw [if_pos c5] at H
     have c5b0 : decide (x6_1 < (a0.size : Int)) = true := decide_eq_true c5
     clear c5
     by_cases c6 : 0 ≤ x6_1
     ·rw [if_pos c6] at H
      have c6b0 : decide (0 ≤ x6_1) = true := decide_eq_true c6
      clear c6
      have HC8 := Aside0.mk H
      clear H
      have p7 : 0 ≤ (x6_1 : Int) := of_decide_eq_true (by first | (with_reducible assumption) | assumption)
      have q7 : x6_1 < (a0.size : Int) := of_decide_eq_true (by first | (with_reducible assumption) | assumption)
      have hx7 := bt_at a0 x6_1
      replace p7 := eq_true p7
      replace q7 := eq_true q7
      go_upto_region 7 with (fail)
      go_cut [36] (fun v36 wc => ∃ (kq : Nat) (x36_7 : Bool), v36 = .bool x36_7 ∧ Aside0 (truantref02_Scan.j1 kq a0 x5_1 x6_1 (bt a0 x6_1) x36_7 = some (r1, r2, r3)) ∧ Aside0 (kq ≤ k1) ∧ Aside0 (Kd.R k33 33 wc w.heap.size (fun _ => True) u5 x5_1) ∧ Aside0 (Below w.heap.size w wc))
      case first =>
       have H := HC8.out
       clear HC8
       by_cases c9 : (bt a0 x6_1) = 32
       ·rw [if_pos c9] at H
        have c9b0 : ((bt a0 x6_1) == 32) = true := beq_iff_eq.mpr c9
        have c9b1 : ((bt a0 x6_1) != 32) = false := bne_eq_false_iff_eq.mpr c9
        clear c9
        (first | rw [c9b0] | (simp only [i64_w, i32_w]; rw [c9b0]) | skip)
        have H' := Aside0.mk H
        clear H
        go_wp2
        go_meet
        case rel => exact ⟨_, (true), (by first | rfl | (simp; done) | (simp [*]; done)), H', ⟨by have := HK1.out; first | omega | exact Nat.le_refl _⟩, ⟨by (with_reducible repeat (first | apply Kd.R_alloc | apply Kd.R_drewN | apply Kd.R_drew)); exact HO_5.out⟩, ⟨by repeat (first | (with_reducible first | exact HB.out | apply below_alloc | apply pw_below_drewN | apply below_drew1) | exact HB.out)⟩⟩
       ·rw [if_neg c9] at H
        have c9b0 : ((bt a0 x6_1) == 32) = false := beq_eq_false_iff_ne.mpr c9
        have c9b1 : ((bt a0 x6_1) != 32) = true := bne_iff_ne.mpr c9
        (first | rw [c9b0] | (simp only [i64_w, i32_w]; rw [c9b0]) | skip)
        by_cases c10 : (bt a0 x6_1) = 9
        ·rw [if_pos c10] at H
         have c10b0 : ((bt a0 x6_1) == 9) = true := beq_iff_eq.mpr c10
         have c10b1 : ((bt a0 x6_1) != 9) = false := bne_eq_false_iff_eq.mpr c10
         clear c10
         have H' := Aside0.mk H
         clear H
         go_wp2
         go_meet
         case rel => exact ⟨_, (true), (by first | rfl | (simp; done) | (simp [*]; done)), H', ⟨by have := HK1.out; first | omega | exact Nat.le_refl _⟩, ⟨by (with_reducible repeat (first | apply Kd.R_alloc | apply Kd.R_drewN | apply Kd.R_drew)); exact HO_5.out⟩, ⟨by repeat (first | (with_reducible first | exact HB.out | apply below_alloc | apply pw_below_drewN | apply below_drew1) | exact HB.out)⟩⟩
        ·rw [if_neg c10] at H
         have c10b0 : ((bt a0 x6_1) == 9) = false := beq_eq_false_iff_ne.mpr c10
         have c10b1 : ((bt a0 x6_1) != 9) = true := bne_iff_ne.mpr c10
         by_cases c11 : (bt a0 x6_1) = 10
         ·rw [if_pos c11] at H
          have c11b0 : ((bt a0 x6_1) == 10) = true := beq_iff_eq.mpr c11
          have c11b1 : ((bt a0 x6_1) != 10) = false := bne_eq_false_iff_eq.mpr c11
          clear c11
          have H' := Aside0.mk H
          clear H
          go_wp2
          go_meet
          case rel => exact ⟨_, (true), (by first | rfl | (simp; done) | (simp [*]; done)), H', ⟨by have := HK1.out; first | omega | exact Nat.le_refl _⟩, ⟨by (with_reducible repeat (first | apply Kd.R_alloc | apply Kd.R_drewN | apply Kd.R_drew)); exact HO_5.out⟩, ⟨by repeat (first | (with_reducible first | exact HB.out | apply below_alloc | apply pw_below_drewN | apply below_drew1) | exact HB.out)⟩⟩
         ·rw [if_neg c11] at H
          have c11b0 : ((bt a0 x6_1) == 10) = false := beq_eq_false_iff_ne.mpr c11
          have c11b1 : ((bt a0 x6_1) != 10) = true := bne_iff_ne.mpr c11
          have H' := Aside0.mk H
          clear H
          go_wp2
          go_meet
          case rel => exact ⟨_, (((bt a0 x6_1) == 13)), (by first | rfl | (simp; done) | (simp [*]; done)), H', ⟨by have := HK1.out; first | omega | exact Nat.le_refl _⟩, ⟨by (with_reducible repeat (first | apply Kd.R_alloc | apply Kd.R_drewN | apply Kd.R_drew)); exact HO_5.out⟩, ⟨by repeat (first | (with_reducible first | exact HB.out | apply below_alloc | apply pw_below_drewN | apply below_drew1) | exact HB.out)⟩⟩
      case rest =>
       clear HC8
       try clear c1
       try clear c2
       try clear c2b0
       try clear c2b1
       try clear p2
       try clear c5
       try clear c5b0
       try clear c6
       try clear c6b0
       try clear p7
       try clear q7
       try clear hx7
       try clear c9
       try clear c9b0
       try clear c9b1
       try clear c10
       try clear c10b0
       try clear c10b1
       try clear c11
       try clear c11b0
       try clear c11b1
       try clear p2
       try clear p7
       try clear q7
       obtain ⟨kq, x36_7, rfl, HA, HJ7, HO_5, HB⟩ := hcut
       cases kq with
       | zero => exact absurd HA.out (by simp [truantref02_Scan.j1])
       | succ kj7 =>
        have H := HA.out
        clear HA
        simp only [truantref02_Scan.j1] at H
        by_cases c12 : x36_7 = true
        ·subst c12
         have H1 : (truantref02_Scan.l0 kj7 a0 x5_1 (wrap64 (x6_1 + 1))) = some (r1, r2, r3) := by rw [if_pos rfl] at H; exact H
         clear H
         have H := H1
         clear H1
         have H' := Aside0.mk H
         clear H
         go_wp2
         go_roundg kj7
         case measure => have := HK1.out; have := HJ7.out; omega
         case rel => exact ⟨(x5_1), (wrap64 (x6_1 + 1)), (by first | rfl | (simp; done) | (simp [*]; done)), H', ⟨by have := HK1.out; have := HJ7.out; omega⟩, ⟨by (with_reducible repeat (first | apply Kd.R_alloc | apply Kd.R_drewN | apply Kd.R_drew)); exact HO_5.out⟩, ⟨by repeat (first | (with_reducible first | exact HB.out | apply below_alloc | apply pw_below_drewN | apply below_drew1) | exact HB.out)⟩⟩
        ·replace c12 := Bool.eq_false_iff.mpr c12
         subst c12
         have H1 : (if (bt a0 x6_1) = 47 then (if (wrap64 (x6_1 + 1)) < (a0.size : Int) then (if 0 ≤ (wrap64 (x6_1 + 1)) then (truantref02_Scan.j2 kj7 a0 x5_1 x6_1 (bt a0 x6_1) ((bt a0 (wrap64 (x6_1 + 1))) == 47)) else (none)) else (truantref02_Scan.j2 kj7 a0 x5_1 x6_1 (bt a0 x6_1) false)) else (truantref02_Scan.j2 kj7 a0 x5_1 x6_1 (bt a0 x6_1) false)) = some (r1, r2, r3) := by rw [if_neg (show ¬ (false = true) by decide)] at H; exact H
         clear H
         have H := H1
         clear H1
         have HC13 := Aside0.mk H
         clear H
         go_upto_region 9 with (fail)
         go_cut [54] (fun v54 wc => ∃ (kq : Nat) (x54_12 : Bool), v54 = .bool x54_12 ∧ Aside0 (truantref02_Scan.j2 kq a0 x5_1 x6_1 (bt a0 x6_1) x54_12 = some (r1, r2, r3)) ∧ Aside0 (kq ≤ kj7) ∧ Aside0 (Kd.R k33 33 wc w.heap.size (fun _ => True) u5 x5_1) ∧ Aside0 (Below w.heap.size w wc))
         case first =>
          have H := HC13.out
          clear HC13
          by_cases c14 : (bt a0 x6_1) = 47
          ·rw [if_pos c14] at H
           have c14b0 : ((bt a0 x6_1) == 47) = true := beq_iff_eq.mpr c14
           have c14b1 : ((bt a0 x6_1) != 47) = false := bne_eq_false_iff_eq.mpr c14
           clear c14
           (first | rw [c14b0] | (simp only [i64_w, i32_w]; rw [c14b0]) | skip)
           by_cases c15 : (wrap64 (x6_1 + 1)) < (a0.size : Int)
           ·rw [if_pos c15] at H
            have c15b0 : decide ((wrap64 (x6_1 + 1)) < (a0.size : Int)) = true := decide_eq_true c15
            clear c15
            obtain ⟨ji16, hji16⟩ : ∃ j_ : Int, (wrap64 (x6_1 + 1)) = j_ := ⟨_, rfl⟩
            replace H : (if 0 ≤ (ji16) then (truantref02_Scan.j2 kj7 a0 x5_1 x6_1 (bt a0 x6_1) ((bt a0 (ji16)) == 47)) else (none)) = some (r1, r2, r3) := by first | (rw [hji16] at H; exact H) | (simp only [hji16] at H ⊢; exact H)
            (try rw [hji16] at c15b0)
            have hji16w : (IntKind.i64.wrap (x6_1 + 1)) = ji16 := (i64_w _).trans hji16
            by_cases c17 : 0 ≤ (ji16)
            ·rw [if_pos c17] at H
             have c17b0 : decide (0 ≤ (ji16)) = true := decide_eq_true c17
             clear c17
             have H' := Aside0.mk H
             clear H
             have p18 : 0 ≤ ((ji16) : Int) := of_decide_eq_true (by first | (with_reducible assumption) | assumption)
             have q18 : (ji16) < (a0.size : Int) := of_decide_eq_true (by first | (with_reducible assumption) | assumption)
             have hx18 := bt_at a0 (ji16)
             replace p18 := eq_true p18
             replace q18 := eq_true q18
             go_wp2
             go_meet
             case rel => exact ⟨_, (((bt a0 (ji16)) == 47)), (by first | rfl | (simp; done) | (simp only [← hji16] <;> (first | rfl | simp)) | (simp [*]; done)), H', ⟨by have := HK1.out; have := HJ7.out; first | omega | exact Nat.le_refl _⟩, ⟨by (with_reducible repeat (first | apply Kd.R_alloc | apply Kd.R_drewN | apply Kd.R_drew)); exact HO_5.out⟩, ⟨by repeat (first | (with_reducible first | exact HB.out | apply below_alloc | apply pw_below_drewN | apply below_drew1) | exact HB.out)⟩⟩
            ·rw [if_neg c17] at H
             exact absurd H (by simp)
           ·rw [if_neg c15] at H
            have c15b0 : decide ((wrap64 (x6_1 + 1)) < (a0.size : Int)) = false := decide_eq_false c15
            clear c15
            have H' := Aside0.mk H
            clear H
            go_wp2
            go_meet
            case rel => exact ⟨_, (false), (by first | rfl | (simp; done) | (simp [*]; done)), H', ⟨by have := HK1.out; have := HJ7.out; first | omega | exact Nat.le_refl _⟩, ⟨by (with_reducible repeat (first | apply Kd.R_alloc | apply Kd.R_drewN | apply Kd.R_drew)); exact HO_5.out⟩, ⟨by repeat (first | (with_reducible first | exact HB.out | apply below_alloc | apply pw_below_drewN | apply below_drew1) | exact HB.out)⟩⟩
          ·rw [if_neg c14] at H
           have c14b0 : ((bt a0 x6_1) == 47) = false := beq_eq_false_iff_ne.mpr c14
           have c14b1 : ((bt a0 x6_1) != 47) = true := bne_iff_ne.mpr c14
           (first | rw [c14b0] | (simp only [i64_w, i32_w]; rw [c14b0]) | skip)
           have H' := Aside0.mk H
           clear H
           go_wp2
           go_meet
           case rel => exact ⟨_, (false), (by first | rfl | (simp; done) | (simp [*]; done)), H', ⟨by have := HK1.out; have := HJ7.out; first | omega | exact Nat.le_refl _⟩, ⟨by (with_reducible repeat (first | apply Kd.R_alloc | apply Kd.R_drewN | apply Kd.R_drew)); exact HO_5.out⟩, ⟨by repeat (first | (with_reducible first | exact HB.out | apply below_alloc | apply pw_below_drewN | apply below_drew1) | exact HB.out)⟩⟩
         case rest =>
          clear HC13
          try clear c1
          try clear p1
          try clear q1
          try clear hx1
          try clear c2
          try clear c2b0
          try clear c2b1
          try clear p2
          try clear c5
          try clear c5b0
          try clear c6
          try clear c6b0
          try clear p6
          try clear p7
          try clear q7
          try clear hx7
          try clear c9
          try clear c9b0
          try clear c9b1
          try clear c10
          try clear c10b0
          try clear c10b1
          try clear c11
          try clear c11b0
          try clear c11b1
          try clear c12
          try clear c14
          try clear c14b0
          try clear c14b1
          try clear c15
          try clear c15b0
          try clear c17
          try clear c17b0
          try clear p18
          try clear q18
          try clear hx18
          try clear p18
          try clear p2
          try clear p7
          try clear q18
          try clear q7
          obtain ⟨kq, x54_12, rfl, HA, HJ12, HO_5, HB⟩ := hcut
          cases kq with
          | zero => exact absurd HA.out (by simp [truantref02_Scan.j2])
          | succ kj12 =>
           have H := HA.out
           clear HA
           simp only [truantref02_Scan.j2] at H
           by_cases c19 : x54_12 = true
           ·subst c19
            have H1 : (truantref02_Scan.l1 kj12 a0 x5_1 x6_1) = some (r1, r2, r3) := by rw [if_pos rfl] at H; exact H
            clear H
            have H := H1
            clear H1
            have H' := Aside0.mk H
            clear H
            go_wp2
            go_loopg [6] kj12 (fun kq v6 w' => ∃ (x6_4 : Int), v6 = .int .i64 x6_4 ∧ Aside0 (truantref02_Scan.l1 kq a0 x5_1 x6_4 = some (r1, r2, r3)) ∧ Aside0 (kq ≤ kj12) ∧ Aside0 (Kd.R k33 33 w' w.heap.size (fun _ => True) u5 x5_1) ∧ Aside0 (Below w.heap.size w w'))
            case atStart => exact ⟨(x6_1), (by first | rfl | (simp; done) | (simp [*]; done)), H', ⟨Nat.le_refl _⟩, ⟨by (with_reducible repeat (first | apply Kd.R_alloc | apply Kd.R_drewN | apply Kd.R_drew)); exact HO_5.out⟩, ⟨by repeat (first | (with_reducible first | exact HB.out | apply below_alloc | apply pw_below_drewN | apply below_drew1) | exact HB.out)⟩⟩
            case round =>
             clear H'
             try clear c1
             try clear p1
             try clear q1
             try clear hx1
             try clear c2
             try clear c2b0
             try clear c2b1
             try clear p2
             try clear c5
             try clear c5b0
             try clear c6
             try clear c6b0
             try clear p6
             try clear p7
             try clear q7
             try clear hx7
             try clear c9
             try clear c9b0
             try clear c9b1
             try clear c10
             try clear c10b0
             try clear c10b1
             try clear c11
             try clear c11b0
             try clear c11b1
             try clear c12
             try clear c14
             try clear c14b0
             try clear c14b1
             try clear c15
             try clear c15b0
             try clear c17
             try clear c17b0
             try clear p18
             try clear q18
             try clear hx18
             try clear c19
             try clear p1
             try clear p18
             try clear p2
             try clear p6
             try clear p7
             try clear q1
             try clear q18
             try clear q7
             obtain ⟨x6_4, rfl, HA, HK4, HO_5, HB⟩ := hrel
             cases gk with
             | zero => exact absurd HA.out (by simp [truantref02_Scan.l1])
             | succ k4 =>
              have H := HA.out
              clear HA
              simp only [truantref02_Scan.l1] at H
              by_cases c20 : x6_4 < (a0.size : Int)
              ·rw [if_pos c20] at H
               have c20b0 : decide (x6_4 < (a0.size : Int)) = true := decide_eq_true c20
               clear c20
               by_cases c21 : 0 ≤ x6_4
               ·rw [if_pos c21] at H
                have c21b0 : decide (0 ≤ x6_4) = true := decide_eq_true c21
                clear c21
                by_cases c23 : (bt a0 x6_4) = 10
                ·rw [if_pos c23] at H
                 have c23b0 : ((bt a0 x6_4) == 10) = true := beq_iff_eq.mpr c23
                 have c23b1 : ((bt a0 x6_4) != 10) = false := bne_eq_false_iff_eq.mpr c23
                 clear c23
                 have H' := Aside0.mk H
                 clear H
                 have p22 : 0 ≤ (x6_4 : Int) := of_decide_eq_true (by first | (with_reducible assumption) | assumption)
                 have q22 : x6_4 < (a0.size : Int) := of_decide_eq_true (by first | (with_reducible assumption) | assumption)
                 have hx22 := bt_at a0 x6_4
                 replace p22 := eq_true p22
                 replace q22 := eq_true q22
                 go_wp2
                 go_roundg k4
                 case measure => have := HK1.out; have := HJ7.out; have := HJ12.out; have := HK4.out; omega
                 case rel => exact ⟨(x5_1), (x6_4), (by first | rfl | (simp; done) | (simp [*]; done)), H', ⟨by have := HK1.out; have := HJ7.out; have := HJ12.out; have := HK4.out; omega⟩, ⟨by (with_reducible repeat (first | apply Kd.R_alloc | apply Kd.R_drewN | apply Kd.R_drew)); exact HO_5.out⟩, ⟨by repeat (first | (with_reducible first | exact HB.out | apply below_alloc | apply pw_below_drewN | apply below_drew1) | exact HB.out)⟩⟩
                ·rw [if_neg c23] at H
                 have c23b0 : ((bt a0 x6_4) == 10) = false := beq_eq_false_iff_ne.mpr c23
                 have c23b1 : ((bt a0 x6_4) != 10) = true := bne_iff_ne.mpr c23
                 have H' := Aside0.mk H
                 clear H
                 have p22 : 0 ≤ (x6_4 : Int) := of_decide_eq_true (by first | (with_reducible assumption) | assumption)
                 have q22 : x6_4 < (a0.size : Int) := of_decide_eq_true (by first | (with_reducible assumption) | assumption)
                 have hx22 := bt_at a0 x6_4
                 replace p22 := eq_true p22
                 replace q22 := eq_true q22
                 go_wp2
                 go_roundg k4
                 case measure => have := HK1.out; have := HJ7.out; have := HJ12.out; have := HK4.out; omega
                 case rel => exact ⟨(wrap64 (x6_4 + 1)), (by first | rfl | (simp; done) | (simp [*]; done)), H', ⟨by have := HK1.out; have := HJ7.out; have := HJ12.out; have := HK4.out; omega⟩, ⟨by (with_reducible repeat (first | apply Kd.R_alloc | apply Kd.R_drewN | apply Kd.R_drew)); exact HO_5.out⟩, ⟨by repeat (first | (with_reducible first | exact HB.out | apply below_alloc | apply pw_below_drewN | apply below_drew1) | exact HB.out)⟩⟩
               ·rw [if_neg c21] at H
                exact absurd H (by simp)
              ·rw [if_neg c20] at H
               have c20b0 : decide (x6_4 < (a0.size : Int)) = false := decide_eq_false c20
               clear c20
               have H' := Aside0.mk H
               clear H
               go_wp2
               go_roundg k4
               case measure => have := HK1.out; have := HJ7.out; have := HJ12.out; have := HK4.out; omega
               case rel => exact ⟨(x5_1), (x6_4), (by first | rfl | (simp; done) | (simp [*]; done)), H', ⟨by have := HK1.out; have := HJ7.out; have := HJ12.out; have := HK4.out; omega⟩, ⟨by (with_reducible repeat (first | apply Kd.R_alloc | apply Kd.R_drewN | apply Kd.R_drew)); exact HO_5.out⟩, ⟨by repeat (first | (with_reducible first | exact HB.out | apply below_alloc | apply pw_below_drewN | apply below_drew1) | exact HB.out)⟩⟩
           ·replace c19 := Bool.eq_false_iff.mpr c19
            subst c19
            have H1 : ((truantref02_letter.f (bt a0 x6_1)).bind fun t239 => (if t239 = true then (truantref02_Scan.l2 kj12 a0 x5_1 x6_1 x6_1) else ((truantref02_digit.f (bt a0 x6_1)).bind fun t249 => (if t249 = true then (truantref02_Scan.l3 kj12 a0 x5_1 x6_1 x6_1) else ((truantref02_sign.f kj12 a0 x6_1).bind fun t257 => (if (wrap64 (x6_1 + t257)) = x6_1 then (some (([] : List (S33)), x6_1, 1)) else (if 0 ≤ x6_1 then (if x6_1 ≤ (wrap64 (x6_1 + t257)) then (if (wrap64 (x6_1 + t257)) ≤ (a0.size : Int) then (if x5_1.length < 4398046511104 then (truantref02_Scan.l0 kj12 a0 (x5_1 ++ [(⟨4, a0.extract (x6_1 : Int).toNat ((wrap64 (x6_1 + t257)) : Int).toNat, x6_1⟩ : S33)]) (wrap64 (x6_1 + t257))) else (none)) else (none)) else (none)) else (none)))))))) = some (r1, r2, r3) := by rw [if_neg (show ¬ (false = true) by decide)] at H; exact H
            clear H
            have H := H1
            clear H1
            replace H := Option.bind_eq_some_iff.mp H
            obtain ⟨t239, A240, H⟩ := H
            replace H : (if t239 = true then (truantref02_Scan.l2 kj12 a0 x5_1 x6_1 x6_1) else ((truantref02_digit.f (bt a0 x6_1)).bind fun t249 => (if t249 = true then (truantref02_Scan.l3 kj12 a0 x5_1 x6_1 x6_1) else ((truantref02_sign.f kj12 a0 x6_1).bind fun t257 => (if (wrap64 (x6_1 + t257)) = x6_1 then (some (([] : List (S33)), x6_1, 1)) else (if 0 ≤ x6_1 then (if x6_1 ≤ (wrap64 (x6_1 + t257)) then (if (wrap64 (x6_1 + t257)) ≤ (a0.size : Int) then (if x5_1.length < 4398046511104 then (truantref02_Scan.l0 kj12 a0 (x5_1 ++ [(⟨4, a0.extract (x6_1 : Int).toNat ((wrap64 (x6_1 + t257)) : Int).toNat, x6_1⟩ : S33)]) (wrap64 (x6_1 + t257))) else (none)) else (none)) else (none)) else (none))))))) = some (r1, r2, r3) := H
            have A24 := Aside0.mk A240
            clear A240
            by_cases c25 : t239 = true
            ·subst c25
             have H1 : (truantref02_Scan.l2 kj12 a0 x5_1 x6_1 x6_1) = some (r1, r2, r3) := by rw [if_pos rfl] at H; exact H
             clear H
             have H := H1
             clear H1
             have HC26 := Aside0.mk H
             clear H
             go_upto_block 4 with (first | ((with_reducible refine gate_callee (f := 19) rfl ?_); refine goesL_ (some 69) rfl rfl Tryz.func19 (by kernel_rfl) rfl #[.int .u8 (bt a0 x6_1)] rfl (by (try simp only [List.map_toArray, List.map_cons, List.map_nil]); first | done | rfl | (simp only [List.length_drop, List.length_take]; rfl)) ?_; (with_reducible refine (truantref02_letter.calls (bt a0 x6_1) true _ A24.out).mono ?_); rintro e w' ⟨rfl, ⟨nd, rfl⟩⟩; refine ⟨_, rfl, ?_⟩))
             (try simp only [Act.put, List.setIfInBounds_toArray, List.set_cons_zero, List.set_cons_succ])
             go_cut [8] (fun v8 wc => ∃ (kq : Nat) (x8_25 : Int), v8 = .int .i64 x8_25 ∧ Aside0 (truantref02_Scan.j5 kq a0 x5_1 x6_1 x8_25 = some (r1, r2, r3)) ∧ Aside0 (kq ≤ kj12) ∧ Aside0 (Kd.R k33 33 wc w.heap.size (fun _ => True) u5 x5_1) ∧ Aside0 (Below w.heap.size w wc))
             case first =>
              have H := HC26.out
              clear HC26
              have H' := Aside0.mk H
              clear H
              go_wp2
              go_loopg [8] kj12 (fun kq v8 w' => ∃ (x8_4 : Int), v8 = .int .i64 x8_4 ∧ Aside0 (truantref02_Scan.l2 kq a0 x5_1 x6_1 x8_4 = some (r1, r2, r3)) ∧ Aside0 (kq ≤ kj12) ∧ Aside0 (Kd.R k33 33 w' w.heap.size (fun _ => True) u5 x5_1) ∧ Aside0 (Below w.heap.size w w'))
              case atStart => exact ⟨(x6_1), (by first | rfl | (simp; done) | (simp [*]; done)), H', ⟨Nat.le_refl _⟩, ⟨by (with_reducible repeat (first | apply Kd.R_alloc | apply Kd.R_drewN | apply Kd.R_drew)); exact HO_5.out⟩, ⟨by repeat (first | (with_reducible first | exact HB.out | apply below_alloc | apply pw_below_drewN | apply below_drew1) | exact HB.out)⟩⟩
              case round =>
               clear H'
               try clear c1
               try clear p1
               try clear q1
               try clear hx1
               try clear c2
               try clear c2b0
               try clear c2b1
               try clear p2
               try clear q2
               try clear hx2
               try clear c5
               try clear c5b0
               try clear c6
               try clear c6b0
               try clear p6
               try clear p7
               try clear q7
               try clear hx7
               try clear c9
               try clear c9b0
               try clear c9b1
               try clear c10
               try clear c10b0
               try clear c10b1
               try clear c11
               try clear c11b0
               try clear c11b1
               try clear c12
               try clear c14
               try clear c14b0
               try clear c14b1
               try clear c15
               try clear c15b0
               try clear c17
               try clear c17b0
               try clear p18
               try clear q18
               try clear hx18
               try clear c19
               try clear c20
               try clear c20b0
               try clear c21
               try clear c21b0
               try clear p22
               try clear q22
               try clear hx22
               try clear c23
               try clear c23b0
               try clear c23b1
               try clear c25
               try clear p1
               try clear p18
               try clear p2
               try clear p22
               try clear p6
               try clear p7
               try clear q1
               try clear q18
               try clear q22
               try clear q7
               obtain ⟨x8_4, rfl, HA, HK4, HO_5, HB⟩ := hrel
               cases gk with
               | zero => exact absurd HA.out (by simp [truantref02_Scan.l2])
               | succ k4 =>
                have H := HA.out
                clear HA
                simp only [truantref02_Scan.l2] at H
                by_cases c27 : x8_4 < (a0.size : Int)
                ·rw [if_pos c27] at H
                 have c27b0 : decide (x8_4 < (a0.size : Int)) = true := decide_eq_true c27
                 clear c27
                 (first | rw [c27b0] | (simp only [i64_w, i32_w]; rw [c27b0]) | skip)
                 by_cases c28 : 0 ≤ x8_4
                 ·rw [if_pos c28] at H
                  have c28b0 : decide (0 ≤ x8_4) = true := decide_eq_true c28
                  clear c28
                  replace H := Option.bind_eq_some_iff.mp H
                  obtain ⟨t240, A300, H⟩ := H
                  replace H : (if t240 = true then (truantref02_Scan.l2 k4 a0 x5_1 x6_1 (wrap64 (x8_4 + 1))) else ((truantref02_digit.f (bt a0 x8_4)).bind fun t241 => (if t241 = true then (truantref02_Scan.l2 k4 a0 x5_1 x6_1 (wrap64 (x8_4 + 1))) else (truantref02_Scan.j5 k4 a0 x5_1 x6_1 x8_4)))) = some (r1, r2, r3) := H
                  have A30 := Aside0.mk A300
                  clear A300
                  by_cases c31 : t240 = true
                  ·subst c31
                   have H1 : (truantref02_Scan.l2 k4 a0 x5_1 x6_1 (wrap64 (x8_4 + 1))) = some (r1, r2, r3) := by rw [if_pos rfl] at H; exact H
                   clear H
                   have H := H1
                   clear H1
                   have H' := Aside0.mk H
                   clear H
                   have p29 : 0 ≤ (x8_4 : Int) := of_decide_eq_true (by first | (with_reducible assumption) | assumption)
                   have q29 : x8_4 < (a0.size : Int) := of_decide_eq_true (by first | (with_reducible assumption) | assumption)
                   have hx29 := bt_at a0 x8_4
                   replace p29 := eq_true p29
                   replace q29 := eq_true q29
                   go_wp2_with (first | (go_at_call 19; (with_reducible refine (truantref02_letter.calls (bt a0 x8_4) true _ A30.out).mono ?_); rintro e w' ⟨rfl, ⟨nd, rfl⟩⟩))
                   go_roundg k4
                   case measure => have := HK1.out; have := HJ7.out; have := HJ12.out; have := HK4.out; omega
                   case rel => exact ⟨(wrap64 (x8_4 + 1)), (by first | rfl | (simp; done) | (simp [*]; done)), H', ⟨by have := HK1.out; have := HJ7.out; have := HJ12.out; have := HK4.out; omega⟩, ⟨by (with_reducible repeat (first | apply Kd.R_alloc | apply Kd.R_drewN | apply Kd.R_drew)); exact HO_5.out⟩, ⟨by repeat (first | (with_reducible first | exact HB.out | apply below_alloc | apply pw_below_drewN | apply below_drew1) | exact HB.out)⟩⟩
                  ·replace c31 := Bool.eq_false_iff.mpr c31
                   subst c31
                   have H1 : ((truantref02_digit.f (bt a0 x8_4)).bind fun t241 => (if t241 = true then (truantref02_Scan.l2 k4 a0 x5_1 x6_1 (wrap64 (x8_4 + 1))) else (truantref02_Scan.j5 k4 a0 x5_1 x6_1 x8_4))) = some (r1, r2, r3) := by rw [if_neg (show ¬ (false = true) by decide)] at H; exact H
                   clear H
                   have H := H1
                   clear H1
                   replace H := Option.bind_eq_some_iff.mp H
                   obtain ⟨t241, A330, H⟩ := H
                   replace H : (if t241 = true then (truantref02_Scan.l2 k4 a0 x5_1 x6_1 (wrap64 (x8_4 + 1))) else (truantref02_Scan.j5 k4 a0 x5_1 x6_1 x8_4)) = some (r1, r2, r3) := H
                   have A33 := Aside0.mk A330
                   clear A330
                   by_cases c34 : t241 = true
                   ·subst c34
                    have H1 : (truantref02_Scan.l2 k4 a0 x5_1 x6_1 (wrap64 (x8_4 + 1))) = some (r1, r2, r3) := by rw [if_pos rfl] at H; exact H
                    clear H
                    have H := H1
                    clear H1
                    have H' := Aside0.mk H
                    clear H
                    have p29 : 0 ≤ (x8_4 : Int) := of_decide_eq_true (by first | (with_reducible assumption) | assumption)
                    have q29 : x8_4 < (a0.size : Int) := of_decide_eq_true (by first | (with_reducible assumption) | assumption)
                    have hx29 := bt_at a0 x8_4
                    replace p29 := eq_true p29
                    replace q29 := eq_true q29
                    go_wp2_with (first | (go_at_call 19; (with_reducible refine (truantref02_letter.calls (bt a0 x8_4) false _ A30.out).mono ?_); rintro e w' ⟨rfl, ⟨nd, rfl⟩⟩; have p32 : 0 ≤ (x8_4 : Int) := of_decide_eq_true (by first | (with_reducible assumption) | assumption); have q32 : x8_4 < (a0.size : Int) := of_decide_eq_true (by first | (with_reducible assumption) | assumption); have hx32 := bt_at a0 x8_4; replace p32 := eq_true p32; replace q32 := eq_true q32) | (go_at_call 20; (with_reducible refine (truantref02_digit.calls (bt a0 x8_4) true _ A33.out).mono ?_); rintro e w' ⟨rfl, ⟨nd, rfl⟩⟩))
                    go_roundg k4
                    case measure => have := HK1.out; have := HJ7.out; have := HJ12.out; have := HK4.out; omega
                    case rel => exact ⟨(wrap64 (x8_4 + 1)), (by first | rfl | (simp; done) | (simp [*]; done)), H', ⟨by have := HK1.out; have := HJ7.out; have := HJ12.out; have := HK4.out; omega⟩, ⟨by (with_reducible repeat (first | apply Kd.R_alloc | apply Kd.R_drewN | apply Kd.R_drew)); exact HO_5.out⟩, ⟨by repeat (first | (with_reducible first | exact HB.out | apply below_alloc | apply pw_below_drewN | apply below_drew1) | exact HB.out)⟩⟩
                   ·replace c34 := Bool.eq_false_iff.mpr c34
                    subst c34
                    have H1 : (truantref02_Scan.j5 k4 a0 x5_1 x6_1 x8_4) = some (r1, r2, r3) := by rw [if_neg (show ¬ (false = true) by decide)] at H; exact H
                    clear H
                    have H := H1
                    clear H1
                    have H' := Aside0.mk H
                    clear H
                    have p29 : 0 ≤ (x8_4 : Int) := of_decide_eq_true (by first | (with_reducible assumption) | assumption)
                    have q29 : x8_4 < (a0.size : Int) := of_decide_eq_true (by first | (with_reducible assumption) | assumption)
                    have hx29 := bt_at a0 x8_4
                    replace p29 := eq_true p29
                    replace q29 := eq_true q29
                    go_wp2_with (first | (go_at_call 19; (with_reducible refine (truantref02_letter.calls (bt a0 x8_4) false _ A30.out).mono ?_); rintro e w' ⟨rfl, ⟨nd, rfl⟩⟩; have p32 : 0 ≤ (x8_4 : Int) := of_decide_eq_true (by first | (with_reducible assumption) | assumption); have q32 : x8_4 < (a0.size : Int) := of_decide_eq_true (by first | (with_reducible assumption) | assumption); have hx32 := bt_at a0 x8_4; replace p32 := eq_true p32; replace q32 := eq_true q32) | (go_at_call 20; (with_reducible refine (truantref02_digit.calls (bt a0 x8_4) false _ A33.out).mono ?_); rintro e w' ⟨rfl, ⟨nd, rfl⟩⟩))
                    go_meet
                    case rel => exact ⟨_, (x8_4), (by first | rfl | (simp; done) | (simp [*]; done)), H', ⟨by have := HK1.out; have := HJ7.out; have := HJ12.out; have := HK4.out; first | omega | exact Nat.le_refl _⟩, ⟨by (with_reducible repeat (first | apply Kd.R_alloc | apply Kd.R_drewN | apply Kd.R_drew)); exact HO_5.out⟩, ⟨by repeat (first | (with_reducible first | exact HB.out | apply below_alloc | apply pw_below_drewN | apply below_drew1) | exact HB.out)⟩⟩
                 ·rw [if_neg c28] at H
                  exact absurd H (by simp)
                ·rw [if_neg c27] at H
                 have c27b0 : decide (x8_4 < (a0.size : Int)) = false := decide_eq_false c27
                 clear c27
                 (first | rw [c27b0] | (simp only [i64_w, i32_w]; rw [c27b0]) | skip)
                 have H' := Aside0.mk H
                 clear H
                 go_wp2
                 go_meet
                 case rel => exact ⟨_, (x8_4), (by first | rfl | (simp; done) | (simp [*]; done)), H', ⟨by have := HK1.out; have := HJ7.out; have := HJ12.out; have := HK4.out; first | omega | exact Nat.le_refl _⟩, ⟨by (with_reducible repeat (first | apply Kd.R_alloc | apply Kd.R_drewN | apply Kd.R_drew)); exact HO_5.out⟩, ⟨by repeat (first | (with_reducible first | exact HB.out | apply below_alloc | apply pw_below_drewN | apply below_drew1) | exact HB.out)⟩⟩
             case rest =>
              clear HC26
              try clear c1
              try clear p1
              try clear q1
              try clear hx1
              try clear c2
              try clear c2b0
              try clear c2b1
              try clear p2
              try clear q2
              try clear hx2
              try clear c3
              try clear p3
              try clear q3
              try clear hx3
              try clear c5
              try clear c5b0
              try clear c6
              try clear c6b0
              try clear p6
              try clear p7
              try clear q7
              try clear hx7
              try clear c9
              try clear c9b0
              try clear c9b1
              try clear c10
              try clear c10b0
              try clear c10b1
              try clear c11
              try clear c11b0
              try clear c11b1
              try clear c12
              try clear c14
              try clear c14b0
              try clear c14b1
              try clear c15
              try clear c15b0
              try clear c17
              try clear c17b0
              try clear p18
              try clear q18
              try clear hx18
              try clear c19
              try clear c20
              try clear c20b0
              try clear c21
              try clear c21b0
              try clear p22
              try clear q22
              try clear hx22
              try clear c23
              try clear c23b0
              try clear c23b1
              try clear c25
              try clear c27
              try clear c27b0
              try clear c28
              try clear c28b0
              try clear p29
              try clear q29
              try clear hx29
              try clear c31
              try clear p32
              try clear q32
              try clear hx32
              try clear c34
              try clear p1
              try clear p18
              try clear p2
              try clear p22
              try clear p29
              try clear p32
              try clear p6
              try clear p7
              try clear q1
              try clear q18
              try clear q2
              try clear q22
              try clear q29
              try clear q32
              try clear q7
              obtain ⟨kq, x8_25, rfl, HA, HJ25, HO_5, HB⟩ := hcut
              cases kq with
              | zero => exact absurd HA.out (by simp [truantref02_Scan.j5])
              | succ kj25 =>
               have H := HA.out
               clear HA
               simp only [truantref02_Scan.j5] at H
               by_cases c35 : 0 ≤ x6_1
               ·rw [if_pos c35] at H
                have c35b0 := eq_true c35
                have c35b1 : decide (0 ≤ x6_1) = true := decide_eq_true c35
                clear c35
                by_cases c36 : x6_1 ≤ x8_25
                ·rw [if_pos c36] at H
                 have c36b0 := eq_true c36
                 have c36b1 : decide (x6_1 ≤ x8_25) = true := decide_eq_true c36
                 clear c36
                 by_cases c37 : x8_25 ≤ (a0.size : Int)
                 ·rw [if_pos c37] at H
                  have c37b0 := eq_true c37
                  have c37b1 : decide (x8_25 ≤ (a0.size : Int)) = true := decide_eq_true c37
                  clear c37
                  replace H := Option.bind_eq_some_iff.mp H
                  obtain ⟨t242, A380, H⟩ := H
                  replace H : (if t242 = true then (if (wrap64 (x8_25 - x6_1)) > 12 then (some (([] : List (S33)), x6_1, 4)) else (if x5_1.length < 4398046511104 then (truantref02_Scan.l0 kj25 a0 (x5_1 ++ [(⟨2, a0.extract (x6_1 : Int).toNat (x8_25 : Int).toNat, x6_1⟩ : S33)]) x8_25) else (none))) else (if (wrap64 (x8_25 - x6_1)) > 12 then (some (([] : List (S33)), x6_1, 4)) else (if x5_1.length < 4398046511104 then (truantref02_Scan.l0 kj25 a0 (x5_1 ++ [(⟨1, a0.extract (x6_1 : Int).toNat (x8_25 : Int).toNat, x6_1⟩ : S33)]) x8_25) else (none)))) = some (r1, r2, r3) := H
                  have A38 := Aside0.mk A380
                  clear A380
                  by_cases c39 : t242 = true
                  ·subst c39
                   have H1 : (if (wrap64 (x8_25 - x6_1)) > 12 then (some (([] : List (S33)), x6_1, 4)) else (if x5_1.length < 4398046511104 then (truantref02_Scan.l0 kj25 a0 (x5_1 ++ [(⟨2, a0.extract (x6_1 : Int).toNat (x8_25 : Int).toNat, x6_1⟩ : S33)]) x8_25) else (none))) = some (r1, r2, r3) := by rw [if_pos rfl] at H; exact H
                   clear H
                   have H := H1
                   clear H1
                   by_cases c40 : (wrap64 (x8_25 - x6_1)) > 12
                   ·rw [if_pos c40] at H
                    have c40b0 : decide (12 < (wrap64 (x8_25 - x6_1))) = true := decide_eq_true c40
                    clear c40
                    simp only [Option.some.injEq, Prod.mk.injEq] at H
                    obtain ⟨rfl, rfl, rfl⟩ := H
                    go_wp2_with (first | ((with_reducible refine gate_callee (f := 13) rfl ?_); refine goesL_ (some 92) rfl rfl Tryz.func13 (by kernel_rfl) rfl #[.string (a0.extract (x6_1 : Int).toNat (x8_25 : Int).toNat)] rfl (by (try simp only [List.map_toArray, List.map_cons, List.map_nil]); first | done | rfl | (simp only [List.length_drop, List.length_take]; rfl)) ?_; (with_reducible refine (truantref02_Key.calls (a0.extract (x6_1 : Int).toNat (x8_25 : Int).toNat) true _ A38.out).mono ?_); rintro e w41 ⟨rfl, hb⟩; refine ⟨_, rfl, ?_⟩; have n0_ := Aside0.mk (Kd.R_below (by (with_reducible repeat (first | apply Kd.R_alloc | apply Kd.R_drewN | apply Kd.R_drew)); exact HO_5.out) hb); have n1_ := Aside0.mk (below_step (by repeat (first | (with_reducible first | exact HB.out | apply below_alloc | apply pw_below_drewN | apply below_drew1) | exact HB.out)) hb); clear HO_5; clear HB; have HO_5 := n0_; have HB := n1_; clear n0_ n1_; (try clear hb); (try clear hb2); (try clear hk); (try clear hi)))
                    go_ret3
                    exact ⟨_, by first | rfl | (simp [errW_none, errW_some] <;> rfl) | (simp [*, errW_none, errW_some] <;> rfl), by first | exact Kd.R_nil _ _ _ _ _ | exact Kd.N_nil _ _ _ _ _ | exact Kd.V_nil _ _ _ _ _ | exact Kd.Q_nil _ _ _ _ _ | exact Kd.S_nil _ _ _ _ _, by repeat (first | (with_reducible first | exact HB.out | apply below_alloc | apply pw_below_drewN | apply below_drew1) | exact HB.out)⟩
                   ·rw [if_neg c40] at H
                    have c40b0 : decide (12 < (wrap64 (x8_25 - x6_1))) = false := decide_eq_false c40
                    clear c40
                    have c42b0 := eq_true (of_decide_eq_true (by first | (with_reducible assumption) | assumption) : 0 ≤ x6_1)
                    have c43b0 := eq_true (of_decide_eq_true (by first | (with_reducible assumption) | assumption) : x6_1 ≤ x8_25)
                    have c44b0 := eq_true (of_decide_eq_true (by first | (with_reducible assumption) | assumption) : x8_25 ≤ (a0.size : Int))
                    by_cases c45 : x5_1.length < 4398046511104
                    ·rw [if_pos c45] at H
                     have LMc45 := Aside0.mk c45
                     clear c45
                     obtain ⟨y243, hy243⟩ : ∃ y_ : List (S33), y_ = (x5_1 ++ [(⟨2, a0.extract (x6_1 : Int).toNat (x8_25 : Int).toNat, x6_1⟩ : S33)]) := ⟨_, rfl⟩
                     replace H : (truantref02_Scan.l0 kj25 a0 y243 x8_25) = some (r1, r2, r3) := by first | (rw [hy243]; with_reducible exact H) | (have H2_ := (Option.bind_some _ _).symm.trans H; rw [hy243]; with_reducible exact H2_) | (have H2_ := (Option.bind_some _ _).symm.trans H; with_reducible exact H2_) | with_reducible exact H | (rw [hy243]; exact H) | exact H
                     have Ny243 := Aside0.mk hy243
                     clear hy243
                     have H' := Aside0.mk H
                     clear H
                     go_wp2_with (first | ((with_reducible refine gate_callee (f := 13) rfl ?_); refine goesL_ (some 92) rfl rfl Tryz.func13 (by kernel_rfl) rfl #[.string (a0.extract (x6_1 : Int).toNat (x8_25 : Int).toNat)] rfl (by (try simp only [List.map_toArray, List.map_cons, List.map_nil]); first | done | rfl | (simp only [List.length_drop, List.length_take]; rfl)) ?_; (with_reducible refine (truantref02_Key.calls (a0.extract (x6_1 : Int).toNat (x8_25 : Int).toNat) true _ A38.out).mono ?_); rintro e w46 ⟨rfl, hb⟩; refine ⟨_, rfl, ?_⟩; have n0_ := Aside0.mk (Kd.R_below (by (with_reducible repeat (first | apply Kd.R_alloc | apply Kd.R_drewN | apply Kd.R_drew)); exact HO_5.out) hb); have n1_ := Aside0.mk (below_step (by repeat (first | (with_reducible first | exact HB.out | apply below_alloc | apply pw_below_drewN | apply below_drew1) | exact HB.out)) hb); clear HO_5; clear HB; have HO_5 := n0_; have HB := n1_; clear n0_ n1_; (try clear hb); (try clear hb2); (try clear hk); (try clear hi)) | ((with_reducible refine gate_builtin (b := .append) (xs := #[.tmp 144, .tmp 152]) rfl ?_); (try (refine gate_guard (by rfl) ?_; dsimp only)); at_builtin; refine Kd.R_append k33 (w0 := w) w.heap.size rfl (.tmp 144) (.tmp 152) 27 33 (.agg #[(.int .i64 0), (.string ⟨#[]⟩), (.int .i64 0)]) 32 rfl Tryz.underlying27 info33 rfl (by decide) (by omega) u5 x5_1 (⟨2, a0.extract (x6_1 : Int).toNat (x8_25 : Int).toNat, x6_1⟩ : S33) [.int .i64 2, .string (a0.extract (x6_1 : Int).toNat (x8_25 : Int).toNat), .int .i64 x6_1] (fun _ => True) (fun _ => False) rfl rfl ?aP (fun _ hk => hk.elim) ?aF ?aO ?aB ?aS ?aL ?_; (case aP => exact k33_mkM _ _ _ (⟨2, a0.extract (x6_1 : Int).toNat (x8_25 : Int).toNat, x6_1⟩ : S33)); (case aB => exact (by repeat (first | (with_reducible first | exact HB.out | apply below_alloc | apply pw_below_drewN | apply below_drew1) | exact HB.out))); (case aF => exact (fun _ _ => trivial)); (case aO => exact (by (with_reducible repeat (first | apply Kd.R_alloc | apply Kd.R_drewN | apply Kd.R_drew)); exact HO_5.out)); (case aS => exact (below_size (by repeat (first | (with_reducible first | exact HB.out | apply below_alloc | apply pw_below_drewN | apply below_drew1) | exact HB.out)))); (case aL => have := LMc45.out; omega); intro v244 w47 ho hb hg hat; rw [← Ny243.out] at ho; have n0_ := Aside0.mk (hb); have n1_ := Aside0.mk (ho); clear HB; clear HO_5; have HB := n0_; have HO245 := n1_; clear n0_ n1_; clear ho hb hg hat))
                     go_roundg kj25
                     case measure => have := HK1.out; have := HJ7.out; have := HJ12.out; have := HJ25.out; omega
                     case rel => exact ⟨(y243), (x8_25), (by first | rfl | (simp; done) | (simp [*]; done)), H', ⟨by have := HK1.out; have := HJ7.out; have := HJ12.out; have := HJ25.out; omega⟩, ⟨by (with_reducible repeat (first | apply Kd.R_alloc | apply Kd.R_drewN | apply Kd.R_drew)); exact HO245.out⟩, ⟨by repeat (first | (with_reducible first | exact HB.out | apply below_alloc | apply pw_below_drewN | apply below_drew1) | exact HB.out)⟩⟩
                    ·rw [if_neg c45] at H
                     exact absurd H (by simp)
                  ·replace c39 := Bool.eq_false_iff.mpr c39
                   subst c39
                   have H1 : (if (wrap64 (x8_25 - x6_1)) > 12 then (some (([] : List (S33)), x6_1, 4)) else (if x5_1.length < 4398046511104 then (truantref02_Scan.l0 kj25 a0 (x5_1 ++ [(⟨1, a0.extract (x6_1 : Int).toNat (x8_25 : Int).toNat, x6_1⟩ : S33)]) x8_25) else (none))) = some (r1, r2, r3) := by rw [if_neg (show ¬ (false = true) by decide)] at H; exact H
                   clear H
                   have H := H1
                   clear H1
                   by_cases c48 : (wrap64 (x8_25 - x6_1)) > 12
                   ·rw [if_pos c48] at H
                    have c48b0 : decide (12 < (wrap64 (x8_25 - x6_1))) = true := decide_eq_true c48
                    clear c48
                    simp only [Option.some.injEq, Prod.mk.injEq] at H
                    obtain ⟨rfl, rfl, rfl⟩ := H
                    go_wp2_with (first | ((with_reducible refine gate_callee (f := 13) rfl ?_); refine goesL_ (some 92) rfl rfl Tryz.func13 (by kernel_rfl) rfl #[.string (a0.extract (x6_1 : Int).toNat (x8_25 : Int).toNat)] rfl (by (try simp only [List.map_toArray, List.map_cons, List.map_nil]); first | done | rfl | (simp only [List.length_drop, List.length_take]; rfl)) ?_; (with_reducible refine (truantref02_Key.calls (a0.extract (x6_1 : Int).toNat (x8_25 : Int).toNat) false _ A38.out).mono ?_); rintro e w49 ⟨rfl, hb⟩; refine ⟨_, rfl, ?_⟩; have n0_ := Aside0.mk (Kd.R_below (by (with_reducible repeat (first | apply Kd.R_alloc | apply Kd.R_drewN | apply Kd.R_drew)); exact HO_5.out) hb); have n1_ := Aside0.mk (below_step (by repeat (first | (with_reducible first | exact HB.out | apply below_alloc | apply pw_below_drewN | apply below_drew1) | exact HB.out)) hb); clear HO_5; clear HB; have HO_5 := n0_; have HB := n1_; clear n0_ n1_; (try clear hb); (try clear hb2); (try clear hk); (try clear hi)))
                    go_ret3
                    exact ⟨_, by first | rfl | (simp [errW_none, errW_some] <;> rfl) | (simp [*, errW_none, errW_some] <;> rfl), by first | exact Kd.R_nil _ _ _ _ _ | exact Kd.N_nil _ _ _ _ _ | exact Kd.V_nil _ _ _ _ _ | exact Kd.Q_nil _ _ _ _ _ | exact Kd.S_nil _ _ _ _ _, by repeat (first | (with_reducible first | exact HB.out | apply below_alloc | apply pw_below_drewN | apply below_drew1) | exact HB.out)⟩
                   ·rw [if_neg c48] at H
                    have c48b0 : decide (12 < (wrap64 (x8_25 - x6_1))) = false := decide_eq_false c48
                    clear c48
                    have c50b0 := eq_true (of_decide_eq_true (by first | (with_reducible assumption) | assumption) : 0 ≤ x6_1)
                    have c51b0 := eq_true (of_decide_eq_true (by first | (with_reducible assumption) | assumption) : x6_1 ≤ x8_25)
                    have c52b0 := eq_true (of_decide_eq_true (by first | (with_reducible assumption) | assumption) : x8_25 ≤ (a0.size : Int))
                    by_cases c53 : x5_1.length < 4398046511104
                    ·rw [if_pos c53] at H
                     have LMc53 := Aside0.mk c53
                     clear c53
                     obtain ⟨y246, hy246⟩ : ∃ y_ : List (S33), y_ = (x5_1 ++ [(⟨1, a0.extract (x6_1 : Int).toNat (x8_25 : Int).toNat, x6_1⟩ : S33)]) := ⟨_, rfl⟩
                     replace H : (truantref02_Scan.l0 kj25 a0 y246 x8_25) = some (r1, r2, r3) := by first | (rw [hy246]; with_reducible exact H) | (have H2_ := (Option.bind_some _ _).symm.trans H; rw [hy246]; with_reducible exact H2_) | (have H2_ := (Option.bind_some _ _).symm.trans H; with_reducible exact H2_) | with_reducible exact H | (rw [hy246]; exact H) | exact H
                     have Ny246 := Aside0.mk hy246
                     clear hy246
                     have H' := Aside0.mk H
                     clear H
                     go_wp2_with (first | ((with_reducible refine gate_callee (f := 13) rfl ?_); refine goesL_ (some 92) rfl rfl Tryz.func13 (by kernel_rfl) rfl #[.string (a0.extract (x6_1 : Int).toNat (x8_25 : Int).toNat)] rfl (by (try simp only [List.map_toArray, List.map_cons, List.map_nil]); first | done | rfl | (simp only [List.length_drop, List.length_take]; rfl)) ?_; (with_reducible refine (truantref02_Key.calls (a0.extract (x6_1 : Int).toNat (x8_25 : Int).toNat) false _ A38.out).mono ?_); rintro e w54 ⟨rfl, hb⟩; refine ⟨_, rfl, ?_⟩; have n0_ := Aside0.mk (Kd.R_below (by (with_reducible repeat (first | apply Kd.R_alloc | apply Kd.R_drewN | apply Kd.R_drew)); exact HO_5.out) hb); have n1_ := Aside0.mk (below_step (by repeat (first | (with_reducible first | exact HB.out | apply below_alloc | apply pw_below_drewN | apply below_drew1) | exact HB.out)) hb); clear HO_5; clear HB; have HO_5 := n0_; have HB := n1_; clear n0_ n1_; (try clear hb); (try clear hb2); (try clear hk); (try clear hi)) | ((with_reducible refine gate_builtin (b := .append) (xs := #[.tmp 144, .tmp 152]) rfl ?_); (try (refine gate_guard (by rfl) ?_; dsimp only)); at_builtin; refine Kd.R_append k33 (w0 := w) w.heap.size rfl (.tmp 144) (.tmp 152) 27 33 (.agg #[(.int .i64 0), (.string ⟨#[]⟩), (.int .i64 0)]) 32 rfl Tryz.underlying27 info33 rfl (by decide) (by omega) u5 x5_1 (⟨1, a0.extract (x6_1 : Int).toNat (x8_25 : Int).toNat, x6_1⟩ : S33) [.int .i64 1, .string (a0.extract (x6_1 : Int).toNat (x8_25 : Int).toNat), .int .i64 x6_1] (fun _ => True) (fun _ => False) rfl rfl ?aP (fun _ hk => hk.elim) ?aF ?aO ?aB ?aS ?aL ?_; (case aP => exact k33_mkM _ _ _ (⟨1, a0.extract (x6_1 : Int).toNat (x8_25 : Int).toNat, x6_1⟩ : S33)); (case aB => exact (by repeat (first | (with_reducible first | exact HB.out | apply below_alloc | apply pw_below_drewN | apply below_drew1) | exact HB.out))); (case aF => exact (fun _ _ => trivial)); (case aO => exact (by (with_reducible repeat (first | apply Kd.R_alloc | apply Kd.R_drewN | apply Kd.R_drew)); exact HO_5.out)); (case aS => exact (below_size (by repeat (first | (with_reducible first | exact HB.out | apply below_alloc | apply pw_below_drewN | apply below_drew1) | exact HB.out)))); (case aL => have := LMc53.out; omega); intro v247 w55 ho hb hg hat; rw [← Ny246.out] at ho; have n0_ := Aside0.mk (hb); have n1_ := Aside0.mk (ho); clear HB; clear HO_5; have HB := n0_; have HO248 := n1_; clear n0_ n1_; clear ho hb hg hat))
                     go_roundg kj25
                     case measure => have := HK1.out; have := HJ7.out; have := HJ12.out; have := HJ25.out; omega
                     case rel => exact ⟨(y246), (x8_25), (by first | rfl | (simp; done) | (simp [*]; done)), H', ⟨by have := HK1.out; have := HJ7.out; have := HJ12.out; have := HJ25.out; omega⟩, ⟨by (with_reducible repeat (first | apply Kd.R_alloc | apply Kd.R_drewN | apply Kd.R_drew)); exact HO248.out⟩, ⟨by repeat (first | (with_reducible first | exact HB.out | apply below_alloc | apply pw_below_drewN | apply below_drew1) | exact HB.out)⟩⟩
                    ·rw [if_neg c53] at H
                     exact absurd H (by simp)
                 ·rw [if_neg c37] at H
                  exact absurd H (by simp)
                ·rw [if_neg c36] at H
                 exact absurd H (by simp)
               ·rw [if_neg c35] at H
                exact absurd H (by simp)
            ·replace c25 := Bool.eq_false_iff.mpr c25
             subst c25
             have H1 : ((truantref02_digit.f (bt a0 x6_1)).bind fun t249 => (if t249 = true then (truantref02_Scan.l3 kj12 a0 x5_1 x6_1 x6_1) else ((truantref02_sign.f kj12 a0 x6_1).bind fun t257 => (if (wrap64 (x6_1 + t257)) = x6_1 then (some (([] : List (S33)), x6_1, 1)) else (if 0 ≤ x6_1 then (if x6_1 ≤ (wrap64 (x6_1 + t257)) then (if (wrap64 (x6_1 + t257)) ≤ (a0.size : Int) then (if x5_1.length < 4398046511104 then (truantref02_Scan.l0 kj12 a0 (x5_1 ++ [(⟨4, a0.extract (x6_1 : Int).toNat ((wrap64 (x6_1 + t257)) : Int).toNat, x6_1⟩ : S33)]) (wrap64 (x6_1 + t257))) else (none)) else (none)) else (none)) else (none)))))) = some (r1, r2, r3) := by rw [if_neg (show ¬ (false = true) by decide)] at H; exact H
             clear H
             have H := H1
             clear H1
             replace H := Option.bind_eq_some_iff.mp H
             obtain ⟨t249, A560, H⟩ := H
             replace H : (if t249 = true then (truantref02_Scan.l3 kj12 a0 x5_1 x6_1 x6_1) else ((truantref02_sign.f kj12 a0 x6_1).bind fun t257 => (if (wrap64 (x6_1 + t257)) = x6_1 then (some (([] : List (S33)), x6_1, 1)) else (if 0 ≤ x6_1 then (if x6_1 ≤ (wrap64 (x6_1 + t257)) then (if (wrap64 (x6_1 + t257)) ≤ (a0.size : Int) then (if x5_1.length < 4398046511104 then (truantref02_Scan.l0 kj12 a0 (x5_1 ++ [(⟨4, a0.extract (x6_1 : Int).toNat ((wrap64 (x6_1 + t257)) : Int).toNat, x6_1⟩ : S33)]) (wrap64 (x6_1 + t257))) else (none)) else (none)) else (none)) else (none))))) = some (r1, r2, r3) := H
             have A56 := Aside0.mk A560
             clear A560
             by_cases c57 : t249 = true
             ·subst c57
              have H1 : (truantref02_Scan.l3 kj12 a0 x5_1 x6_1 x6_1) = some (r1, r2, r3) := by rw [if_pos rfl] at H; exact H
              clear H
              have H := H1
              clear H1
              have HC58 := Aside0.mk H
              clear H
              go_upto_block 6 with (first | ((with_reducible refine gate_callee (f := 19) rfl ?_); refine goesL_ (some 69) rfl rfl Tryz.func19 (by kernel_rfl) rfl #[.int .u8 (bt a0 x6_1)] rfl (by (try simp only [List.map_toArray, List.map_cons, List.map_nil]); first | done | rfl | (simp only [List.length_drop, List.length_take]; rfl)) ?_; (with_reducible refine (truantref02_letter.calls (bt a0 x6_1) false _ A24.out).mono ?_); rintro e w' ⟨rfl, ⟨nd, rfl⟩⟩; refine ⟨_, rfl, ?_⟩) | ((with_reducible refine gate_callee (f := 20) rfl ?_); refine goesL_ (some 99) rfl rfl Tryz.func20 (by kernel_rfl) rfl #[.int .u8 (bt a0 x6_1)] rfl (by (try simp only [List.map_toArray, List.map_cons, List.map_nil]); first | done | rfl | (simp only [List.length_drop, List.length_take]; rfl)) ?_; (with_reducible refine (truantref02_digit.calls (bt a0 x6_1) true _ A56.out).mono ?_); rintro e w' ⟨rfl, ⟨nd, rfl⟩⟩; refine ⟨_, rfl, ?_⟩))
              (try simp only [Act.put, List.setIfInBounds_toArray, List.set_cons_zero, List.set_cons_succ])
              go_cut [8] (fun v8 wc => ∃ (kq : Nat) (x8_57 : Int), v8 = .int .i64 x8_57 ∧ Aside0 (truantref02_Scan.j7 kq a0 x5_1 x6_1 x8_57 = some (r1, r2, r3)) ∧ Aside0 (kq ≤ kj12) ∧ Aside0 (Kd.R k33 33 wc w.heap.size (fun _ => True) u5 x5_1) ∧ Aside0 (Below w.heap.size w wc))
              case first =>
               have H := HC58.out
               clear HC58
               have H' := Aside0.mk H
               clear H
               go_wp2
               go_loopg [8] kj12 (fun kq v8 w' => ∃ (x8_4 : Int), v8 = .int .i64 x8_4 ∧ Aside0 (truantref02_Scan.l3 kq a0 x5_1 x6_1 x8_4 = some (r1, r2, r3)) ∧ Aside0 (kq ≤ kj12) ∧ Aside0 (Kd.R k33 33 w' w.heap.size (fun _ => True) u5 x5_1) ∧ Aside0 (Below w.heap.size w w'))
               case atStart => exact ⟨(x6_1), (by first | rfl | (simp; done) | (simp [*]; done)), H', ⟨Nat.le_refl _⟩, ⟨by (with_reducible repeat (first | apply Kd.R_alloc | apply Kd.R_drewN | apply Kd.R_drew)); exact HO_5.out⟩, ⟨by repeat (first | (with_reducible first | exact HB.out | apply below_alloc | apply pw_below_drewN | apply below_drew1) | exact HB.out)⟩⟩
               case round =>
                clear H'
                try clear c1
                try clear p1
                try clear q1
                try clear hx1
                try clear c2
                try clear c2b0
                try clear c2b1
                try clear p2
                try clear q2
                try clear hx2
                try clear c3
                try clear p3
                try clear q3
                try clear hx3
                try clear c4
                try clear c5
                try clear c5b0
                try clear c6
                try clear c6b0
                try clear p6
                try clear p7
                try clear q7
                try clear hx7
                try clear c9
                try clear c9b0
                try clear c9b1
                try clear c10
                try clear c10b0
                try clear c10b1
                try clear c11
                try clear c11b0
                try clear c11b1
                try clear c12
                try clear c13
                try clear c14
                try clear c14b0
                try clear c14b1
                try clear c15
                try clear c15b0
                try clear c17
                try clear c17b0
                try clear p18
                try clear q18
                try clear hx18
                try clear c19
                try clear c20
                try clear c20b0
                try clear c21
                try clear c21b0
                try clear p22
                try clear q22
                try clear hx22
                try clear c23
                try clear c23b0
                try clear c23b1
                try clear c25
                try clear c27
                try clear c27b0
                try clear c28
                try clear c28b0
                try clear p29
                try clear q29
                try clear hx29
                try clear c31
                try clear p32
                try clear q32
                try clear hx32
                try clear c34
                try clear c35
                try clear c35b0
                try clear c35b1
                try clear c36
                try clear c36b0
                try clear c36b1
                try clear c37
                try clear c37b0
                try clear c37b1
                try clear c39
                try clear c40
                try clear c40b0
                try clear c42
                try clear c42b0
                try clear c43
                try clear c43b0
                try clear c44
                try clear c44b0
                try clear c45
                try clear c48
                try clear c48b0
                try clear c50
                try clear c50b0
                try clear c51
                try clear c51b0
                try clear c52
                try clear c52b0
                try clear c53
                try clear c57
                try clear p1
                try clear p18
                try clear p2
                try clear p22
                try clear p29
                try clear p3
                try clear p32
                try clear p6
                try clear p7
                try clear q1
                try clear q18
                try clear q2
                try clear q22
                try clear q29
                try clear q3
                try clear q32
                try clear q7
                obtain ⟨x8_4, rfl, HA, HK4, HO_5, HB⟩ := hrel
                cases gk with
                | zero => exact absurd HA.out (by simp [truantref02_Scan.l3])
                | succ k4 =>
                 have H := HA.out
                 clear HA
                 simp only [truantref02_Scan.l3] at H
                 by_cases c59 : x8_4 < (a0.size : Int)
                 ·rw [if_pos c59] at H
                  have c59b0 : decide (x8_4 < (a0.size : Int)) = true := decide_eq_true c59
                  clear c59
                  (first | rw [c59b0] | (simp only [i64_w, i32_w]; rw [c59b0]) | skip)
                  by_cases c60 : 0 ≤ x8_4
                  ·rw [if_pos c60] at H
                   have c60b0 : decide (0 ≤ x8_4) = true := decide_eq_true c60
                   clear c60
                   replace H := Option.bind_eq_some_iff.mp H
                   obtain ⟨t250, A620, H⟩ := H
                   replace H : (if t250 = true then (truantref02_Scan.l3 k4 a0 x5_1 x6_1 (wrap64 (x8_4 + 1))) else (truantref02_Scan.j7 k4 a0 x5_1 x6_1 x8_4)) = some (r1, r2, r3) := H
                   have A62 := Aside0.mk A620
                   clear A620
                   by_cases c63 : t250 = true
                   ·subst c63
                    have H1 : (truantref02_Scan.l3 k4 a0 x5_1 x6_1 (wrap64 (x8_4 + 1))) = some (r1, r2, r3) := by rw [if_pos rfl] at H; exact H
                    clear H
                    have H := H1
                    clear H1
                    have H' := Aside0.mk H
                    clear H
                    have p61 : 0 ≤ (x8_4 : Int) := of_decide_eq_true (by first | (with_reducible assumption) | assumption)
                    have q61 : x8_4 < (a0.size : Int) := of_decide_eq_true (by first | (with_reducible assumption) | assumption)
                    have hx61 := bt_at a0 x8_4
                    replace p61 := eq_true p61
                    replace q61 := eq_true q61
                    go_wp2_with (first | (go_at_call 20; (with_reducible refine (truantref02_digit.calls (bt a0 x8_4) true _ A62.out).mono ?_); rintro e w' ⟨rfl, ⟨nd, rfl⟩⟩))
                    go_roundg k4
                    case measure => have := HK1.out; have := HJ7.out; have := HJ12.out; have := HK4.out; omega
                    case rel => exact ⟨(wrap64 (x8_4 + 1)), (by first | rfl | (simp; done) | (simp [*]; done)), H', ⟨by have := HK1.out; have := HJ7.out; have := HJ12.out; have := HK4.out; omega⟩, ⟨by (with_reducible repeat (first | apply Kd.R_alloc | apply Kd.R_drewN | apply Kd.R_drew)); exact HO_5.out⟩, ⟨by repeat (first | (with_reducible first | exact HB.out | apply below_alloc | apply pw_below_drewN | apply below_drew1) | exact HB.out)⟩⟩
                   ·replace c63 := Bool.eq_false_iff.mpr c63
                    subst c63
                    have H1 : (truantref02_Scan.j7 k4 a0 x5_1 x6_1 x8_4) = some (r1, r2, r3) := by rw [if_neg (show ¬ (false = true) by decide)] at H; exact H
                    clear H
                    have H := H1
                    clear H1
                    have H' := Aside0.mk H
                    clear H
                    have p61 : 0 ≤ (x8_4 : Int) := of_decide_eq_true (by first | (with_reducible assumption) | assumption)
                    have q61 : x8_4 < (a0.size : Int) := of_decide_eq_true (by first | (with_reducible assumption) | assumption)
                    have hx61 := bt_at a0 x8_4
                    replace p61 := eq_true p61
                    replace q61 := eq_true q61
                    go_wp2_with (first | (go_at_call 20; (with_reducible refine (truantref02_digit.calls (bt a0 x8_4) false _ A62.out).mono ?_); rintro e w' ⟨rfl, ⟨nd, rfl⟩⟩))
                    go_meet
                    case rel => exact ⟨_, (x8_4), (by first | rfl | (simp; done) | (simp [*]; done)), H', ⟨by have := HK1.out; have := HJ7.out; have := HJ12.out; have := HK4.out; first | omega | exact Nat.le_refl _⟩, ⟨by (with_reducible repeat (first | apply Kd.R_alloc | apply Kd.R_drewN | apply Kd.R_drew)); exact HO_5.out⟩, ⟨by repeat (first | (with_reducible first | exact HB.out | apply below_alloc | apply pw_below_drewN | apply below_drew1) | exact HB.out)⟩⟩
                  ·rw [if_neg c60] at H
                   exact absurd H (by simp)
                 ·rw [if_neg c59] at H
                  have c59b0 : decide (x8_4 < (a0.size : Int)) = false := decide_eq_false c59
                  clear c59
                  (first | rw [c59b0] | (simp only [i64_w, i32_w]; rw [c59b0]) | skip)
                  have H' := Aside0.mk H
                  clear H
                  go_wp2
                  go_meet
                  case rel => exact ⟨_, (x8_4), (by first | rfl | (simp; done) | (simp [*]; done)), H', ⟨by have := HK1.out; have := HJ7.out; have := HJ12.out; have := HK4.out; first | omega | exact Nat.le_refl _⟩, ⟨by (with_reducible repeat (first | apply Kd.R_alloc | apply Kd.R_drewN | apply Kd.R_drew)); exact HO_5.out⟩, ⟨by repeat (first | (with_reducible first | exact HB.out | apply below_alloc | apply pw_below_drewN | apply below_drew1) | exact HB.out)⟩⟩
              case rest =>
               clear HC58
               try clear c1
               try clear p1
               try clear q1
               try clear hx1
               try clear c2
               try clear c2b0
               try clear c2b1
               try clear p2
               try clear q2
               try clear hx2
               try clear c3
               try clear p3
               try clear q3
               try clear hx3
               try clear c4
               try clear c5
               try clear c5b0
               try clear c6
               try clear c6b0
               try clear p6
               try clear q6
               try clear hx6
               try clear p7
               try clear q7
               try clear hx7
               try clear c9
               try clear c9b0
               try clear c9b1
               try clear c10
               try clear c10b0
               try clear c10b1
               try clear c11
               try clear c11b0
               try clear c11b1
               try clear c12
               try clear c13
               try clear c14
               try clear c14b0
               try clear c14b1
               try clear c15
               try clear c15b0
               try clear c17
               try clear c17b0
               try clear p18
               try clear q18
               try clear hx18
               try clear c19
               try clear c20
               try clear c20b0
               try clear c21
               try clear c21b0
               try clear p22
               try clear q22
               try clear hx22
               try clear c23
               try clear c23b0
               try clear c23b1
               try clear c25
               try clear c27
               try clear c27b0
               try clear c28
               try clear c28b0
               try clear p29
               try clear q29
               try clear hx29
               try clear c31
               try clear p32
               try clear q32
               try clear hx32
               try clear c34
               try clear c35
               try clear c35b0
               try clear c35b1
               try clear c36
               try clear c36b0
               try clear c36b1
               try clear c37
               try clear c37b0
               try clear c37b1
               try clear c39
               try clear c40
               try clear c40b0
               try clear c42
               try clear c42b0
               try clear c43
               try clear c43b0
               try clear c44
               try clear c44b0
               try clear c45
               try clear c48
               try clear c48b0
               try clear c50
               try clear c50b0
               try clear c51
               try clear c51b0
               try clear c52
               try clear c52b0
               try clear c53
               try clear c57
               try clear c59
               try clear c59b0
               try clear c60
               try clear c60b0
               try clear p61
               try clear q61
               try clear hx61
               try clear c63
               try clear p1
               try clear p18
               try clear p2
               try clear p22
               try clear p29
               try clear p3
               try clear p32
               try clear p6
               try clear p61
               try clear p7
               try clear q1
               try clear q18
               try clear q2
               try clear q22
               try clear q29
               try clear q3
               try clear q32
               try clear q61
               try clear q7
               obtain ⟨kq, x8_57, rfl, HA, HJ57, HO_5, HB⟩ := hcut
               cases kq with
               | zero => exact absurd HA.out (by simp [truantref02_Scan.j7])
               | succ kj57 =>
                have H := HA.out
                clear HA
                simp only [truantref02_Scan.j7] at H
                have HC64 := Aside0.mk H
                clear H
                go_upto_region 26 with (fail)
                go_cut [121] (fun v121 wc => ∃ (kq : Nat) (x121_63 : Bool), v121 = .bool x121_63 ∧ Aside0 (truantref02_Scan.j8 kq a0 x5_1 x6_1 x8_57 3 x121_63 = some (r1, r2, r3)) ∧ Aside0 (kq ≤ kj57) ∧ Aside0 (Kd.R k33 33 wc w.heap.size (fun _ => True) u5 x5_1) ∧ Aside0 (Below w.heap.size w wc))
                case first =>
                 have H := HC64.out
                 clear HC64
                 by_cases c65 : x8_57 < (a0.size : Int)
                 ·rw [if_pos c65] at H
                  have c65b0 : decide (x8_57 < (a0.size : Int)) = true := decide_eq_true c65
                  clear c65
                  (first | rw [c65b0] | (simp only [i64_w, i32_w]; rw [c65b0]) | skip)
                  by_cases c66 : 0 ≤ x8_57
                  ·rw [if_pos c66] at H
                   have c66b0 : decide (0 ≤ x8_57) = true := decide_eq_true c66
                   clear c66
                   replace H := Option.bind_eq_some_iff.mp H
                   obtain ⟨t251, A680, H⟩ := H
                   replace H : (truantref02_Scan.j8 kj57 a0 x5_1 x6_1 x8_57 3 t251) = some (r1, r2, r3) := H
                   have A68 := Aside0.mk A680
                   clear A680
                   have H' := Aside0.mk H
                   clear H
                   have p67 : 0 ≤ (x8_57 : Int) := of_decide_eq_true (by first | (with_reducible assumption) | assumption)
                   have q67 : x8_57 < (a0.size : Int) := of_decide_eq_true (by first | (with_reducible assumption) | assumption)
                   have hx67 := bt_at a0 x8_57
                   replace p67 := eq_true p67
                   replace q67 := eq_true q67
                   go_wp2_with (first | (go_at_call 19; (with_reducible refine (truantref02_letter.calls (bt a0 x8_57) t251 _ A68.out).mono ?_); rintro e w' ⟨rfl, ⟨nd, rfl⟩⟩))
                   go_meet
                   case rel => exact ⟨_, (t251), (by first | rfl | (simp; done) | (simp [*]; done)), H', ⟨by have := HK1.out; have := HJ7.out; have := HJ12.out; have := HJ57.out; first | omega | exact Nat.le_refl _⟩, ⟨by (with_reducible repeat (first | apply Kd.R_alloc | apply Kd.R_drewN | apply Kd.R_drew)); exact HO_5.out⟩, ⟨by repeat (first | (with_reducible first | exact HB.out | apply below_alloc | apply pw_below_drewN | apply below_drew1) | exact HB.out)⟩⟩
                  ·rw [if_neg c66] at H
                   exact absurd H (by simp)
                 ·rw [if_neg c65] at H
                  have c65b0 : decide (x8_57 < (a0.size : Int)) = false := decide_eq_false c65
                  clear c65
                  (first | rw [c65b0] | (simp only [i64_w, i32_w]; rw [c65b0]) | skip)
                  have H' := Aside0.mk H
                  clear H
                  go_wp2
                  go_meet
                  case rel => exact ⟨_, (false), (by first | rfl | (simp; done) | (simp [*]; done)), H', ⟨by have := HK1.out; have := HJ7.out; have := HJ12.out; have := HJ57.out; first | omega | exact Nat.le_refl _⟩, ⟨by (with_reducible repeat (first | apply Kd.R_alloc | apply Kd.R_drewN | apply Kd.R_drew)); exact HO_5.out⟩, ⟨by repeat (first | (with_reducible first | exact HB.out | apply below_alloc | apply pw_below_drewN | apply below_drew1) | exact HB.out)⟩⟩
                case rest =>
                 clear HC64
                 try clear c1
                 try clear p1
                 try clear q1
                 try clear hx1
                 try clear c2
                 try clear c2b0
                 try clear c2b1
                 try clear p2
                 try clear q2
                 try clear hx2
                 try clear c3
                 try clear p3
                 try clear q3
                 try clear hx3
                 try clear c4
                 try clear c5
                 try clear c5b0
                 try clear c6
                 try clear c6b0
                 try clear p6
                 try clear q6
                 try clear hx6
                 try clear p7
                 try clear q7
                 try clear hx7
                 try clear c9
                 try clear c9b0
                 try clear c9b1
                 try clear c10
                 try clear c10b0
                 try clear c10b1
                 try clear c11
                 try clear c11b0
                 try clear c11b1
                 try clear c12
                 try clear c13
                 try clear c14
                 try clear c14b0
                 try clear c14b1
                 try clear c15
                 try clear c15b0
                 try clear c17
                 try clear c17b0
                 try clear p18
                 try clear q18
                 try clear hx18
                 try clear c19
                 try clear c20
                 try clear c20b0
                 try clear c21
                 try clear c21b0
                 try clear p22
                 try clear q22
                 try clear hx22
                 try clear c23
                 try clear c23b0
                 try clear c23b1
                 try clear c25
                 try clear c27
                 try clear c27b0
                 try clear c28
                 try clear c28b0
                 try clear p29
                 try clear q29
                 try clear hx29
                 try clear c31
                 try clear p32
                 try clear q32
                 try clear hx32
                 try clear c34
                 try clear c35
                 try clear c35b0
                 try clear c35b1
                 try clear c36
                 try clear c36b0
                 try clear c36b1
                 try clear c37
                 try clear c37b0
                 try clear c37b1
                 try clear c39
                 try clear c40
                 try clear c40b0
                 try clear c42
                 try clear c42b0
                 try clear c43
                 try clear c43b0
                 try clear c44
                 try clear c44b0
                 try clear c45
                 try clear c48
                 try clear c48b0
                 try clear c50
                 try clear c50b0
                 try clear c51
                 try clear c51b0
                 try clear c52
                 try clear c52b0
                 try clear c53
                 try clear c57
                 try clear c59
                 try clear c59b0
                 try clear c60
                 try clear c60b0
                 try clear p61
                 try clear q61
                 try clear hx61
                 try clear c63
                 try clear p64
                 try clear c65
                 try clear c65b0
                 try clear c66
                 try clear c66b0
                 try clear p67
                 try clear q67
                 try clear hx67
                 try clear p1
                 try clear p18
                 try clear p2
                 try clear p22
                 try clear p29
                 try clear p3
                 try clear p32
                 try clear p6
                 try clear p61
                 try clear p67
                 try clear p7
                 try clear q1
                 try clear q18
                 try clear q2
                 try clear q22
                 try clear q29
                 try clear q3
                 try clear q32
                 try clear q6
                 try clear q61
                 try clear q67
                 try clear q7
                 obtain ⟨kq, x121_63, rfl, HA, HJ63, HO_5, HB⟩ := hcut
                 cases kq with
                 | zero => exact absurd HA.out (by simp [truantref02_Scan.j8])
                 | succ kj63 =>
                  have H := HA.out
                  clear HA
                  simp only [truantref02_Scan.j8] at H
                  by_cases c69 : x121_63 = true
                  ·subst c69
                   have H1 : (some (([] : List (S33)), x6_1, 1)) = some (r1, r2, r3) := by rw [if_pos rfl] at H; exact H
                   clear H
                   have H := H1
                   clear H1
                   simp only [Option.some.injEq, Prod.mk.injEq] at H
                   obtain ⟨rfl, rfl, rfl⟩ := H
                   go_wp2
                   go_ret3
                   exact ⟨_, by first | rfl | (simp [errW_none, errW_some] <;> rfl) | (simp [*, errW_none, errW_some] <;> rfl), by first | exact Kd.R_nil _ _ _ _ _ | exact Kd.N_nil _ _ _ _ _ | exact Kd.V_nil _ _ _ _ _ | exact Kd.Q_nil _ _ _ _ _ | exact Kd.S_nil _ _ _ _ _, by repeat (first | (with_reducible first | exact HB.out | apply below_alloc | apply pw_below_drewN | apply below_drew1) | exact HB.out)⟩
                  ·replace c69 := Bool.eq_false_iff.mpr c69
                   subst c69
                   have H1 : (if 0 ≤ x6_1 then (if x6_1 ≤ x8_57 then (if x8_57 ≤ (a0.size : Int) then ((truantref01_Parse.f kj63 (a0.extract (x6_1 : Int).toNat (x8_57 : Int).toNat)).bind fun bt252 => (if bt252.2 = 0 then (if x5_1.length < 4398046511104 then (truantref02_Scan.l0 kj63 a0 (x5_1 ++ [(⟨3, a0.extract (x6_1 : Int).toNat (x8_57 : Int).toNat, x6_1⟩ : S33)]) x8_57) else (none)) else (some (([] : List (S33)), x6_1, bt252.2)))) else (none)) else (none)) else (none)) = some (r1, r2, r3) := by rw [if_neg (show ¬ (false = true) by decide)] at H; exact H
                   clear H
                   have H := H1
                   clear H1
                   by_cases c70 : 0 ≤ x6_1
                   ·rw [if_pos c70] at H
                    have c70b0 := eq_true c70
                    have c70b1 : decide (0 ≤ x6_1) = true := decide_eq_true c70
                    clear c70
                    by_cases c71 : x6_1 ≤ x8_57
                    ·rw [if_pos c71] at H
                     have c71b0 := eq_true c71
                     have c71b1 : decide (x6_1 ≤ x8_57) = true := decide_eq_true c71
                     clear c71
                     by_cases c72 : x8_57 ≤ (a0.size : Int)
                     ·rw [if_pos c72] at H
                      have c72b0 := eq_true c72
                      have c72b1 : decide (x8_57 ≤ (a0.size : Int)) = true := decide_eq_true c72
                      clear c72
                      replace H := Option.bind_eq_some_iff.mp H
                      obtain ⟨⟨t252, t253⟩, A730, H⟩ := H
                      replace H : (if t253 = 0 then (if x5_1.length < 4398046511104 then (truantref02_Scan.l0 kj63 a0 (x5_1 ++ [(⟨3, a0.extract (x6_1 : Int).toNat (x8_57 : Int).toNat, x6_1⟩ : S33)]) x8_57) else (none)) else (some (([] : List (S33)), x6_1, t253))) = some (r1, r2, r3) := H
                      have A73 := Aside0.mk A730
                      clear A730
                      by_cases c74 : t253 = 0
                      ·rw [if_pos c74] at H
                       have c74b0 : (t253 == 0) = true := beq_iff_eq.mpr c74
                       have c74b1 : (t253 != 0) = false := bne_eq_false_iff_eq.mpr c74
                       clear c74
                       have c75b0 := eq_true (of_decide_eq_true (by first | (with_reducible assumption) | assumption) : 0 ≤ x6_1)
                       have c76b0 := eq_true (of_decide_eq_true (by first | (with_reducible assumption) | assumption) : x6_1 ≤ x8_57)
                       have c77b0 := eq_true (of_decide_eq_true (by first | (with_reducible assumption) | assumption) : x8_57 ≤ (a0.size : Int))
                       by_cases c78 : x5_1.length < 4398046511104
                       ·rw [if_pos c78] at H
                        have LMc78 := Aside0.mk c78
                        clear c78
                        obtain ⟨y254, hy254⟩ : ∃ y_ : List (S33), y_ = (x5_1 ++ [(⟨3, a0.extract (x6_1 : Int).toNat (x8_57 : Int).toNat, x6_1⟩ : S33)]) := ⟨_, rfl⟩
                        replace H : (truantref02_Scan.l0 kj63 a0 y254 x8_57) = some (r1, r2, r3) := by first | (rw [hy254]; with_reducible exact H) | (have H2_ := (Option.bind_some _ _).symm.trans H; rw [hy254]; with_reducible exact H2_) | (have H2_ := (Option.bind_some _ _).symm.trans H; with_reducible exact H2_) | with_reducible exact H | (rw [hy254]; exact H) | exact H
                        have Ny254 := Aside0.mk hy254
                        clear hy254
                        have H' := Aside0.mk H
                        clear H
                        go_wp2_with (first | ((with_reducible refine gate_callee (f := 21) rfl ?_); refine goesL_ (some 128) rfl rfl Tryz.func21 (by kernel_rfl) rfl #[.string (a0.extract (x6_1 : Int).toNat (x8_57 : Int).toNat)] rfl (by (try simp only [List.map_toArray, List.map_cons, List.map_nil]); first | done | rfl | (simp only [List.length_drop, List.length_take]; rfl)) ?_; (with_reducible refine (truantref01_Parse.calls kj63 (a0.extract (x6_1 : Int).toNat (x8_57 : Int).toNat) t252 t253 _ A73.out).mono ?_); rintro e w' ⟨rfl, ⟨nd, rfl⟩⟩; refine ⟨_, rfl, ?_⟩) | ((with_reducible refine gate_builtin (b := .append) (xs := #[.tmp 144, .tmp 152]) rfl ?_); (try (refine gate_guard (by rfl) ?_; dsimp only)); at_builtin; refine Kd.R_append k33 (w0 := w) w.heap.size rfl (.tmp 144) (.tmp 152) 27 33 (.agg #[(.int .i64 0), (.string ⟨#[]⟩), (.int .i64 0)]) 32 rfl Tryz.underlying27 info33 rfl (by decide) (by omega) u5 x5_1 (⟨3, a0.extract (x6_1 : Int).toNat (x8_57 : Int).toNat, x6_1⟩ : S33) [.int .i64 3, .string (a0.extract (x6_1 : Int).toNat (x8_57 : Int).toNat), .int .i64 x6_1] (fun _ => True) (fun _ => False) rfl rfl ?aP (fun _ hk => hk.elim) ?aF ?aO ?aB ?aS ?aL ?_; (case aP => exact k33_mkM _ _ _ (⟨3, a0.extract (x6_1 : Int).toNat (x8_57 : Int).toNat, x6_1⟩ : S33)); (case aB => exact (by repeat (first | (with_reducible first | exact HB.out | apply below_alloc | apply pw_below_drewN | apply below_drew1) | exact HB.out))); (case aF => exact (fun _ _ => trivial)); (case aO => exact (by (with_reducible repeat (first | apply Kd.R_alloc | apply Kd.R_drewN | apply Kd.R_drew)); exact HO_5.out)); (case aS => exact (below_size (by repeat (first | (with_reducible first | exact HB.out | apply below_alloc | apply pw_below_drewN | apply below_drew1) | exact HB.out)))); (case aL => have := LMc78.out; omega); intro v255 w79 ho hb hg hat; rw [← Ny254.out] at ho; have n0_ := Aside0.mk (hb); have n1_ := Aside0.mk (ho); clear HB; clear HO_5; have HB := n0_; have HO256 := n1_; clear n0_ n1_; clear ho hb hg hat))
                        go_roundg kj63
                        case measure => have := HK1.out; have := HJ7.out; have := HJ12.out; have := HJ57.out; have := HJ63.out; omega
                        case rel => exact ⟨(y254), (x8_57), (by first | rfl | (simp; done) | (simp [*]; done)), H', ⟨by have := HK1.out; have := HJ7.out; have := HJ12.out; have := HJ57.out; have := HJ63.out; omega⟩, ⟨by (with_reducible repeat (first | apply Kd.R_alloc | apply Kd.R_drewN | apply Kd.R_drew)); exact HO256.out⟩, ⟨by repeat (first | (with_reducible first | exact HB.out | apply below_alloc | apply pw_below_drewN | apply below_drew1) | exact HB.out)⟩⟩
                       ·rw [if_neg c78] at H
                        exact absurd H (by simp)
                      ·rw [if_neg c74] at H
                       have c74b0 : (t253 == 0) = false := beq_eq_false_iff_ne.mpr c74
                       have c74b1 : (t253 != 0) = true := bne_iff_ne.mpr c74
                       simp only [Option.some.injEq, Prod.mk.injEq] at H
                       obtain ⟨rfl, rfl, rfl⟩ := H
                       go_wp2_with (first | ((with_reducible refine gate_callee (f := 21) rfl ?_); refine goesL_ (some 128) rfl rfl Tryz.func21 (by kernel_rfl) rfl #[.string (a0.extract (x6_1 : Int).toNat (x8_57 : Int).toNat)] rfl (by (try simp only [List.map_toArray, List.map_cons, List.map_nil]); first | done | rfl | (simp only [List.length_drop, List.length_take]; rfl)) ?_; (with_reducible refine (truantref01_Parse.calls kj63 (a0.extract (x6_1 : Int).toNat (x8_57 : Int).toNat) t252 t253 _ A73.out).mono ?_); rintro e w' ⟨rfl, ⟨nd, rfl⟩⟩; refine ⟨_, rfl, ?_⟩))
                       go_ret3
                       exact ⟨_, by first | rfl | (simp [errW_none, errW_some] <;> rfl) | (simp [*, errW_none, errW_some] <;> rfl), by first | exact Kd.R_nil _ _ _ _ _ | exact Kd.N_nil _ _ _ _ _ | exact Kd.V_nil _ _ _ _ _ | exact Kd.Q_nil _ _ _ _ _ | exact Kd.S_nil _ _ _ _ _, by repeat (first | (with_reducible first | exact HB.out | apply below_alloc | apply pw_below_drewN | apply below_drew1) | exact HB.out)⟩
                     ·rw [if_neg c72] at H
                      exact absurd H (by simp)
                    ·rw [if_neg c71] at H
                     exact absurd H (by simp)
                   ·rw [if_neg c70] at H
                    exact absurd H (by simp)
             ·replace c57 := Bool.eq_false_iff.mpr c57
              subst c57
              have H1 : ((truantref02_sign.f kj12 a0 x6_1).bind fun t257 => (if (wrap64 (x6_1 + t257)) = x6_1 then (some (([] : List (S33)), x6_1, 1)) else (if 0 ≤ x6_1 then (if x6_1 ≤ (wrap64 (x6_1 + t257)) then (if (wrap64 (x6_1 + t257)) ≤ (a0.size : Int) then (if x5_1.length < 4398046511104 then (truantref02_Scan.l0 kj12 a0 (x5_1 ++ [(⟨4, a0.extract (x6_1 : Int).toNat ((wrap64 (x6_1 + t257)) : Int).toNat, x6_1⟩ : S33)]) (wrap64 (x6_1 + t257))) else (none)) else (none)) else (none)) else (none)))) = some (r1, r2, r3) := by rw [if_neg (show ¬ (false = true) by decide)] at H; exact H
              clear H
              have H := H1
              clear H1
              replace H := Option.bind_eq_some_iff.mp H
              obtain ⟨t257, A800, H⟩ := H
              replace H : (if (wrap64 (x6_1 + t257)) = x6_1 then (some (([] : List (S33)), x6_1, 1)) else (if 0 ≤ x6_1 then (if x6_1 ≤ (wrap64 (x6_1 + t257)) then (if (wrap64 (x6_1 + t257)) ≤ (a0.size : Int) then (if x5_1.length < 4398046511104 then (truantref02_Scan.l0 kj12 a0 (x5_1 ++ [(⟨4, a0.extract (x6_1 : Int).toNat ((wrap64 (x6_1 + t257)) : Int).toNat, x6_1⟩ : S33)]) (wrap64 (x6_1 + t257))) else (none)) else (none)) else (none)) else (none))) = some (r1, r2, r3) := H
              have A80 := Aside0.mk A800
              clear A800
              by_cases c81 : (wrap64 (x6_1 + t257)) = x6_1
              ·rw [if_pos c81] at H
               have c81b0 : ((wrap64 (x6_1 + t257)) == x6_1) = true := beq_iff_eq.mpr c81
               have c81b1 : ((wrap64 (x6_1 + t257)) != x6_1) = false := bne_eq_false_iff_eq.mpr c81
               clear c81
               simp only [Option.some.injEq, Prod.mk.injEq] at H
               obtain ⟨rfl, rfl, rfl⟩ := H
               go_wp2_with (first | ((with_reducible refine gate_callee (f := 19) rfl ?_); refine goesL_ (some 69) rfl rfl Tryz.func19 (by kernel_rfl) rfl #[.int .u8 (bt a0 x6_1)] rfl (by (try simp only [List.map_toArray, List.map_cons, List.map_nil]); first | done | rfl | (simp only [List.length_drop, List.length_take]; rfl)) ?_; (with_reducible refine (truantref02_letter.calls (bt a0 x6_1) false _ A24.out).mono ?_); rintro e w' ⟨rfl, ⟨nd, rfl⟩⟩; refine ⟨_, rfl, ?_⟩) | ((with_reducible refine gate_callee (f := 20) rfl ?_); refine goesL_ (some 99) rfl rfl Tryz.func20 (by kernel_rfl) rfl #[.int .u8 (bt a0 x6_1)] rfl (by (try simp only [List.map_toArray, List.map_cons, List.map_nil]); first | done | rfl | (simp only [List.length_drop, List.length_take]; rfl)) ?_; (with_reducible refine (truantref02_digit.calls (bt a0 x6_1) false _ A56.out).mono ?_); rintro e w' ⟨rfl, ⟨nd, rfl⟩⟩; refine ⟨_, rfl, ?_⟩) | ((with_reducible refine gate_callee (f := 22) rfl ?_); refine goesL_ (some 138) rfl rfl Tryz.func22 (by kernel_rfl) rfl #[.string a0, .int .i64 x6_1] rfl (by (try simp only [List.map_toArray, List.map_cons, List.map_nil]); first | done | rfl | (simp only [List.length_drop, List.length_take]; rfl)) ?_; (with_reducible refine (truantref02_sign.calls kj12 a0 x6_1 t257 _ A80.out).mono ?_); rintro e w' ⟨rfl, ⟨nd, rfl⟩⟩; refine ⟨_, rfl, ?_⟩))
               go_ret3
               exact ⟨_, by first | rfl | (simp [errW_none, errW_some] <;> rfl) | (simp [*, errW_none, errW_some] <;> rfl), by first | exact Kd.R_nil _ _ _ _ _ | exact Kd.N_nil _ _ _ _ _ | exact Kd.V_nil _ _ _ _ _ | exact Kd.Q_nil _ _ _ _ _ | exact Kd.S_nil _ _ _ _ _, by repeat (first | (with_reducible first | exact HB.out | apply below_alloc | apply pw_below_drewN | apply below_drew1) | exact HB.out)⟩
              ·rw [if_neg c81] at H
               have c81b0 : ((wrap64 (x6_1 + t257)) == x6_1) = false := beq_eq_false_iff_ne.mpr c81
               have c81b1 : ((wrap64 (x6_1 + t257)) != x6_1) = true := bne_iff_ne.mpr c81
               by_cases c82 : 0 ≤ x6_1
               ·rw [if_pos c82] at H
                have c82b0 := eq_true c82
                have c82b1 : decide (0 ≤ x6_1) = true := decide_eq_true c82
                clear c82
                by_cases c83 : x6_1 ≤ (wrap64 (x6_1 + t257))
                ·rw [if_pos c83] at H
                 have c83b0 := eq_true c83
                 have c83b1 : decide (x6_1 ≤ (wrap64 (x6_1 + t257))) = true := decide_eq_true c83
                 by_cases c84 : (wrap64 (x6_1 + t257)) ≤ (a0.size : Int)
                 ·rw [if_pos c84] at H
                  have c84b0 := eq_true c84
                  have c84b1 : decide ((wrap64 (x6_1 + t257)) ≤ (a0.size : Int)) = true := decide_eq_true c84
                  by_cases c85 : x5_1.length < 4398046511104
                  ·rw [if_pos c85] at H
                   have LMc85 := Aside0.mk c85
                   clear c85
                   obtain ⟨y258, hy258⟩ : ∃ y_ : List (S33), y_ = (x5_1 ++ [(⟨4, a0.extract (x6_1 : Int).toNat ((wrap64 (x6_1 + t257)) : Int).toNat, x6_1⟩ : S33)]) := ⟨_, rfl⟩
                   replace H : (truantref02_Scan.l0 kj12 a0 y258 (wrap64 (x6_1 + t257))) = some (r1, r2, r3) := by first | (rw [hy258]; with_reducible exact H) | (have H2_ := (Option.bind_some _ _).symm.trans H; rw [hy258]; with_reducible exact H2_) | (have H2_ := (Option.bind_some _ _).symm.trans H; with_reducible exact H2_) | with_reducible exact H | (rw [hy258]; exact H) | exact H
                   have Ny258 := Aside0.mk hy258
                   clear hy258
                   have H' := Aside0.mk H
                   clear H
                   go_wp2_with (first | ((with_reducible refine gate_callee (f := 19) rfl ?_); refine goesL_ (some 69) rfl rfl Tryz.func19 (by kernel_rfl) rfl #[.int .u8 (bt a0 x6_1)] rfl (by (try simp only [List.map_toArray, List.map_cons, List.map_nil]); first | done | rfl | (simp only [List.length_drop, List.length_take]; rfl)) ?_; (with_reducible refine (truantref02_letter.calls (bt a0 x6_1) false _ A24.out).mono ?_); rintro e w' ⟨rfl, ⟨nd, rfl⟩⟩; refine ⟨_, rfl, ?_⟩) | ((with_reducible refine gate_callee (f := 20) rfl ?_); refine goesL_ (some 99) rfl rfl Tryz.func20 (by kernel_rfl) rfl #[.int .u8 (bt a0 x6_1)] rfl (by (try simp only [List.map_toArray, List.map_cons, List.map_nil]); first | done | rfl | (simp only [List.length_drop, List.length_take]; rfl)) ?_; (with_reducible refine (truantref02_digit.calls (bt a0 x6_1) false _ A56.out).mono ?_); rintro e w' ⟨rfl, ⟨nd, rfl⟩⟩; refine ⟨_, rfl, ?_⟩) | ((with_reducible refine gate_callee (f := 22) rfl ?_); refine goesL_ (some 138) rfl rfl Tryz.func22 (by kernel_rfl) rfl #[.string a0, .int .i64 x6_1] rfl (by (try simp only [List.map_toArray, List.map_cons, List.map_nil]); first | done | rfl | (simp only [List.length_drop, List.length_take]; rfl)) ?_; (with_reducible refine (truantref02_sign.calls kj12 a0 x6_1 t257 _ A80.out).mono ?_); rintro e w' ⟨rfl, ⟨nd, rfl⟩⟩; refine ⟨_, rfl, ?_⟩) | ((with_reducible refine gate_builtin (b := .append) (xs := #[.tmp 144, .tmp 152]) rfl ?_); (try (refine gate_guard (by rfl) ?_; dsimp only)); at_builtin; refine Kd.R_append k33 (w0 := w) w.heap.size rfl (.tmp 144) (.tmp 152) 27 33 (.agg #[(.int .i64 0), (.string ⟨#[]⟩), (.int .i64 0)]) 32 rfl Tryz.underlying27 info33 rfl (by decide) (by omega) u5 x5_1 (⟨4, a0.extract (x6_1 : Int).toNat ((wrap64 (x6_1 + t257)) : Int).toNat, x6_1⟩ : S33) [.int .i64 4, .string (a0.extract (x6_1 : Int).toNat ((wrap64 (x6_1 + t257)) : Int).toNat), .int .i64 x6_1] (fun _ => True) (fun _ => False) rfl rfl ?aP (fun _ hk => hk.elim) ?aF ?aO ?aB ?aS ?aL ?_; (case aP => exact k33_mkM _ _ _ (⟨4, a0.extract (x6_1 : Int).toNat ((wrap64 (x6_1 + t257)) : Int).toNat, x6_1⟩ : S33)); (case aB => exact (by repeat (first | (with_reducible first | exact HB.out | apply below_alloc | apply pw_below_drewN | apply below_drew1) | exact HB.out))); (case aF => exact (fun _ _ => trivial)); (case aO => exact (by (with_reducible repeat (first | apply Kd.R_alloc | apply Kd.R_drewN | apply Kd.R_drew)); exact HO_5.out)); (case aS => exact (below_size (by repeat (first | (with_reducible first | exact HB.out | apply below_alloc | apply pw_below_drewN | apply below_drew1) | exact HB.out)))); (case aL => have := LMc85.out; omega); intro v259 w86 ho hb hg hat; rw [← Ny258.out] at ho; have n0_ := Aside0.mk (hb); have n1_ := Aside0.mk (ho); clear HB; clear HO_5; have HB := n0_; have HO260 := n1_; clear n0_ n1_; clear ho hb hg hat))
                   go_roundg kj12
                   case measure => have := HK1.out; have := HJ7.out; have := HJ12.out; omega
                   case rel => exact ⟨(y258), (wrap64 (x6_1 + t257)), (by first | rfl | (simp; done) | (simp [*]; done)), H', ⟨by have := HK1.out; have := HJ7.out; have := HJ12.out; omega⟩, ⟨by (with_reducible repeat (first | apply Kd.R_alloc | apply Kd.R_drewN | apply Kd.R_drew)); exact HO260.out⟩, ⟨by repeat (first | (with_reducible first | exact HB.out | apply below_alloc | apply pw_below_drewN | apply below_drew1) | exact HB.out)⟩⟩
                  ·rw [if_neg c85] at H
                   exact absurd H (by simp)
                 ·rw [if_neg c84] at H
                  exact absurd H (by simp)
                ·rw [if_neg c83] at H
                 exact absurd H (by simp)
               ·rw [if_neg c82] at H
                exact absurd H (by simp)
     ·rw [if_neg c6] at H
      exact absurd H (by simp)
    ·rw [if_neg c5] at H
     have c5b0 : decide (x6_1 < (a0.size : Int)) = false := decide_eq_false c5
     clear c5
     simp only [Option.some.injEq, Prod.mk.injEq] at H
     obtain ⟨rfl, rfl, rfl⟩ := H
     go_wp2
     go_ret3
     exact ⟨_, by first | rfl | (simp [errW_none, errW_some] <;> rfl) | (simp [*, errW_none, errW_some] <;> rfl), by (with_reducible repeat (first | apply Kd.R_alloc | apply Kd.R_drewN | apply Kd.R_drew)); exact HO_5.out, by repeat (first | (with_reducible first | exact HB.out | apply below_alloc | apply pw_below_drewN | apply below_drew1) | exact HB.out)⟩

end Go.Proofs.YtcmppjonpmgncaaGreatDoor.Q

namespace Go.Proofs.YtcmppjonpmgncaaGreatDoor.Q
open Go.RowKit Go.Proofs.YtcmppjonpmgncaaGreatDoorW.PrintWords Go.Proofs.YtcmppjonpmgncaaGreatDoorW.PrintLast Go.Proofs.YtcmppjonpmgncaaGreatDoorW.PrintMore
attribute [local go_sem] max2_int min2_int max_two min_two max_three min_three max_four min_four   -- for this text's walks alone
set_option linter.unusedVariables false
set_option linter.unusedSimpArgs false

/-! ### truantref02_Line: function 15 -/
mutual
def truantref02_Line.j0 : Nat → ByteArray → Int → Bool → Option (Int × Int)
 | 0, _, _, _ => none
 | k + 1, x0, x1, x16 => if x16 = true then (some (0, 0)) else (truantref02_Line.l0 k x0 x1 1 1 0)
def truantref02_Line.l0 : Nat → ByteArray → Int → Int → Int → Int → Option (Int × Int)
 | 0, _, _, _, _, _ => none
 | k + 1, x0, x1, x6, x7, x8 => if x8 < x1 then (if 0 ≤ x8 then (if x8 < (x0.size : Int) then (if (bt x0 x8) = 10 then (truantref02_Line.l0 k x0 x1 (wrap64 (x6 + 1)) 1 (wrap64 (x8 + 1))) else (truantref02_Line.l0 k x0 x1 x6 (wrap64 (x7 + 1)) (wrap64 (x8 + 1)))) else (none)) else (none)) else (some (x6, x7))
end
def truantref02_Line.f (k : Nat) (a0 : ByteArray) (a1 : Int) : Option (Int × Int) := if a1 < 0 then (truantref02_Line.j0 k a0 a1 true) else (truantref02_Line.j0 k a0 a1 (decide (a1 > (a0.size : Int))))
theorem truantref02_Line.mono_l : ∀ k, (∀ y0 y1 y2, LeO (truantref02_Line.j0 k y0 y1 y2) (truantref02_Line.j0 (k + 1) y0 y1 y2)) ∧ (∀ y0 y1 y2 y3 y4, LeO (truantref02_Line.l0 k y0 y1 y2 y3 y4) (truantref02_Line.l0 (k + 1) y0 y1 y2 y3 y4))
 | 0 => ⟨fun _ _ _ r h => by simp [truantref02_Line.j0] at h, fun _ _ _ _ _ r h => by simp [truantref02_Line.l0] at h⟩
 | k + 1 => by
  obtain ⟨ih0, ih1⟩ := truantref02_Line.mono_l k
  refine ⟨?_, ?_⟩
  ·intro y0 y1 y2
   unfold truantref02_Line.j0
   repeat' first
   | (with_reducible exact ih0 _ _ _)
   | (with_reducible exact ih1 _ _ _ _ _)
   | (with_reducible exact LeO.refl _)
   | (with_reducible exact LeO.none _)
   | (with_reducible refine LeO.ite ?_ ?_)
   | (with_reducible refine LeO.bind ?_ (fun _ => ?_))
   | exact ih0 _ _ _
   | exact ih1 _ _ _ _ _
   | exact LeO.none _
   | refine LeO.ite ?_ ?_
   | refine LeO.bind ?_ (fun _ => ?_)
  ·intro y0 y1 y2 y3 y4
   unfold truantref02_Line.l0
   repeat' first
   | (with_reducible exact ih0 _ _ _)
   | (with_reducible exact ih1 _ _ _ _ _)
   | (with_reducible exact LeO.refl _)
   | (with_reducible exact LeO.none _)
   | (with_reducible refine LeO.ite ?_ ?_)
   | (with_reducible refine LeO.bind ?_ (fun _ => ?_))
   | exact ih0 _ _ _
   | exact ih1 _ _ _ _ _
   | exact LeO.none _
   | refine LeO.ite ?_ ?_
   | refine LeO.bind ?_ (fun _ => ?_)
theorem truantref02_Line.mono : ∀ a0 a1 k, LeO (truantref02_Line.f k a0 a1) (truantref02_Line.f (k + 1) a0 a1) := by
 intro a0 a1 k
 obtain ⟨ih0, ih1⟩ := truantref02_Line.mono_l k
 unfold truantref02_Line.f
 repeat' first
   | (with_reducible exact ih0 _ _ _)
   | (with_reducible exact ih1 _ _ _ _ _)
   | (with_reducible exact LeO.refl _)
   | (with_reducible exact LeO.none _)
   | (with_reducible refine LeO.ite ?_ ?_)
   | (with_reducible refine LeO.bind ?_ (fun _ => ?_))
   | exact ih0 _ _ _
   | exact ih1 _ _ _ _ _
   | exact LeO.none _
   | refine LeO.ite ?_ ?_
   | refine LeO.bind ?_ (fun _ => ?_)
set_option maxHeartbeats 8000000 in
set_option maxRecDepth 100000 in
theorem truantref02_Line.calls (k : Nat) (a0 : ByteArray) (a1 : Int) (r1 : Int) (r2 : Int) (w : World) (h : truantref02_Line.f k a0 a1 = some (r1, r2)) :
  Calls Tryz.prog 15 #[.string a0, .int .i64 a1] w fun e w' => e = .returned (.tuple #[.int .i64 r1, .int .i64 r2]) ∧ Drawn0 w w' := by
 have H : (if a1 < 0 then (truantref02_Line.j0 k a0 a1 true) else (truantref02_Line.j0 k a0 a1 (decide (a1 > (a0.size : Int))))) = some (r1, r2) := h
 clear h
 have HC3 := Aside0.mk H
 clear H
 go_enter Tryz.func15, Tryz.ntmps15
 go_upto_region 1 with (fail)
 go_cut [16] (fun v16 wc => ∃ (kq : Nat) (x16_2 : Bool), v16 = .bool x16_2 ∧ Aside0 (truantref02_Line.j0 kq a0 a1 x16_2 = some (r1, r2)) ∧ Aside0 (kq ≤ k) ∧ Drawn0 w wc)
 case first =>
  have H := HC3.out
  clear HC3
  by_cases c4 : a1 < 0
  ·rw [if_pos c4] at H
   have c4b0 : decide (a1 < 0) = true := decide_eq_true c4
   clear c4
   (first | rw [c4b0] | (simp only [i64_w, i32_w]; rw [c4b0]) | skip)
   have H' := Aside0.mk H
   clear H
   go_wp2
   go_meet
   case rel => exact ⟨_, (true), (by first | rfl | (simp; done) | (simp [*]; done)), H', ⟨by first | omega | exact Nat.le_refl _⟩, by repeat (first | exact Drawn0.refl _ | apply Drawn0.step)⟩
  ·rw [if_neg c4] at H
   have c4b0 : decide (a1 < 0) = false := decide_eq_false c4
   clear c4
   (first | rw [c4b0] | (simp only [i64_w, i32_w]; rw [c4b0]) | skip)
   have H' := Aside0.mk H
   clear H
   go_wp2
   go_meet
   case rel => exact ⟨_, (decide (a1 > (a0.size : Int))), (by first | rfl | (simp; done) | (simp [*]; done)), H', ⟨by first | omega | exact Nat.le_refl _⟩, by repeat (first | exact Drawn0.refl _ | apply Drawn0.step)⟩
 case rest =>
  clear HC3
  try clear c1
  try clear p2
  try clear c4
  try clear c4b0
  obtain ⟨kq, x16_2, rfl, HA, HJ2, ⟨mc2, rfl⟩⟩ := hcut
  cases kq with
  | zero => exact absurd HA.out (by simp [truantref02_Line.j0])
  | succ kj2 =>
   have H := HA.out
   clear HA
   simp only [truantref02_Line.j0] at H
   by_cases c5 : x16_2 = true
   ·subst c5
    have H1 : (some (0, 0)) = some (r1, r2) := by rw [if_pos rfl] at H; exact H
    clear H
    have H := H1
    clear H1
    simp only [Option.some.injEq, Prod.mk.injEq] at H
    obtain ⟨rfl, rfl⟩ := H
    go_wp2
    go_ret2
    exact ⟨by first | rfl | (simp; done) | (simp [*]; done), by repeat (first | exact Drawn0.refl _ | apply Drawn0.step)⟩
   ·replace c5 := Bool.eq_false_iff.mpr c5
    subst c5
    have H1 : (truantref02_Line.l0 kj2 a0 a1 1 1 0) = some (r1, r2) := by rw [if_neg (show ¬ (false = true) by decide)] at H; exact H
    clear H
    have H := H1
    clear H1
    have H' := Aside0.mk H
    clear H
    go_wp2
    go_loopg [6, 7, 8] kj2 (fun kq v6 v7 v8 w' => ∃ (x6_2 : Int) (x7_2 : Int) (x8_2 : Int), v6 = .int .i64 x6_2 ∧ v7 = .int .i64 x7_2 ∧ v8 = .int .i64 x8_2 ∧ Aside0 (truantref02_Line.l0 kq a0 a1 x6_2 x7_2 x8_2 = some (r1, r2)) ∧ Aside0 (kq ≤ kj2) ∧ Drawn0 w w')
    case atStart => exact ⟨(1), (1), (0), (by first | rfl | (simp; done) | (simp [*]; done)), (by first | rfl | (simp; done) | (simp [*]; done)), (by first | rfl | (simp; done) | (simp [*]; done)), H', ⟨Nat.le_refl _⟩, by repeat (first | exact Drawn0.refl _ | apply Drawn0.step)⟩
    case round =>
     clear H'
     try clear c1
     try clear c2
     try clear p2
     try clear c4
     try clear c4b0
     try clear c5
     try clear p2
     obtain ⟨x6_2, x7_2, x8_2, rfl, rfl, rfl, HA, HK2, ⟨m2, rfl⟩⟩ := hrel
     cases gk with
     | zero => exact absurd HA.out (by simp [truantref02_Line.l0])
     | succ k2 =>
      have H := HA.out
      clear HA
      simp only [truantref02_Line.l0] at H
      by_cases c6 : x8_2 < a1
      ·rw [if_pos c6] at H
       have c6b0 : decide (x8_2 < a1) = true := decide_eq_true c6
       clear c6
       by_cases c7 : 0 ≤ x8_2
       ·rw [if_pos c7] at H
        have c7b0 : decide (0 ≤ x8_2) = true := decide_eq_true c7
        clear c7
        by_cases c8 : x8_2 < (a0.size : Int)
        ·rw [if_pos c8] at H
         have c8b0 : decide (x8_2 < (a0.size : Int)) = true := decide_eq_true c8
         clear c8
         by_cases c10 : (bt a0 x8_2) = 10
         ·rw [if_pos c10] at H
          have c10b0 : ((bt a0 x8_2) == 10) = true := beq_iff_eq.mpr c10
          have c10b1 : ((bt a0 x8_2) != 10) = false := bne_eq_false_iff_eq.mpr c10
          clear c10
          have H' := Aside0.mk H
          clear H
          have p9 : 0 ≤ (x8_2 : Int) := of_decide_eq_true (by first | (with_reducible assumption) | assumption)
          have q9 : x8_2 < (a0.size : Int) := of_decide_eq_true (by first | (with_reducible assumption) | assumption)
          have hx9 := bt_at a0 x8_2
          replace p9 := eq_true p9
          replace q9 := eq_true q9
          go_wp2
          go_roundg k2
          case measure => have := HJ2.out; have := HK2.out; omega
          case rel => exact ⟨(wrap64 (x6_2 + 1)), (1), (wrap64 (x8_2 + 1)), (by first | rfl | (simp; done) | (simp [*]; done)), (by first | rfl | (simp; done) | (simp [*]; done)), (by first | rfl | (simp; done) | (simp [*]; done)), H', ⟨by have := HJ2.out; have := HK2.out; omega⟩, by repeat (first | exact Drawn0.refl _ | apply Drawn0.step)⟩
         ·rw [if_neg c10] at H
          have c10b0 : ((bt a0 x8_2) == 10) = false := beq_eq_false_iff_ne.mpr c10
          have c10b1 : ((bt a0 x8_2) != 10) = true := bne_iff_ne.mpr c10
          have H' := Aside0.mk H
          clear H
          have p9 : 0 ≤ (x8_2 : Int) := of_decide_eq_true (by first | (with_reducible assumption) | assumption)
          have q9 : x8_2 < (a0.size : Int) := of_decide_eq_true (by first | (with_reducible assumption) | assumption)
          have hx9 := bt_at a0 x8_2
          replace p9 := eq_true p9
          replace q9 := eq_true q9
          go_wp2
          go_roundg k2
          case measure => have := HJ2.out; have := HK2.out; omega
          case rel => exact ⟨(x6_2), (wrap64 (x7_2 + 1)), (wrap64 (x8_2 + 1)), (by first | rfl | (simp; done) | (simp [*]; done)), (by first | rfl | (simp; done) | (simp [*]; done)), (by first | rfl | (simp; done) | (simp [*]; done)), H', ⟨by have := HJ2.out; have := HK2.out; omega⟩, by repeat (first | exact Drawn0.refl _ | apply Drawn0.step)⟩
        ·rw [if_neg c8] at H
         exact absurd H (by simp)
       ·rw [if_neg c7] at H
        exact absurd H (by simp)
      ·rw [if_neg c6] at H
       have c6b0 : decide (x8_2 < a1) = false := decide_eq_false c6
       clear c6
       simp only [Option.some.injEq, Prod.mk.injEq] at H
       obtain ⟨rfl, rfl⟩ := H
       go_wp2
       go_ret2
       exact ⟨by first | rfl | (simp; done) | (simp [*]; done), by repeat (first | exact Drawn0.refl _ | apply Drawn0.step)⟩

end Go.Proofs.YtcmppjonpmgncaaGreatDoor.Q

namespace Go.Proofs.YtcmppjonpmgncaaGreatDoor.Q
open Go.RowKit Go.Proofs.YtcmppjonpmgncaaGreatDoorW.PrintWords Go.Proofs.YtcmppjonpmgncaaGreatDoorW.PrintLast Go.Proofs.YtcmppjonpmgncaaGreatDoorW.PrintMore
attribute [local go_sem] max2_int min2_int max_two min_two max_three min_three max_four min_four   -- for this text's walks alone
set_option linter.unusedVariables false
set_option linter.unusedSimpArgs false

/-! ### truantlaw02_LexExact: function 3 -/
def truantlaw02_LexExact.l0 : Nat → ByteArray → Int → List (S32) → List (S33) → Int → Option (Bool)
 | 0, _, _, _, _, _ => none
 | k + 1, x0, x1, x5, x8, x11 => if x11 < (x8.length : Int) then (if 0 ≤ x11 then (if x11 < (x5.length : Int) then (if ((rd_T32 x5 x11).f0) = ((rd_T33 x8 x11).f0) then (if ((rd_T32 x5 x11).f1).toList = ((rd_T33 x8 x11).f1).toList then (if ((rd_T32 x5 x11).f2) = ((rd_T33 x8 x11).f2) then (truantlaw02_LexExact.l0 k x0 x1 x5 x8 (wrap64 (x11 + 1))) else (none)) else (none)) else (none)) else (none)) else (none)) else ((lex_Line.f k x0 x1).bind fun bt286 => ((truantref02_Line.f k x0 x1).bind fun bt288 => (if bt286.1 = bt288.1 then (some (bt286.2 == bt288.2)) else (none))))
def truantlaw02_LexExact.f (k : Nat) (a0 : ByteArray) (a1 : Int) : Option (Bool) := (truantlaw02_awake.f k).bind fun t265 => (if t265 = true then (if (a0.size : Int) > 4106 then (some true) else ((lex_Scan.f k a0).bind fun bt266 => ((truantref02_Scan.f k a0).bind fun bt271 => (if bt266.2.1 = bt271.2.1 then (if bt266.2.2 = bt271.2.2 then (if (bt266.1.length : Int) = (bt271.1.length : Int) then ((lex_IsWord.f k a0).bind fun t276 => ((truantref02_Word.f k a0).bind fun t277 => (if (t276 != t277) = true then (none) else ((lex_IsKey.f k a0).bind fun t278 => ((truantref02_Key.f a0).bind fun t279 => (if (t278 != t279) = true then (none) else (truantlaw02_LexExact.l0 k a0 a1 bt266.1 bt271.1 0))))))) else (none)) else (none)) else (none))))) else (none))
theorem truantlaw02_LexExact.mono_l : ∀ k, (∀ y0 y1 y2 y3 y4, LeO (truantlaw02_LexExact.l0 k y0 y1 y2 y3 y4) (truantlaw02_LexExact.l0 (k + 1) y0 y1 y2 y3 y4))
 | 0 => fun _ _ _ _ _ r h => by simp [truantlaw02_LexExact.l0] at h
 | k + 1 => by
  have ih0 := truantlaw02_LexExact.mono_l k
  ·intro y0 y1 y2 y3 y4
   unfold truantlaw02_LexExact.l0
   repeat' first
   | (with_reducible exact ih0 _ _ _ _ _)
   | (with_reducible exact lex_IsKey.mono _ _)
   | (with_reducible exact lex_IsWord.mono _ _)
   | (with_reducible exact lex_Line.mono _ _ _)
   | (with_reducible exact lex_Scan.mono _ _)
   | (with_reducible exact truantlaw02_awake.mono _)
   | (with_reducible exact truantref02_Line.mono _ _ _)
   | (with_reducible exact truantref02_Scan.mono _ _)
   | (with_reducible exact truantref02_Word.mono _ _)
   | (with_reducible exact LeO.refl _)
   | (with_reducible exact LeO.none _)
   | (with_reducible refine LeO.ite ?_ ?_)
   | (with_reducible refine LeO.bind ?_ (fun _ => ?_))
   | exact ih0 _ _ _ _ _
   | exact lex_IsKey.mono _ _
   | exact lex_IsWord.mono _ _
   | exact lex_Line.mono _ _ _
   | exact lex_Scan.mono _ _
   | exact truantlaw02_awake.mono _
   | exact truantref02_Line.mono _ _ _
   | exact truantref02_Scan.mono _ _
   | exact truantref02_Word.mono _ _
   | exact LeO.none _
   | refine LeO.ite ?_ ?_
   | refine LeO.bind ?_ (fun _ => ?_)
theorem truantlaw02_LexExact.mono : ∀ a0 a1 k, LeO (truantlaw02_LexExact.f k a0 a1) (truantlaw02_LexExact.f (k + 1) a0 a1) := by
 intro a0 a1 k
 have ih0 := truantlaw02_LexExact.mono_l k
 unfold truantlaw02_LexExact.f
 repeat' first
   | (with_reducible exact ih0 _ _ _ _ _)
   | (with_reducible exact lex_IsKey.mono _ _)
   | (with_reducible exact lex_IsWord.mono _ _)
   | (with_reducible exact lex_Line.mono _ _ _)
   | (with_reducible exact lex_Scan.mono _ _)
   | (with_reducible exact truantlaw02_awake.mono _)
   | (with_reducible exact truantref02_Line.mono _ _ _)
   | (with_reducible exact truantref02_Scan.mono _ _)
   | (with_reducible exact truantref02_Word.mono _ _)
   | (with_reducible exact LeO.refl _)
   | (with_reducible exact LeO.none _)
   | (with_reducible refine LeO.ite ?_ ?_)
   | (with_reducible refine LeO.bind ?_ (fun _ => ?_))
   | exact ih0 _ _ _ _ _
   | exact lex_IsKey.mono _ _
   | exact lex_IsWord.mono _ _
   | exact lex_Line.mono _ _ _
   | exact lex_Scan.mono _ _
   | exact truantlaw02_awake.mono _
   | exact truantref02_Line.mono _ _ _
   | exact truantref02_Scan.mono _ _
   | exact truantref02_Word.mono _ _
   | exact LeO.none _
   | refine LeO.ite ?_ ?_
   | refine LeO.bind ?_ (fun _ => ?_)
set_option maxHeartbeats 8000000 in
set_option maxRecDepth 100000 in
theorem truantlaw02_LexExact.calls (k : Nat) (a0 : ByteArray) (a1 : Int) (r : Bool) (w : World) (h : truantlaw02_LexExact.f k a0 a1 = some r) (hG : Glob w := by first | assumption | (refine Glob.below (by assumption) ?_; repeat (first | exact (Aside0.out (by assumption)) | (refine below_set ?_ (Aside0.out (by assumption))) | (with_reducible first | apply below_alloc | apply pw_below_drewN | apply below_drew1)))) :
  Calls Tryz.prog 3 #[.string a0, .int .i64 a1] w fun e w' => e = .returned (.bool r) ∧ Below w.heap.size w w' := by
 have HB := Aside0.mk (Below.refl w.heap.size w)
 have H : ((truantlaw02_awake.f k).bind fun t265 => (if t265 = true then (if (a0.size : Int) > 4106 then (some true) else ((lex_Scan.f k a0).bind fun bt266 => ((truantref02_Scan.f k a0).bind fun bt271 => (if bt266.2.1 = bt271.2.1 then (if bt266.2.2 = bt271.2.2 then (if (bt266.1.length : Int) = (bt271.1.length : Int) then ((lex_IsWord.f k a0).bind fun t276 => ((truantref02_Word.f k a0).bind fun t277 => (if (t276 != t277) = true then (none) else ((lex_IsKey.f k a0).bind fun t278 => ((truantref02_Key.f a0).bind fun t279 => (if (t278 != t279) = true then (none) else (truantlaw02_LexExact.l0 k a0 a1 bt266.1 bt271.1 0))))))) else (none)) else (none)) else (none))))) else (none))) = some r := h
 clear h
 replace H := Option.bind_eq_some_iff.mp H
 obtain ⟨t265, A30, H⟩ := H
 replace H : (if t265 = true then (if (a0.size : Int) > 4106 then (some true) else ((lex_Scan.f k a0).bind fun bt266 => ((truantref02_Scan.f k a0).bind fun bt271 => (if bt266.2.1 = bt271.2.1 then (if bt266.2.2 = bt271.2.2 then (if (bt266.1.length : Int) = (bt271.1.length : Int) then ((lex_IsWord.f k a0).bind fun t276 => ((truantref02_Word.f k a0).bind fun t277 => (if (t276 != t277) = true then (none) else ((lex_IsKey.f k a0).bind fun t278 => ((truantref02_Key.f a0).bind fun t279 => (if (t278 != t279) = true then (none) else (truantlaw02_LexExact.l0 k a0 a1 bt266.1 bt271.1 0))))))) else (none)) else (none)) else (none))))) else (none)) = some r := H
 have A3 := Aside0.mk A30
 clear A30
 by_cases c4 : t265 = true
 ·subst c4
  have H1 : (if (a0.size : Int) > 4106 then (some true) else ((lex_Scan.f k a0).bind fun bt266 => ((truantref02_Scan.f k a0).bind fun bt271 => (if bt266.2.1 = bt271.2.1 then (if bt266.2.2 = bt271.2.2 then (if (bt266.1.length : Int) = (bt271.1.length : Int) then ((lex_IsWord.f k a0).bind fun t276 => ((truantref02_Word.f k a0).bind fun t277 => (if (t276 != t277) = true then (none) else ((lex_IsKey.f k a0).bind fun t278 => ((truantref02_Key.f a0).bind fun t279 => (if (t278 != t279) = true then (none) else (truantlaw02_LexExact.l0 k a0 a1 bt266.1 bt271.1 0))))))) else (none)) else (none)) else (none))))) = some r := by rw [if_pos rfl] at H; exact H
  clear H
  have H := H1
  clear H1
  by_cases c5 : (a0.size : Int) > 4106
  ·rw [if_pos c5] at H
   have c5b0 : decide (4106 < (a0.size : Int)) = true := decide_eq_true c5
   have c5b1 : decide (4106 < a0.size) = true := decide_eq_true (by omega)
   clear c5
   obtain rfl := Option.some.inj H
   go_enter Tryz.func3, Tryz.ntmps3
   go_wp2_with (first | (go_at_call 7; (with_reducible refine (truantlaw02_awake.calls k  true _ A3.out).mono ?_); rintro e w6 ⟨rfl, hb⟩; have n0_ := Aside0.mk (below_step (by repeat (first | (with_reducible first | exact HB.out | apply below_alloc | apply pw_below_drewN | apply below_drew1) | exact HB.out)) hb); clear HB; have HB := n0_; clear n0_; (try clear hb); (try clear hb2); (try clear hk); (try clear hi)))
   repeat (go_quiet (first | (go_at_call 7; (with_reducible refine (truantlaw02_awake.calls k  true _ A3.out).mono ?_); rintro e w6 ⟨rfl, hb⟩; have n0_ := Aside0.mk (below_step (by repeat (first | (with_reducible first | exact HB.out | apply below_alloc | apply pw_below_drewN | apply below_drew1) | exact HB.out)) hb); clear HB; have HB := n0_; clear n0_; (try clear hb); (try clear hb2); (try clear hk); (try clear hi))); try go_wp2_with (first | (go_at_call 7; (with_reducible refine (truantlaw02_awake.calls k  true _ A3.out).mono ?_); rintro e w6 ⟨rfl, hb⟩; have n0_ := Aside0.mk (below_step (by repeat (first | (with_reducible first | exact HB.out | apply below_alloc | apply pw_below_drewN | apply below_drew1) | exact HB.out)) hb); clear HB; have HB := n0_; clear n0_; (try clear hb); (try clear hb2); (try clear hk); (try clear hi))))
   go_ret
   exact ⟨by first | rfl | (simp [errW_none, errW_some] <;> rfl) | (simp [*, errW_none, errW_some] <;> rfl), by repeat (first | (with_reducible first | exact HB.out | apply below_alloc | apply pw_below_drewN | apply below_drew1) | exact HB.out)⟩
  ·rw [if_neg c5] at H
   have c5b0 : decide (4106 < (a0.size : Int)) = false := decide_eq_false c5
   have c5b1 : decide (4106 < a0.size) = false := decide_eq_false (by omega)
   clear c5
   replace H := Option.bind_eq_some_iff.mp H
   obtain ⟨⟨t266, t267, t268⟩, A70, H⟩ := H
   replace H : ((truantref02_Scan.f k a0).bind fun bt271 => (if t267 = bt271.2.1 then (if t268 = bt271.2.2 then (if (t266.length : Int) = (bt271.1.length : Int) then ((lex_IsWord.f k a0).bind fun t276 => ((truantref02_Word.f k a0).bind fun t277 => (if (t276 != t277) = true then (none) else ((lex_IsKey.f k a0).bind fun t278 => ((truantref02_Key.f a0).bind fun t279 => (if (t278 != t279) = true then (none) else (truantlaw02_LexExact.l0 k a0 a1 t266 bt271.1 0))))))) else (none)) else (none)) else (none))) = some r := H
   have A7 := Aside0.mk A70
   clear A70
   replace H := Option.bind_eq_some_iff.mp H
   obtain ⟨⟨t271, t272, t273⟩, A80, H⟩ := H
   replace H : (if t267 = t272 then (if t268 = t273 then (if (t266.length : Int) = (t271.length : Int) then ((lex_IsWord.f k a0).bind fun t276 => ((truantref02_Word.f k a0).bind fun t277 => (if (t276 != t277) = true then (none) else ((lex_IsKey.f k a0).bind fun t278 => ((truantref02_Key.f a0).bind fun t279 => (if (t278 != t279) = true then (none) else (truantlaw02_LexExact.l0 k a0 a1 t266 t271 0))))))) else (none)) else (none)) else (none)) = some r := H
   have A8 := Aside0.mk A80
   clear A80
   by_cases c9 : t267 = t272
   ·rw [if_pos c9] at H
    have c9b0 : (t267 == t272) = true := beq_iff_eq.mpr c9
    have c9b1 : (t267 != t272) = false := bne_eq_false_iff_eq.mpr c9
    clear c9
    by_cases c10 : t268 = t273
    ·rw [if_pos c10] at H
     have c10b0 : (t268 == t273) = true := beq_iff_eq.mpr c10
     have c10b1 : (t268 != t273) = false := bne_eq_false_iff_eq.mpr c10
     clear c10
     by_cases c11 : (t266.length : Int) = (t271.length : Int)
     ·rw [if_pos c11] at H
      have c11b0 : ((t266.length : Int) == (t271.length : Int)) = true := beq_iff_eq.mpr c11
      have c11b1 : ((t266.length : Int) != (t271.length : Int)) = false := bne_eq_false_iff_eq.mpr c11
      have c11b2 : (t266.length == t271.length) = true := by first | simpa using c11 | (simp at c11 ⊢; omega)
      clear c11
      replace H := Option.bind_eq_some_iff.mp H
      obtain ⟨t276, A120, H⟩ := H
      replace H : ((truantref02_Word.f k a0).bind fun t277 => (if (t276 != t277) = true then (none) else ((lex_IsKey.f k a0).bind fun t278 => ((truantref02_Key.f a0).bind fun t279 => (if (t278 != t279) = true then (none) else (truantlaw02_LexExact.l0 k a0 a1 t266 t271 0)))))) = some r := H
      have A12 := Aside0.mk A120
      clear A120
      replace H := Option.bind_eq_some_iff.mp H
      obtain ⟨t277, A130, H⟩ := H
      replace H : (if (t276 != t277) = true then (none) else ((lex_IsKey.f k a0).bind fun t278 => ((truantref02_Key.f a0).bind fun t279 => (if (t278 != t279) = true then (none) else (truantlaw02_LexExact.l0 k a0 a1 t266 t271 0))))) = some r := H
      have A13 := Aside0.mk A130
      clear A130
      by_cases c14 : (t276 != t277) = true
      ·rw [if_pos c14] at H
       exact absurd H (by simp)
      ·rw [if_neg c14] at H
       have c14b0 : (t276 != t277) = false := by simpa using c14
       (try (have c14b1 : decide (t276 = t277) = true := by simpa using c14))
       (try (have c14b2 : (t276 == t277) = true := by simpa using c14))
       clear c14
       replace H := Option.bind_eq_some_iff.mp H
       obtain ⟨t278, A150, H⟩ := H
       replace H : ((truantref02_Key.f a0).bind fun t279 => (if (t278 != t279) = true then (none) else (truantlaw02_LexExact.l0 k a0 a1 t266 t271 0))) = some r := H
       have A15 := Aside0.mk A150
       clear A150
       replace H := Option.bind_eq_some_iff.mp H
       obtain ⟨t279, A160, H⟩ := H
       replace H : (if (t278 != t279) = true then (none) else (truantlaw02_LexExact.l0 k a0 a1 t266 t271 0)) = some r := H
       have A16 := Aside0.mk A160
       clear A160
       by_cases c17 : (t278 != t279) = true
       ·rw [if_pos c17] at H
        exact absurd H (by simp)
       ·rw [if_neg c17] at H
        have c17b0 : (t278 != t279) = false := by simpa using c17
        (try (have c17b1 : decide (t278 = t279) = true := by simpa using c17))
        (try (have c17b2 : (t278 == t279) = true := by simpa using c17))
        clear c17
        have H' := Aside0.mk H
        clear H
        go_enter Tryz.func3, Tryz.ntmps3
        go_wp2_with (first | (go_at_call 7; (with_reducible refine (truantlaw02_awake.calls k  true _ A3.out).mono ?_); rintro e w18 ⟨rfl, hb⟩; have n0_ := Aside0.mk (below_step (by repeat (first | (with_reducible first | exact HB.out | apply below_alloc | apply pw_below_drewN | apply below_drew1) | exact HB.out)) hb); clear HB; have HB := n0_; clear n0_; (try clear hb); (try clear hb2); (try clear hk); (try clear hi)) | (go_at_call 8; (with_reducible refine (lex_Scan.calls k a0 t266 t267 t268 _ A7.out).mono ?_); rintro e w19 ⟨v269, rfl, ho0, hb⟩; have n0_ := Aside0.mk (Kd.R_lower ho0 (below_size (by repeat (first | (with_reducible first | exact HB.out | apply below_alloc | apply pw_below_drewN | apply below_drew1) | exact HB.out)))); have n1_ := Aside0.mk (below_step (by repeat (first | (with_reducible first | exact HB.out | apply below_alloc | apply pw_below_drewN | apply below_drew1) | exact HB.out)) hb); clear HB; have HO270 := n0_; have HB := n1_; clear n0_ n1_; (try clear hb); (try clear hb2); (try clear hk); (try clear hi); (try clear ho0)) | (go_at_call 9; (with_reducible refine (truantref02_Scan.calls k a0 t271 t272 t273 _ A8.out).mono ?_); rintro e w20 ⟨v274, rfl, ho0, hb⟩; have n0_ := Aside0.mk (Kd.R_below (by (with_reducible repeat (first | apply Kd.R_alloc | apply Kd.R_drewN | apply Kd.R_drew)); exact HO270.out) hb); have n1_ := Aside0.mk (Kd.R_lower ho0 (below_size (by repeat (first | (with_reducible first | exact HB.out | apply below_alloc | apply pw_below_drewN | apply below_drew1) | exact HB.out)))); have n2_ := Aside0.mk (below_step (by repeat (first | (with_reducible first | exact HB.out | apply below_alloc | apply pw_below_drewN | apply below_drew1) | exact HB.out)) hb); clear HO270; clear HB; have HO270 := n0_; have HO275 := n1_; have HB := n2_; clear n0_ n1_ n2_; (try clear hb); (try clear hb2); (try clear hk); (try clear hi); (try clear ho0); obtain ⟨Ao21, co21, eo21⟩ := Kd.R_slice HO270.out; subst eo21; obtain ⟨Ao22, co22, eo22⟩ := Kd.R_slice HO275.out; subst eo22) | (go_at_call 10; (with_reducible refine (lex_IsWord.calls k a0 t276 _ A12.out).mono ?_); rintro e w23 ⟨rfl, hb⟩; have n0_ := Aside0.mk (Kd.R_below (by (with_reducible repeat (first | apply Kd.R_alloc | apply Kd.R_drewN | apply Kd.R_drew)); exact HO270.out) hb); have n1_ := Aside0.mk (Kd.R_below (by (with_reducible repeat (first | apply Kd.R_alloc | apply Kd.R_drewN | apply Kd.R_drew)); exact HO275.out) hb); have n2_ := Aside0.mk (below_step (by repeat (first | (with_reducible first | exact HB.out | apply below_alloc | apply pw_below_drewN | apply below_drew1) | exact HB.out)) hb); clear HO270; clear HO275; clear HB; have HO270 := n0_; have HO275 := n1_; have HB := n2_; clear n0_ n1_ n2_; (try clear hb); (try clear hb2); (try clear hk); (try clear hi)) | (go_at_call 11; (with_reducible refine (truantref02_Word.calls k a0 t277 _ A13.out).mono ?_); rintro e w24 ⟨rfl, hb⟩; have n0_ := Aside0.mk (Kd.R_below (by (with_reducible repeat (first | apply Kd.R_alloc | apply Kd.R_drewN | apply Kd.R_drew)); exact HO270.out) hb); have n1_ := Aside0.mk (Kd.R_below (by (with_reducible repeat (first | apply Kd.R_alloc | apply Kd.R_drewN | apply Kd.R_drew)); exact HO275.out) hb); have n2_ := Aside0.mk (below_step (by repeat (first | (with_reducible first | exact HB.out | apply below_alloc | apply pw_below_drewN | apply below_drew1) | exact HB.out)) hb); clear HO270; clear HO275; clear HB; have HO270 := n0_; have HO275 := n1_; have HB := n2_; clear n0_ n1_ n2_; (try clear hb); (try clear hb2); (try clear hk); (try clear hi)) | (go_at_call 12; (with_reducible refine (lex_IsKey.calls k a0 t278 _ A15.out).mono ?_); rintro e w25 ⟨rfl, hb⟩; have n0_ := Aside0.mk (Kd.R_below (by (with_reducible repeat (first | apply Kd.R_alloc | apply Kd.R_drewN | apply Kd.R_drew)); exact HO270.out) hb); have n1_ := Aside0.mk (Kd.R_below (by (with_reducible repeat (first | apply Kd.R_alloc | apply Kd.R_drewN | apply Kd.R_drew)); exact HO275.out) hb); have n2_ := Aside0.mk (below_step (by repeat (first | (with_reducible first | exact HB.out | apply below_alloc | apply pw_below_drewN | apply below_drew1) | exact HB.out)) hb); clear HO270; clear HO275; clear HB; have HO270 := n0_; have HO275 := n1_; have HB := n2_; clear n0_ n1_ n2_; (try clear hb); (try clear hb2); (try clear hk); (try clear hi)) | (go_at_call 13; (with_reducible refine (truantref02_Key.calls a0 t279 _ A16.out).mono ?_); rintro e w26 ⟨rfl, hb⟩; have n0_ := Aside0.mk (Kd.R_below (by (with_reducible repeat (first | apply Kd.R_alloc | apply Kd.R_drewN | apply Kd.R_drew)); exact HO270.out) hb); have n1_ := Aside0.mk (Kd.R_below (by (with_reducible repeat (first | apply Kd.R_alloc | apply Kd.R_drewN | apply Kd.R_drew)); exact HO275.out) hb); have n2_ := Aside0.mk (below_step (by repeat (first | (with_reducible first | exact HB.out | apply below_alloc | apply pw_below_drewN | apply below_drew1) | exact HB.out)) hb); clear HO270; clear HO275; clear HB; have HO270 := n0_; have HO275 := n1_; have HB := n2_; clear n0_ n1_ n2_; (try clear hb); (try clear hb2); (try clear hk); (try clear hi)))
        repeat (go_quiet (first | (go_at_call 7; (with_reducible refine (truantlaw02_awake.calls k  true _ A3.out).mono ?_); rintro e w18 ⟨rfl, hb⟩; have n0_ := Aside0.mk (below_step (by repeat (first | (with_reducible first | exact HB.out | apply below_alloc | apply pw_below_drewN | apply below_drew1) | exact HB.out)) hb); clear HB; have HB := n0_; clear n0_; (try clear hb); (try clear hb2); (try clear hk); (try clear hi)) | (go_at_call 8; (with_reducible refine (lex_Scan.calls k a0 t266 t267 t268 _ A7.out).mono ?_); rintro e w19 ⟨v269, rfl, ho0, hb⟩; have n0_ := Aside0.mk (Kd.R_lower ho0 (below_size (by repeat (first | (with_reducible first | exact HB.out | apply below_alloc | apply pw_below_drewN | apply below_drew1) | exact HB.out)))); have n1_ := Aside0.mk (below_step (by repeat (first | (with_reducible first | exact HB.out | apply below_alloc | apply pw_below_drewN | apply below_drew1) | exact HB.out)) hb); clear HB; have HO270 := n0_; have HB := n1_; clear n0_ n1_; (try clear hb); (try clear hb2); (try clear hk); (try clear hi); (try clear ho0)) | (go_at_call 9; (with_reducible refine (truantref02_Scan.calls k a0 t271 t272 t273 _ A8.out).mono ?_); rintro e w20 ⟨v274, rfl, ho0, hb⟩; have n0_ := Aside0.mk (Kd.R_below (by (with_reducible repeat (first | apply Kd.R_alloc | apply Kd.R_drewN | apply Kd.R_drew)); exact HO270.out) hb); have n1_ := Aside0.mk (Kd.R_lower ho0 (below_size (by repeat (first | (with_reducible first | exact HB.out | apply below_alloc | apply pw_below_drewN | apply below_drew1) | exact HB.out)))); have n2_ := Aside0.mk (below_step (by repeat (first | (with_reducible first | exact HB.out | apply below_alloc | apply pw_below_drewN | apply below_drew1) | exact HB.out)) hb); clear HO270; clear HB; have HO270 := n0_; have HO275 := n1_; have HB := n2_; clear n0_ n1_ n2_; (try clear hb); (try clear hb2); (try clear hk); (try clear hi); (try clear ho0); obtain ⟨Ao21, co21, eo21⟩ := Kd.R_slice HO270.out; subst eo21; obtain ⟨Ao22, co22, eo22⟩ := Kd.R_slice HO275.out; subst eo22) | (go_at_call 10; (with_reducible refine (lex_IsWord.calls k a0 t276 _ A12.out).mono ?_); rintro e w23 ⟨rfl, hb⟩; have n0_ := Aside0.mk (Kd.R_below (by (with_reducible repeat (first | apply Kd.R_alloc | apply Kd.R_drewN | apply Kd.R_drew)); exact HO270.out) hb); have n1_ := Aside0.mk (Kd.R_below (by (with_reducible repeat (first | apply Kd.R_alloc | apply Kd.R_drewN | apply Kd.R_drew)); exact HO275.out) hb); have n2_ := Aside0.mk (below_step (by repeat (first | (with_reducible first | exact HB.out | apply below_alloc | apply pw_below_drewN | apply below_drew1) | exact HB.out)) hb); clear HO270; clear HO275; clear HB; have HO270 := n0_; have HO275 := n1_; have HB := n2_; clear n0_ n1_ n2_; (try clear hb); (try clear hb2); (try clear hk); (try clear hi)) | (go_at_call 11; (with_reducible refine (truantref02_Word.calls k a0 t277 _ A13.out).mono ?_); rintro e w24 ⟨rfl, hb⟩; have n0_ := Aside0.mk (Kd.R_below (by (with_reducible repeat (first | apply Kd.R_alloc | apply Kd.R_drewN | apply Kd.R_drew)); exact HO270.out) hb); have n1_ := Aside0.mk (Kd.R_below (by (with_reducible repeat (first | apply Kd.R_alloc | apply Kd.R_drewN | apply Kd.R_drew)); exact HO275.out) hb); have n2_ := Aside0.mk (below_step (by repeat (first | (with_reducible first | exact HB.out | apply below_alloc | apply pw_below_drewN | apply below_drew1) | exact HB.out)) hb); clear HO270; clear HO275; clear HB; have HO270 := n0_; have HO275 := n1_; have HB := n2_; clear n0_ n1_ n2_; (try clear hb); (try clear hb2); (try clear hk); (try clear hi)) | (go_at_call 12; (with_reducible refine (lex_IsKey.calls k a0 t278 _ A15.out).mono ?_); rintro e w25 ⟨rfl, hb⟩; have n0_ := Aside0.mk (Kd.R_below (by (with_reducible repeat (first | apply Kd.R_alloc | apply Kd.R_drewN | apply Kd.R_drew)); exact HO270.out) hb); have n1_ := Aside0.mk (Kd.R_below (by (with_reducible repeat (first | apply Kd.R_alloc | apply Kd.R_drewN | apply Kd.R_drew)); exact HO275.out) hb); have n2_ := Aside0.mk (below_step (by repeat (first | (with_reducible first | exact HB.out | apply below_alloc | apply pw_below_drewN | apply below_drew1) | exact HB.out)) hb); clear HO270; clear HO275; clear HB; have HO270 := n0_; have HO275 := n1_; have HB := n2_; clear n0_ n1_ n2_; (try clear hb); (try clear hb2); (try clear hk); (try clear hi)) | (go_at_call 13; (with_reducible refine (truantref02_Key.calls a0 t279 _ A16.out).mono ?_); rintro e w26 ⟨rfl, hb⟩; have n0_ := Aside0.mk (Kd.R_below (by (with_reducible repeat (first | apply Kd.R_alloc | apply Kd.R_drewN | apply Kd.R_drew)); exact HO270.out) hb); have n1_ := Aside0.mk (Kd.R_below (by (with_reducible repeat (first | apply Kd.R_alloc | apply Kd.R_drewN | apply Kd.R_drew)); exact HO275.out) hb); have n2_ := Aside0.mk (below_step (by repeat (first | (with_reducible first | exact HB.out | apply below_alloc | apply pw_below_drewN | apply below_drew1) | exact HB.out)) hb); clear HO270; clear HO275; clear HB; have HO270 := n0_; have HO275 := n1_; have HB := n2_; clear n0_ n1_ n2_; (try clear hb); (try clear hb2); (try clear hk); (try clear hi))); try go_wp2_with (first | (go_at_call 7; (with_reducible refine (truantlaw02_awake.calls k  true _ A3.out).mono ?_); rintro e w18 ⟨rfl, hb⟩; have n0_ := Aside0.mk (below_step (by repeat (first | (with_reducible first | exact HB.out | apply below_alloc | apply pw_below_drewN | apply below_drew1) | exact HB.out)) hb); clear HB; have HB := n0_; clear n0_; (try clear hb); (try clear hb2); (try clear hk); (try clear hi)) | (go_at_call 8; (with_reducible refine (lex_Scan.calls k a0 t266 t267 t268 _ A7.out).mono ?_); rintro e w19 ⟨v269, rfl, ho0, hb⟩; have n0_ := Aside0.mk (Kd.R_lower ho0 (below_size (by repeat (first | (with_reducible first | exact HB.out | apply below_alloc | apply pw_below_drewN | apply below_drew1) | exact HB.out)))); have n1_ := Aside0.mk (below_step (by repeat (first | (with_reducible first | exact HB.out | apply below_alloc | apply pw_below_drewN | apply below_drew1) | exact HB.out)) hb); clear HB; have HO270 := n0_; have HB := n1_; clear n0_ n1_; (try clear hb); (try clear hb2); (try clear hk); (try clear hi); (try clear ho0)) | (go_at_call 9; (with_reducible refine (truantref02_Scan.calls k a0 t271 t272 t273 _ A8.out).mono ?_); rintro e w20 ⟨v274, rfl, ho0, hb⟩; have n0_ := Aside0.mk (Kd.R_below (by (with_reducible repeat (first | apply Kd.R_alloc | apply Kd.R_drewN | apply Kd.R_drew)); exact HO270.out) hb); have n1_ := Aside0.mk (Kd.R_lower ho0 (below_size (by repeat (first | (with_reducible first | exact HB.out | apply below_alloc | apply pw_below_drewN | apply below_drew1) | exact HB.out)))); have n2_ := Aside0.mk (below_step (by repeat (first | (with_reducible first | exact HB.out | apply below_alloc | apply pw_below_drewN | apply below_drew1) | exact HB.out)) hb); clear HO270; clear HB; have HO270 := n0_; have HO275 := n1_; have HB := n2_; clear n0_ n1_ n2_; (try clear hb); (try clear hb2); (try clear hk); (try clear hi); (try clear ho0); obtain ⟨Ao21, co21, eo21⟩ := Kd.R_slice HO270.out; subst eo21; obtain ⟨Ao22, co22, eo22⟩ := Kd.R_slice HO275.out; subst eo22) | (go_at_call 10; (with_reducible refine (lex_IsWord.calls k a0 t276 _ A12.out).mono ?_); rintro e w23 ⟨rfl, hb⟩; have n0_ := Aside0.mk (Kd.R_below (by (with_reducible repeat (first | apply Kd.R_alloc | apply Kd.R_drewN | apply Kd.R_drew)); exact HO270.out) hb); have n1_ := Aside0.mk (Kd.R_below (by (with_reducible repeat (first | apply Kd.R_alloc | apply Kd.R_drewN | apply Kd.R_drew)); exact HO275.out) hb); have n2_ := Aside0.mk (below_step (by repeat (first | (with_reducible first | exact HB.out | apply below_alloc | apply pw_below_drewN | apply below_drew1) | exact HB.out)) hb); clear HO270; clear HO275; clear HB; have HO270 := n0_; have HO275 := n1_; have HB := n2_; clear n0_ n1_ n2_; (try clear hb); (try clear hb2); (try clear hk); (try clear hi)) | (go_at_call 11; (with_reducible refine (truantref02_Word.calls k a0 t277 _ A13.out).mono ?_); rintro e w24 ⟨rfl, hb⟩; have n0_ := Aside0.mk (Kd.R_below (by (with_reducible repeat (first | apply Kd.R_alloc | apply Kd.R_drewN | apply Kd.R_drew)); exact HO270.out) hb); have n1_ := Aside0.mk (Kd.R_below (by (with_reducible repeat (first | apply Kd.R_alloc | apply Kd.R_drewN | apply Kd.R_drew)); exact HO275.out) hb); have n2_ := Aside0.mk (below_step (by repeat (first | (with_reducible first | exact HB.out | apply below_alloc | apply pw_below_drewN | apply below_drew1) | exact HB.out)) hb); clear HO270; clear HO275; clear HB; have HO270 := n0_; have HO275 := n1_; have HB := n2_; clear n0_ n1_ n2_; (try clear hb); (try clear hb2); (try clear hk); (try clear hi)) | (go_at_call 12; (with_reducible refine (lex_IsKey.calls k a0 t278 _ A15.out).mono ?_); rintro e w25 ⟨rfl, hb⟩; have n0_ := Aside0.mk (Kd.R_below (by (with_reducible repeat (first | apply Kd.R_alloc | apply Kd.R_drewN | apply Kd.R_drew)); exact HO270.out) hb); have n1_ := Aside0.mk (Kd.R_below (by (with_reducible repeat (first | apply Kd.R_alloc | apply Kd.R_drewN | apply Kd.R_drew)); exact HO275.out) hb); have n2_ := Aside0.mk (below_step (by repeat (first | (with_reducible first | exact HB.out | apply below_alloc | apply pw_below_drewN | apply below_drew1) | exact HB.out)) hb); clear HO270; clear HO275; clear HB; have HO270 := n0_; have HO275 := n1_; have HB := n2_; clear n0_ n1_ n2_; (try clear hb); (try clear hb2); (try clear hk); (try clear hi)) | (go_at_call 13; (with_reducible refine (truantref02_Key.calls a0 t279 _ A16.out).mono ?_); rintro e w26 ⟨rfl, hb⟩; have n0_ := Aside0.mk (Kd.R_below (by (with_reducible repeat (first | apply Kd.R_alloc | apply Kd.R_drewN | apply Kd.R_drew)); exact HO270.out) hb); have n1_ := Aside0.mk (Kd.R_below (by (with_reducible repeat (first | apply Kd.R_alloc | apply Kd.R_drewN | apply Kd.R_drew)); exact HO275.out) hb); have n2_ := Aside0.mk (below_step (by repeat (first | (with_reducible first | exact HB.out | apply below_alloc | apply pw_below_drewN | apply below_drew1) | exact HB.out)) hb); clear HO270; clear HO275; clear HB; have HO270 := n0_; have HO275 := n1_; have HB := n2_; clear n0_ n1_ n2_; (try clear hb); (try clear hb2); (try clear hk); (try clear hi))))
        go_loopg [11] k (fun kq v11 w' => ∃ (x11_1 : Int), v11 = .int .i64 x11_1 ∧ Aside0 (truantlaw02_LexExact.l0 kq a0 a1 t266 t271 x11_1 = some r) ∧ Aside0 (kq ≤ k) ∧ Aside0 (Kd.R k32 32 w' w.heap.size (fun _ => True) (.slice Ao21 t266.length co21) t266) ∧ Aside0 (Kd.R k33 33 w' w.heap.size (fun _ => True) (.slice Ao22 t271.length co22) t271) ∧ Aside0 (Below w.heap.size w w'))
        case atStart => exact ⟨(0), (by first | rfl | (simp; done) | (simp [*]; done)), H', ⟨Nat.le_refl _⟩, ⟨by (with_reducible repeat (first | apply Kd.R_alloc | apply Kd.R_drewN | apply Kd.R_drew)); exact HO270.out⟩, ⟨by (with_reducible repeat (first | apply Kd.R_alloc | apply Kd.R_drewN | apply Kd.R_drew)); exact HO275.out⟩, ⟨by repeat (first | (with_reducible first | exact HB.out | apply below_alloc | apply pw_below_drewN | apply below_drew1) | exact HB.out)⟩⟩
        case round =>
         clear H'
         try clear c1
         try clear p2
         try clear c3
         try clear c4
         try clear c5
         try clear c5b0
         try clear c5b1
         try clear c9
         try clear c9b0
         try clear c9b1
         try clear c10
         try clear c10b0
         try clear c10b1
         try clear c11
         try clear c11b0
         try clear c11b1
         try clear c11b2
         try clear c14
         try clear c14b0
         try clear c14b1
         try clear c14b2
         try clear c17
         try clear c17b0
         try clear c17b1
         try clear c17b2
         obtain ⟨x11_1, rfl, HA, HK1, HO_5, HO_8, HB⟩ := hrel
         cases gk with
         | zero => exact absurd HA.out (by simp [truantlaw02_LexExact.l0])
         | succ k1 =>
          have H := HA.out
          clear HA
          simp only [truantlaw02_LexExact.l0] at H
          by_cases c27 : x11_1 < (t271.length : Int)
          ·rw [if_pos c27] at H
           have c27b0 : decide (x11_1 < (t271.length : Int)) = true := decide_eq_true c27
           clear c27
           by_cases c28 : 0 ≤ x11_1
           ·rw [if_pos c28] at H
            have c28b0 : decide (0 ≤ x11_1) = true := decide_eq_true c28
            clear c28
            by_cases c29 : x11_1 < (t266.length : Int)
            ·rw [if_pos c29] at H
             have c29b0 : decide (x11_1 < (t266.length : Int)) = true := decide_eq_true c29
             clear c29
             by_cases c30 : ((rd_T32 t266 x11_1).f0) = ((rd_T33 t271 x11_1).f0)
             ·rw [if_pos c30] at H
              have c30b0 : (((rd_T32 t266 x11_1).f0) == ((rd_T33 t271 x11_1).f0)) = true := beq_iff_eq.mpr c30
              have c30b1 : (((rd_T32 t266 x11_1).f0) != ((rd_T33 t271 x11_1).f0)) = false := bne_eq_false_iff_eq.mpr c30
              clear c30
              by_cases c31 : ((rd_T32 t266 x11_1).f1).toList = ((rd_T33 t271 x11_1).f1).toList
              ·rw [if_pos c31] at H
               have c31b0 : (((rd_T32 t266 x11_1).f1).toList == ((rd_T33 t271 x11_1).f1).toList) = true := beq_iff_eq.mpr c31
               have c31b1 : (((rd_T32 t266 x11_1).f1).toList != ((rd_T33 t271 x11_1).f1).toList) = false := bne_eq_false_iff_eq.mpr c31
               clear c31
               by_cases c32 : ((rd_T32 t266 x11_1).f2) = ((rd_T33 t271 x11_1).f2)
               ·rw [if_pos c32] at H
                have c32b0 : (((rd_T32 t266 x11_1).f2) == ((rd_T33 t271 x11_1).f2)) = true := beq_iff_eq.mpr c32
                have c32b1 : (((rd_T32 t266 x11_1).f2) != ((rd_T33 t271 x11_1).f2)) = false := bne_eq_false_iff_eq.mpr c32
                clear c32
                have H' := Aside0.mk H
                clear H
                have p280 : 0 ≤ (x11_1 : Int) := of_decide_eq_true (by first | (with_reducible assumption) | assumption)
                have q280 : x11_1 < (t266.length : Int) := of_decide_eq_true (by first | (with_reducible assumption) | assumption)
                obtain ⟨ad280, e280, hx280_0, hx280_1, hx280_2⟩ := at_T32 (Kd.R_reads' HO_5.out).2.2 x11_1 p280 q280
                cases e280
                replace p280 := eq_true p280
                replace q280 := eq_true q280
                have p281 : 0 ≤ (x11_1 : Int) := of_decide_eq_true (by first | (with_reducible assumption) | assumption)
                have q281 : x11_1 < (t271.length : Int) := of_decide_eq_true (by first | (with_reducible assumption) | assumption)
                obtain ⟨ad281, e281, hx281_0, hx281_1, hx281_2⟩ := at_T33 (Kd.R_reads' HO_8.out).2.2 x11_1 p281 q281
                cases e281
                replace p281 := eq_true p281
                replace q281 := eq_true q281
                have p282 : 0 ≤ (x11_1 : Int) := of_decide_eq_true (by first | (with_reducible assumption) | assumption)
                have q282 : x11_1 < (t266.length : Int) := of_decide_eq_true (by first | (with_reducible assumption) | assumption)
                obtain ⟨ad282, e282, hx282_0, hx282_1, hx282_2⟩ := at_T32 (Kd.R_reads' HO_5.out).2.2 x11_1 p282 q282
                obtain rfl : ad280 = ad282 := (by injection e282)
                replace p282 := eq_true p282
                replace q282 := eq_true q282
                have p283 : 0 ≤ (x11_1 : Int) := of_decide_eq_true (by first | (with_reducible assumption) | assumption)
                have q283 : x11_1 < (t271.length : Int) := of_decide_eq_true (by first | (with_reducible assumption) | assumption)
                obtain ⟨ad283, e283, hx283_0, hx283_1, hx283_2⟩ := at_T33 (Kd.R_reads' HO_8.out).2.2 x11_1 p283 q283
                obtain rfl : ad281 = ad283 := (by injection e283)
                replace p283 := eq_true p283
                replace q283 := eq_true q283
                have p284 : 0 ≤ (x11_1 : Int) := of_decide_eq_true (by first | (with_reducible assumption) | assumption)
                have q284 : x11_1 < (t266.length : Int) := of_decide_eq_true (by first | (with_reducible assumption) | assumption)
                obtain ⟨ad284, e284, hx284_0, hx284_1, hx284_2⟩ := at_T32 (Kd.R_reads' HO_5.out).2.2 x11_1 p284 q284
                obtain rfl : ad280 = ad284 := (by injection e284)
                replace p284 := eq_true p284
                replace q284 := eq_true q284
                have p285 : 0 ≤ (x11_1 : Int) := of_decide_eq_true (by first | (with_reducible assumption) | assumption)
                have q285 : x11_1 < (t271.length : Int) := of_decide_eq_true (by first | (with_reducible assumption) | assumption)
                obtain ⟨ad285, e285, hx285_0, hx285_1, hx285_2⟩ := at_T33 (Kd.R_reads' HO_8.out).2.2 x11_1 p285 q285
                obtain rfl : ad281 = ad285 := (by injection e285)
                replace p285 := eq_true p285
                replace q285 := eq_true q285
                go_wp2
                repeat (go_quiet (fail); try go_wp2)
                go_roundg k1
                case measure => have := HK1.out; omega
                case rel => exact ⟨(wrap64 (x11_1 + 1)), (by first | rfl | (simp; done) | (simp [*]; done)), H', ⟨by have := HK1.out; omega⟩, ⟨by (with_reducible repeat (first | apply Kd.R_alloc | apply Kd.R_drewN | apply Kd.R_drew)); exact HO_5.out⟩, ⟨by (with_reducible repeat (first | apply Kd.R_alloc | apply Kd.R_drewN | apply Kd.R_drew)); exact HO_8.out⟩, ⟨by repeat (first | (with_reducible first | exact HB.out | apply below_alloc | apply pw_below_drewN | apply below_drew1) | exact HB.out)⟩⟩
               ·rw [if_neg c32] at H
                exact absurd H (by simp)
              ·rw [if_neg c31] at H
               exact absurd H (by simp)
             ·rw [if_neg c30] at H
              exact absurd H (by simp)
            ·rw [if_neg c29] at H
             exact absurd H (by simp)
           ·rw [if_neg c28] at H
            exact absurd H (by simp)
          ·rw [if_neg c27] at H
           have c27b0 : decide (x11_1 < (t271.length : Int)) = false := decide_eq_false c27
           clear c27
           replace H := Option.bind_eq_some_iff.mp H
           obtain ⟨⟨t286, t287⟩, A330, H⟩ := H
           replace H : ((truantref02_Line.f k1 a0 a1).bind fun bt288 => (if t286 = bt288.1 then (some (t287 == bt288.2)) else (none))) = some r := H
           have A33 := Aside0.mk A330
           clear A330
           replace H := Option.bind_eq_some_iff.mp H
           obtain ⟨⟨t288, t289⟩, A340, H⟩ := H
           replace H : (if t286 = t288 then (some (t287 == t289)) else (none)) = some r := H
           have A34 := Aside0.mk A340
           clear A340
           by_cases c35 : t286 = t288
           ·rw [if_pos c35] at H
            have c35b0 : (t286 == t288) = true := beq_iff_eq.mpr c35
            have c35b1 : (t286 != t288) = false := bne_eq_false_iff_eq.mpr c35
            clear c35
            obtain rfl := Option.some.inj H
            go_wp2_with (first | (go_at_call 14; (with_reducible refine (lex_Line.calls k1 a0 a1 t286 t287 _ A33.out).mono ?_); rintro e w36 ⟨rfl, hb⟩; have n0_ := Aside0.mk (Kd.R_below (by (with_reducible repeat (first | apply Kd.R_alloc | apply Kd.R_drewN | apply Kd.R_drew)); exact HO_5.out) hb); have n1_ := Aside0.mk (Kd.R_below (by (with_reducible repeat (first | apply Kd.R_alloc | apply Kd.R_drewN | apply Kd.R_drew)); exact HO_8.out) hb); have n2_ := Aside0.mk (below_step (by repeat (first | (with_reducible first | exact HB.out | apply below_alloc | apply pw_below_drewN | apply below_drew1) | exact HB.out)) hb); clear HO_5; clear HO_8; clear HB; have HO_5 := n0_; have HO_8 := n1_; have HB := n2_; clear n0_ n1_ n2_; (try clear hb); (try clear hb2); (try clear hk); (try clear hi)) | (go_at_call 15; (with_reducible refine (truantref02_Line.calls k1 a0 a1 t288 t289 _ A34.out).mono ?_); rintro e w' ⟨rfl, ⟨nd, rfl⟩⟩; (try first | exact ⟨rfl, _, World.drewN_drewN _ _ _⟩ | exact ⟨rfl, _, Eq.trans (World.drewN_drewN _ _ _) (congrArg (World.drewN _) (Nat.add_assoc _ _ _))⟩)))
            repeat (go_quiet (first | (go_at_call 14; (with_reducible refine (lex_Line.calls k1 a0 a1 t286 t287 _ A33.out).mono ?_); rintro e w36 ⟨rfl, hb⟩; have n0_ := Aside0.mk (Kd.R_below (by (with_reducible repeat (first | apply Kd.R_alloc | apply Kd.R_drewN | apply Kd.R_drew)); exact HO_5.out) hb); have n1_ := Aside0.mk (Kd.R_below (by (with_reducible repeat (first | apply Kd.R_alloc | apply Kd.R_drewN | apply Kd.R_drew)); exact HO_8.out) hb); have n2_ := Aside0.mk (below_step (by repeat (first | (with_reducible first | exact HB.out | apply below_alloc | apply pw_below_drewN | apply below_drew1) | exact HB.out)) hb); clear HO_5; clear HO_8; clear HB; have HO_5 := n0_; have HO_8 := n1_; have HB := n2_; clear n0_ n1_ n2_; (try clear hb); (try clear hb2); (try clear hk); (try clear hi)) | (go_at_call 15; (with_reducible refine (truantref02_Line.calls k1 a0 a1 t288 t289 _ A34.out).mono ?_); rintro e w' ⟨rfl, ⟨nd, rfl⟩⟩; (try first | exact ⟨rfl, _, World.drewN_drewN _ _ _⟩ | exact ⟨rfl, _, Eq.trans (World.drewN_drewN _ _ _) (congrArg (World.drewN _) (Nat.add_assoc _ _ _))⟩))); try go_wp2_with (first | (go_at_call 14; (with_reducible refine (lex_Line.calls k1 a0 a1 t286 t287 _ A33.out).mono ?_); rintro e w36 ⟨rfl, hb⟩; have n0_ := Aside0.mk (Kd.R_below (by (with_reducible repeat (first | apply Kd.R_alloc | apply Kd.R_drewN | apply Kd.R_drew)); exact HO_5.out) hb); have n1_ := Aside0.mk (Kd.R_below (by (with_reducible repeat (first | apply Kd.R_alloc | apply Kd.R_drewN | apply Kd.R_drew)); exact HO_8.out) hb); have n2_ := Aside0.mk (below_step (by repeat (first | (with_reducible first | exact HB.out | apply below_alloc | apply pw_below_drewN | apply below_drew1) | exact HB.out)) hb); clear HO_5; clear HO_8; clear HB; have HO_5 := n0_; have HO_8 := n1_; have HB := n2_; clear n0_ n1_ n2_; (try clear hb); (try clear hb2); (try clear hk); (try clear hi)) | (go_at_call 15; (with_reducible refine (truantref02_Line.calls k1 a0 a1 t288 t289 _ A34.out).mono ?_); rintro e w' ⟨rfl, ⟨nd, rfl⟩⟩; (try first | exact ⟨rfl, _, World.drewN_drewN _ _ _⟩ | exact ⟨rfl, _, Eq.trans (World.drewN_drewN _ _ _) (congrArg (World.drewN _) (Nat.add_assoc _ _ _))⟩))))
            go_ret
            exact ⟨by first | rfl | (simp [errW_none, errW_some] <;> rfl) | (simp [*, errW_none, errW_some] <;> rfl), by repeat (first | (with_reducible first | exact HB.out | apply below_alloc | apply pw_below_drewN | apply below_drew1) | exact HB.out)⟩
           ·rw [if_neg c35] at H
            exact absurd H (by simp)
     ·rw [if_neg c11] at H
      exact absurd H (by simp)
    ·rw [if_neg c10] at H
     exact absurd H (by simp)
   ·rw [if_neg c9] at H
    exact absurd H (by simp)
 ·replace c4 := Bool.eq_false_iff.mpr c4
  subst c4
  have H1 : (none) = some r := by rw [if_neg (show ¬ (false = true) by decide)] at H; exact H
  clear H
  have H := H1
  clear H1
  exact absurd H (by simp)

end Go.Proofs.YtcmppjonpmgncaaGreatDoor.Q

/- How an argument of a type reads: out of the form's reading comes the value that the printed walks take. -/
namespace Go.Proofs.YtcmppjonpmgncaaGreatDoor.Q
open Go.RowKit Go.Proofs.YtcmppjonpmgncaaGreatDoorW.PrintWords Go.Proofs.YtcmppjonpmgncaaGreatDoorW.PrintLast Go.Proofs.YtcmppjonpmgncaaGreatDoorW.PrintMore
set_option linter.unusedVariables false
set_option linter.unusedSimpArgs false
section
variable {P : Program}
end
end Go.Proofs.YtcmppjonpmgncaaGreatDoor.Q

namespace Go.Proofs.YtcmppjonpmgncaaGreatDoor.Q
open Go.RowKit Go.Proofs.YtcmppjonpmgncaaGreatDoorW.PrintWords Go.Proofs.YtcmppjonpmgncaaGreatDoorW.PrintLast Go.Proofs.YtcmppjonpmgncaaGreatDoorW.PrintMore
set_option linter.unusedVariables false
set_option linter.unusedSimpArgs false

end Go.Proofs.YtcmppjonpmgncaaGreatDoor.Q

namespace Go.Proofs.YtcmppjonpmgncaaGreatDoor.Q
open Go.RowKit Go.Proofs.YtcmppjonpmgncaaGreatDoorW.PrintWords Go.Proofs.YtcmppjonpmgncaaGreatDoorW.PrintLast Go.Proofs.YtcmppjonpmgncaaGreatDoorW.PrintMore
set_option linter.unusedVariables false
set_option linter.unusedSimpArgs false
def LexExact.Pure : Prop := ∀ (a0 : ByteArray) (a1 : Int), (fun s : ByteArray => s.size ≤ 140737488351232) a0 → (fun n : Int => (Lit.int .i64 n).wf = true) a1 → ∃ k, truantlaw02_LexExact.f k a0 a1 = some true
end Go.Proofs.YtcmppjonpmgncaaGreatDoor.Q

/- The words of a text, told of lists of bytes: what stands between, the token at the head, all tokens. -/

namespace Go.Proofs.YtcmppjonpmgncaaGreatDoor.Q
open Go.RowKit Go.Proofs.YtcmppjonpmgncaaGreatDoorW.PrintWords Go.Proofs.YtcmppjonpmgncaaGreatDoorW.PrintLast Go.Proofs.YtcmppjonpmgncaaGreatDoorW.PrintMore
set_option linter.unusedVariables false
set_option linter.unusedSimpArgs false
abbrev Tk := S32
def bA (l : List UInt8) : ByteArray := ⟨l.toArray⟩
theorem bA_list (l : List UInt8) : (bA l).data.toList = l := rfl
theorem bA_tl (l : List UInt8) : (bA l).toList = l := by rw [ByteArray.toList_eq]; rfl
theorem bA_size (l : List UInt8) : (bA l).size = l.length := by rw [← tl_len, bA_tl]
theorem bA_of (s : ByteArray) : bA s.data.toList = s := by obtain ⟨⟨l⟩⟩ := s; rfl
theorem tw_stop {α : Type} (p : α → Bool) (a : List α) (c : α) (b : List α) (h : p c = false) : (a ++ c :: b).takeWhile p = a.takeWhile p := by
 induction a with
 | nil => simp [List.takeWhile_cons, h]
 | cons x r ih =>
  simp only [List.cons_append, List.takeWhile_cons]
  cases p x <;> simp [ih]
def twP (p : Int → Bool) (l : List UInt8) : List UInt8 := l.takeWhile (fun b => p (b.toNat : Int))
theorem runP_tw (p : Int → Bool) (l : List UInt8) : runP p l = (twP p l).length := rfl
theorem twP_stop (p : Int → Bool) (a : List UInt8) (c : UInt8) (b : List UInt8) (h : p (c.toNat : Int) = false) : twP p (a ++ c :: b) = twP p a := by unfold twP; rw [tw_stop _ a c b h]
theorem twP_cons (p : Int → Bool) (b : UInt8) (r : List UInt8) : twP p (b :: r) = if p (b.toNat : Int) = true then b :: twP p r else [] := by
 unfold twP
 rw [List.takeWhile_cons]
theorem twP_pre (p : Int → Bool) (l : List UInt8) : twP p l <+: l := List.takeWhile_prefix _
theorem runP_stop (p : Int → Bool) (a : List UInt8) (c : UInt8) (b : List UInt8) (h : p (c.toNat : Int) = false) : runP p (a ++ c :: b) = runP p a := by rw [runP_tw, runP_tw, twP_stop p a c b h]
theorem runP_cons (p : Int → Bool) (b : UInt8) (r : List UInt8) : runP p (b :: r) = if p (b.toNat : Int) = true then runP p r + 1 else 0 := by
 rw [runP_tw, runP_tw, twP_cons]
 split <;> rfl
theorem skip_nil : skipN [] = 0 := by rw [skipN_eq]; rfl
theorem skip_blank {b : UInt8} {r : List UInt8} (h : blB (b.toNat : Int) = true) : skipN (b :: r) = 1 + skipN r := by
 rw [skipN_eq (b :: r), skipN_eq r, runP_cons, if_pos h]
 have e : (b :: r).drop (runP blB r + 1) = r.drop (runP blB r) := rfl
 rw [e]
 split
 ·rw [show runP blB r + 1 + runP nlB (r.drop (runP blB r)) = (runP blB r + runP nlB (r.drop (runP blB r))) + 1 by omega, List.drop_succ_cons]
  omega
 ·omega
theorem com_cases {l : List UInt8} (h : isCom l = true) : ∃ r, l = 47 :: 47 :: r := by
 unfold isCom at h
 split at h
 ·exact ⟨_, rfl⟩
 ·cases h
theorem skip_com {l : List UInt8} (h : isCom l = true) : skipN l = runP nlB l + skipN (l.drop (runP nlB l)) := by
 have h0 : runP blB l = 0 := by
  obtain ⟨r, rfl⟩ := com_cases h
  rw [runP_cons, if_neg (by decide)]
 rw [skipN_eq l, h0, List.drop_zero, if_pos h, Nat.zero_add]
theorem skip_none {b : UInt8} {r : List UInt8} (h : blB (b.toNat : Int) = false) (hc : isCom (b :: r) = false) : skipN (b :: r) = 0 := by
 have h0 : runP blB (b :: r) = 0 := by rw [runP_cons, if_neg (by rw [h]; decide)]
 rw [skipN_eq (b :: r), h0, List.drop_zero, if_neg (by rw [hc]; decide)]
theorem skip_ind {P : List UInt8 → Prop} (h0 : P []) (hb : ∀ b r, blB (b.toNat : Int) = true → P r → P (b :: r)) (hc : ∀ l, isCom l = true → P (l.drop (runP nlB l)) → P l)
  (hn : ∀ b r, blB (b.toNat : Int) = false → isCom (b :: r) = false → P (b :: r)) : ∀ l, P l := by
 have : ∀ (n : Nat) (l : List UInt8), l.length ≤ n → P l := by
  intro n
  induction n with
  | zero => intro l hl; obtain rfl : l = [] := List.eq_nil_of_length_eq_zero (by omega); exact h0
  | succ n ih =>
   intro l hl
   cases l with
   | nil => exact h0
   | cons b r =>
    cases hB : blB (b.toNat : Int) with
    | true => exact hb b r hB (ih r (by simp at hl; omega))
    | false =>
     cases hC : isCom (b :: r) with
     | true => exact hc _ hC (ih _ (by have := isCom_run hC; rw [List.length_drop]; omega))
     | false => exact hn b r hB hC
 exact fun l => this l.length l (Nat.le_refl _)
theorem com_join {a b : List UInt8} {c : UInt8} (hc : c ≠ 47) (ha : a ≠ []) : isCom (a ++ c :: b) = isCom a := by
 match a, ha with
 | [x], _ =>
  rw [List.cons_append, List.nil_append]
  unfold isCom
  split
  ·rename_i h; injection h with h1 h2; injection h2 with h3 h4; exact absurd h3 hc
  ·split
   ·rename_i h; injection h with h1 h2; cases h2
   ·rfl
 | x :: y :: r, _ =>
  simp only [List.cons_append]
  by_cases hx : x = 47
  ·by_cases hy : y = 47
   ·subst hx hy; rfl
   ·subst hx; unfold isCom; split <;> split <;> simp_all
  ·unfold isCom; split <;> split <;> simp_all
/-- What stands between, in a text behind which a line feed and another text stand. -/
theorem skip_join (b : List UInt8) : ∀ a : List UInt8, (skipN a < a.length → skipN (a ++ 10 :: b) = skipN a) ∧ (skipN a = a.length → skipN (a ++ 10 :: b) = a.length + 1 + skipN b) := by
 refine skip_ind ?_ ?_ ?_ ?_
 ·refine ⟨fun h => absurd h (by simp), fun _ => ?_⟩
  rw [List.nil_append, skip_blank (by decide)]
  simp
 ·intro c r h ih
  rw [skip_blank h, List.cons_append, skip_blank h, List.length_cons]
  exact ⟨fun hl => by rw [ih.1 (by omega)], fun hl => by rw [ih.2 (by omega)]; omega⟩
 ·intro l h ih
  have h2 := isCom_run h
  have hle := runP_le nlB l
  have hne : l ≠ [] := by rintro rfl; cases h
  have hj : isCom (l ++ 10 :: b) = true := by rw [com_join (by decide) hne]; exact h
  rw [skip_com h, skip_com hj, runP_stop nlB l 10 b (by decide), List.drop_append_of_le_length hle]
  rw [List.length_drop] at ih
  exact ⟨fun hl => by rw [ih.1 (by omega)], fun hl => by rw [ih.2 (by omega)]; omega⟩
 ·intro c r h hc
  rw [skip_none h hc]
  refine ⟨fun _ => ?_, fun hl => absurd hl (by simp)⟩
  have hj : isCom (c :: (r ++ 10 :: b)) = false := by rw [← List.cons_append, com_join (by decide) (by simp)]; exact hc
  rw [List.cons_append, skip_none h hj]
/-! the token at a text's head -/
def headB (p : Int → Bool) (l : List UInt8) : Bool := match l with
 | [] => false
 | b :: _ => p (b.toNat : Int)
def isPre (l : List UInt8) (x : ByteArray) : Bool := x.data.toList.isPrefixOf l
def signK (l : List UInt8) : Int × List UInt8 × Int := if findR (isPre l) signL < 0 then (0, [], 1) else (4, (signL.getD (findR (isPre l) signL).toNat ByteArray.empty).data.toList, 0)
def tokF (l : List UInt8) : Int × List UInt8 × Int :=
 if headB letB l = true then (if keyB (bA (twP lodB l)) = true then 2 else 1, twP lodB l, if 12 < (twP lodB l).length then 4 else 0)
 else if headB digB l = true then (3, twP digB l, if headB letB (l.drop (twP digB l).length) = true then 1 else (parseN (bA (twP digB l))).2)
 else signK l
theorem prefB_iff (l : List UInt8) (x : ByteArray) : prefB (bA l) x = true ↔ x.data.toList <+: l := by
 unfold prefB
 rw [bA_size, ByteArray.toList_eq, ByteArray.toList_eq, ext_take, bA_list, List.prefix_iff_eq_take]
 have hx : x.data.toList.length = x.size := data_length x
 rw [hx]
 constructor
 ·intro h
  simp only [Bool.and_eq_true, decide_eq_true_eq, beq_iff_eq] at h
  exact h.2.symm
 ·intro h
  simp only [Bool.and_eq_true, decide_eq_true_eq, beq_iff_eq]
  refine ⟨?_, h.symm⟩
  have := congrArg List.length h
  rw [hx, List.length_take] at this
  omega
theorem isPre_iff (l : List UInt8) (x : ByteArray) : isPre l x = true ↔ x.data.toList <+: l := List.isPrefixOf_iff_prefix
theorem prefB_isPre (l : List UInt8) : prefB (bA l) = isPre l := by
 funext x
 rw [Bool.eq_iff_iff, prefB_iff, isPre_iff]
theorem sign_no {c : UInt8} (hc : c = 10 ∨ c = 32) : ∀ x ∈ signL, c ∉ x.data.toList := by
 rcases hc with rfl | rfl <;> (unfold signL; decide)
theorem pre_stop {c : UInt8} {b : List UInt8} : ∀ {a x : List UInt8}, c ∉ x → (x <+: a ++ c :: b ↔ x <+: a)
 | a, [], _ => by simp
 | [], z :: x, h => by
  rw [List.nil_append, List.cons_prefix_cons]
  simp only [List.prefix_nil, reduceCtorEq, iff_false, not_and]
  rintro rfl
  exact absurd (List.mem_cons_self ..) h
 | y :: a, z :: x, h => by
  rw [List.cons_append, List.cons_prefix_cons, List.cons_prefix_cons, pre_stop (fun q => h (List.mem_cons_of_mem _ q))]
theorem findR_congr {α : Type} {p q : α → Bool} : ∀ {l : List α}, (∀ x ∈ l, p x = q x) → findR p l = findR q l := by
 intro l h
 have : l.findIdx p = l.findIdx q := by
  induction l with
  | nil => rfl
  | cons a r ih =>
   rw [List.findIdx_cons, List.findIdx_cons, h a (List.mem_cons_self ..), ih (fun x hx => h x (List.mem_cons_of_mem _ hx))]
 unfold findR
 rw [this]
theorem sign_join {a : List UInt8} {c : UInt8} (b : List UInt8) (hc : c = 10 ∨ c = 32) : signK (a ++ c :: b) = signK a := by
 have : findR (isPre (a ++ c :: b)) signL = findR (isPre a) signL := by
  refine findR_congr (fun x hx => ?_)
  have h1 := isPre_iff (a ++ c :: b) x
  have h2 := isPre_iff a x
  have h3 := pre_stop (b := b) (a := a) (sign_no hc x hx)
  rw [Bool.eq_iff_iff, h1, h2, h3]
 unfold signK
 rw [this]
theorem head_join (p : Int → Bool) {a : List UInt8} (ha : a ≠ []) (c : UInt8) (b : List UInt8) : headB p (a ++ c :: b) = headB p a := by
 cases a with
 | nil => exact absurd rfl ha
 | cons x r => rfl
theorem tok_join {a : List UInt8} (ha : a ≠ []) {c : UInt8} (b : List UInt8) (hc : c = 10 ∨ c = 32) : tokF (a ++ c :: b) = tokF a := by
 have h1 : lodB (c.toNat : Int) = false := by rcases hc with rfl | rfl <;> decide
 have h2 : digB (c.toNat : Int) = false := by rcases hc with rfl | rfl <;> decide
 have h3 : letB (c.toNat : Int) = false := by rcases hc with rfl | rfl <;> decide
 unfold tokF
 rw [head_join letB ha, head_join digB ha, twP_stop lodB a c b h1, twP_stop digB a c b h2, sign_join b hc]
 have hle : (twP digB a).length ≤ a.length := (twP_pre digB a).length_le
 have h4 : headB letB ((a ++ c :: b).drop (twP digB a).length) = headB letB (a.drop (twP digB a).length) := by
  rw [List.drop_append_of_le_length hle]
  by_cases h : a.drop (twP digB a).length = []
  ·rw [h]; exact h3
  ·exact head_join letB h c b
 rw [h4]
theorem signK_pre {l : List UInt8} {kd : Int} {t : List UInt8} (h : signK l = (kd, t, 0)) : ∃ x ∈ signL, kd = 4 ∧ t = x.data.toList ∧ t <+: l := by
 unfold signK at h
 split at h
 ·cases h
 ·rename_i hn
  obtain ⟨j, hj, hjl⟩ := find_in hn
  rw [hj, Int.toNat_natCast, getD_at _ _ hjl] at h
  injection h with h1 h2
  injection h2 with h2 h3
  refine ⟨signL[j], List.getElem_mem hjl, h1.symm, h2.symm, ?_⟩
  rw [← h2, ← isPre_iff]
  unfold findR at hj
  split at hj
  ·rename_i hlt
   have := List.findIdx_getElem (w := hlt)
   have e : signL.findIdx (isPre l) = j := by omega
   simp only [e] at this
   exact this
  ·omega
theorem sign_ne : ∀ x ∈ signL, x.data.toList ≠ [] := by unfold signL; decide
theorem head_tw {p q : Int → Bool} {l : List UInt8} (h : headB p l = true) (hpq : ∀ a, p a = true → q a = true) : twP q l ≠ [] ∧ headB p (twP q l) = true := by
 cases l with
 | nil => cases h
 | cons b r =>
  rw [twP_cons, if_pos (hpq _ h)]
  exact ⟨by simp, h⟩
theorem let_lod (a : Int) (h : letB a = true) : lodB a = true := by unfold lodB; rw [h]; rfl
theorem tok_pre {l : List UInt8} {kd : Int} {t : List UInt8} (h : tokF l = (kd, t, 0)) : t ≠ [] ∧ t <+: l := by
 unfold tokF at h
 split at h
 ·rename_i hl
  injection h with h1 h2
  injection h2 with h2 h3
  rw [← h2]
  exact ⟨(head_tw hl let_lod).1, twP_pre _ _⟩
 ·split at h
  ·rename_i hl
   injection h with h1 h2
   injection h2 with h2 h3
   rw [← h2]
   exact ⟨(head_tw hl (fun _ h => h)).1, twP_pre _ _⟩
  ·obtain ⟨x, hx, _, rfl, hp⟩ := signK_pre h
   exact ⟨sign_ne x hx, hp⟩
/-! all tokens -/
inductive Sc : List UInt8 → Nat → List Tk → Int → Int → Prop
 | done {l : List UInt8} {i : Nat} (h : skipN l = l.length) : Sc l i [] 0 0
 | bad {l : List UInt8} {i : Nat} {kd e : Int} {t : List UInt8} (h : skipN l < l.length) (ht : tokF (l.drop (skipN l)) = (kd, t, e)) (he : e ≠ 0) : Sc l i [] ((i + skipN l : Nat) : Int) e
 | go {l : List UInt8} {i : Nat} {kd p e : Int} {t : List UInt8} {r : List Tk} (h : skipN l < l.length) (ht : tokF (l.drop (skipN l)) = (kd, t, 0)) (k : Sc (l.drop (skipN l + t.length)) (i + skipN l + t.length) r p e) :
   Sc l i (⟨kd, bA t, ((i + skipN l : Nat) : Int)⟩ :: r) p e
theorem Sc.all : ∀ (n : Nat) (l : List UInt8) (i : Nat), l.length ≤ n → ∃ r p e, Sc l i r p e := by
 intro n
 induction n with
 | zero => intro l i hl; exact ⟨[], 0, 0, .done (by have := skipN_le l; omega)⟩
 | succ n ih =>
  intro l i hl
  have hs := skipN_le l
  by_cases h : skipN l = l.length
  ·exact ⟨[], 0, 0, .done h⟩
  ·have h : skipN l < l.length := by omega
   obtain ⟨⟨kd, t, e⟩, ht⟩ : ∃ x, tokF (l.drop (skipN l)) = x := ⟨_, rfl⟩
   by_cases he : e = 0
   ·subst he
    have hp := tok_pre ht
    have hl2 : 0 < t.length := List.length_pos_iff.mpr hp.1
    obtain ⟨r, p, e, k⟩ := ih (l.drop (skipN l + t.length)) (i + skipN l + t.length) (by rw [List.length_drop]; omega)
    exact ⟨_, p, e, .go h ht k⟩
   ·exact ⟨[], _, e, .bad h ht he⟩
theorem Sc.ex (l : List UInt8) (i : Nat) : ∃ r p e, Sc l i r p e := Sc.all l.length l i (Nat.le_refl _)
end Go.Proofs.YtcmppjonpmgncaaGreatDoor.Q

/- Scan, told of lists of bytes. -/

namespace Go.Proofs.YtcmppjonpmgncaaGreatDoor.Q
open Go.RowKit Go.Proofs.YtcmppjonpmgncaaGreatDoorW.PrintWords Go.Proofs.YtcmppjonpmgncaaGreatDoorW.PrintLast Go.Proofs.YtcmppjonpmgncaaGreatDoorW.PrintMore
set_option linter.unusedVariables false
set_option linter.unusedSimpArgs false
theorem tw_take (p : Int → Bool) (l : List UInt8) : l.take (twP p l).length = twP p l := (List.prefix_iff_eq_take.mp (twP_pre p l)).symm
theorem ext_bA (s : ByteArray) (n : Nat) : s.extract 0 n = bA (s.data.toList.take n) := by rw [← ext_take, bA_of]
theorem head_bt (p : Int → Bool) (s : ByteArray) (h : 0 < s.size) : headB p s.data.toList = p (bt s 0) := by
 rw [show (0 : Int) = ((0 : Nat) : Int) from rfl, bt_nat s 0 h]
 have h1 : 0 < s.data.toList.length := by rw [data_length]; exact h
 have key : ∀ (l : List UInt8) (q : 0 < l.length), headB p l = p ((l[0]'q).toNat : Int) := fun l q => by
  cases l with
  | nil => exact absurd q (Nat.lt_irrefl _)
  | cons b r => rfl
 exact key _ h1
theorem head_drop (p : Int → Bool) (s : ByteArray) {n : Nat} (h : n < s.size) : headB p (s.data.toList.drop n) = p (bt s n) := by
 rw [bt_nat s n h, List.drop_eq_getElem_cons (by rw [data_length]; exact h)]
 rfl
theorem word_ev (s : ByteArray) (hs : s.size ≤ 4096) : Ev (fun k => lex_word.f k s) (if keyB (bA (twP lodB s.data.toList)) = true then 2 else 1, bA (twP lodB s.data.toList), 0, if 12 < (twP lodB s.data.toList).length then 4 else 0) := by
 have hle := runP_le lodB s.data.toList
 rw [data_length] at hle
 refine Ev.one (a := lex_run_lex_word_1.f s) (b := ((runP lodB s.data.toList : Nat) : Int)) (by unfold lex_run_lex_word_1.f; rw [if_pos (by omega)]) ?_
 refine Ev.pos (by omega) (Ev.pos (by omega) ?_)
 rw [Int.toNat_natCast, ext_bA, runP_tw, tw_take, bA_size]
 refine Ev.bind (isKey_ev _) ?_
 cases keyB (bA (twP lodB s.data.toList)) with
 | true =>
  refine Ev.pos rfl ?_
  by_cases h : 12 < (twP lodB s.data.toList).length
  ·exact Ev.pos (by omega) (Ev.eq (Ev.now _) (by rw [if_pos h]; rfl))
  ·exact Ev.neg (by omega) (Ev.eq (Ev.now _) (by rw [if_neg h]; rfl))
 | false =>
  refine Ev.neg (by decide) ?_
  by_cases h : 12 < (twP lodB s.data.toList).length
  ·exact Ev.pos (by omega) (Ev.eq (Ev.now _) (by rw [if_pos h]; rfl))
  ·exact Ev.neg (by omega) (Ev.eq (Ev.now _) (by rw [if_neg h]; rfl))
theorem number_is (s : ByteArray) (hs : s.size ≤ 4096) : lex_number.f s = some (3, bA (twP digB s.data.toList), 0, if headB letB (s.data.toList.drop (twP digB s.data.toList).length) = true then 1 else (parseN (bA (twP digB s.data.toList))).2) := by
 have hle := runP_le digB s.data.toList
 rw [data_length] at hle
 unfold lex_number.f
 rw [show lex_run_lex_isDigit.f s = some ((runP digB s.data.toList : Nat) : Int) by unfold lex_run_lex_isDigit.f; rw [if_pos (by omega)]]
 simp only [Option.bind_some]
 rw [if_pos (by omega), if_pos (by omega), Int.toNat_natCast, ext_bA, runP_tw, tw_take]
 rw [runP_tw] at hle
 have hp : num_Parse.f (bA (twP digB s.data.toList)) = some (parseN (bA (twP digB s.data.toList))) := by unfold num_Parse.f; rw [if_pos (by rw [bA_size]; omega)]
 rw [hp]
 by_cases h : (twP digB s.data.toList).length < s.size
 ·rw [if_pos (by omega), letB_some, head_drop letB s h]
  simp only [Option.bind_some]
  cases letB (bt s ((twP digB s.data.toList).length : Nat)) <;> rfl
 ·rw [if_neg (by omega)]
  have : s.data.toList.drop (twP digB s.data.toList).length = [] := List.drop_eq_nil_of_le (by rw [data_length]; omega)
  rw [this]
  rfl
theorem sign_is (s : ByteArray) : lex_sign.f s = some ((signK s.data.toList).1, bA (signK s.data.toList).2.1, 0, (signK s.data.toList).2.2) := by
 have hp : prefB s = isPre s.data.toList := by rw [← prefB_isPre, bA_of]
 unfold lex_sign.f signK
 rw [hp]
 split
 ·rfl
 ·simp only [bA_of]
theorem next_ev (s : ByteArray) (hs : s.size ≤ 4096) (h0 : 0 < s.size) : Ev (fun k => lex_next.f k s) ((tokF s.data.toList).1, bA (tokF s.data.toList).2.1, 0, (tokF s.data.toList).2.2) := by
 refine Ev.pos (by omega) (Ev.one (letB_some _) ?_)
 unfold tokF
 rw [head_bt letB s h0, head_bt digB s h0]
 cases letB (bt s 0) with
 | true => exact Ev.pos rfl (Ev.bind (word_ev s hs) (Ev.now _))
 | false =>
  refine Ev.neg (by decide) (Ev.one (show lex_isDigit.f (bt s 0) = some (digB (bt s 0)) from digB_some _) ?_)
  cases digB (bt s 0) with
  | true => exact Ev.pos rfl (Ev.one (number_is s hs) (Ev.now _))
  | false => exact Ev.neg (by decide) (Ev.one (sign_is s) (Ev.now _))
def outS {α : Type} (r : List α) (p e : Int) : List α × Int × Int := if e = 0 then (r, 0, 0) else ([], p, e)
theorem drop_drop' (l : List UInt8) (i n : Nat) : (l.drop i).drop n = l.drop (i + n) := List.drop_drop
theorem scan_l (s : ByteArray) (hs : s.size ≤ 4096) {l : List UInt8} {i : Nat} {r : List Tk} {p e : Int} (h : Sc l i r p e) : l = s.data.toList.drop i → i ≤ s.size → ∀ acc : List Tk, acc.length ≤ i → Ev (fun k => lex_Scan.l0 k s acc ((i + skipN l : Nat) : Int)) (outS (acc ++ r) p e) := by
 induction h with
 | @done l i h =>
  intro hl hi acc ha
  have hlen : l.length = s.size - i := by rw [hl, List.length_drop, data_length]
  refine Ev.step (fun k => rfl) (Ev.neg (by omega) (Ev.eq (Ev.now _) ?_))
  simp [outS]
 | @bad l i kd e t h ht he =>
  intro hl hi acc ha
  have hlen : l.length = s.size - i := by rw [hl, List.length_drop, data_length]
  have hx : (s.extract (i + skipN l) s.size).data.toList = l.drop (skipN l) := by rw [ext_drop, hl, drop_drop', ← hl]
  have hn := next_ev (s.extract (i + skipN l) s.size) (by rw [ByteArray.size_extract]; omega) (by rw [ByteArray.size_extract]; omega)
  rw [hx, ht] at hn
  refine Ev.step (fun k => rfl) (Ev.pos (by omega) (Ev.pos (by omega) (Ev.pos (by omega) ?_)))
  rw [Int.toNat_natCast]
  refine Ev.bind hn (Ev.neg he (Ev.eq (Ev.now _) ?_))
  simp [outS, he]
 | @go l i kd p e t r h ht _ ih =>
  intro hl hi acc ha
  have hlen : l.length = s.size - i := by rw [hl, List.length_drop, data_length]
  have hx : (s.extract (i + skipN l) s.size).data.toList = l.drop (skipN l) := by rw [ext_drop, hl, drop_drop', ← hl]
  have hn := next_ev (s.extract (i + skipN l) s.size) (by rw [ByteArray.size_extract]; omega) (by rw [ByteArray.size_extract]; omega)
  rw [hx, ht] at hn
  have hp := tok_pre ht
  have hpl := hp.2.length_le
  have hpos : 0 < t.length := List.length_pos_iff.mpr hp.1
  rw [List.length_drop] at hpl
  have hi' : i + skipN l + t.length ≤ s.size := by omega
  have ha' : (acc ++ [(⟨kd, bA t, ((i + skipN l : Nat) : Int)⟩ : Tk)]).length ≤ i + skipN l + t.length := by rw [List.length_append, List.length_singleton]; omega
  refine Ev.step (fun k => rfl) (Ev.pos (by omega) (Ev.pos (by omega) (Ev.pos (by omega) ?_)))
  rw [Int.toNat_natCast]
  refine Ev.bind hn (Ev.pos rfl (Ev.pos (by omega) ?_))
  have hw : wrap64 (((i + skipN l : Nat) : Int) + ((bA t).size : Int)) = ((i + skipN l + t.length : Nat) : Int) := by rw [bA_size]; unfold wrap64; omega
  simp only [hw]
  refine Ev.pos (by omega) (Ev.pos (by omega) ?_)
  rw [Int.toNat_natCast]
  have hd : l.drop (skipN l + t.length) = s.data.toList.drop (i + skipN l + t.length) := by rw [hl, drop_drop', ← hl, Nat.add_assoc]
  refine Ev.one (a := lex_skip.f (s.extract (i + skipN l + t.length) s.size)) (b := ((skipN (l.drop (skipN l + t.length)) : Nat) : Int)) ?_ ?_
  ·unfold lex_skip.f
   rw [if_pos (by rw [ByteArray.size_extract]; omega), ext_drop, hd]
  ·have hle := skipN_le (l.drop (skipN l + t.length))
   rw [List.length_drop] at hle
   have hw2 : wrap64 (((i + skipN l + t.length : Nat) : Int) + ((skipN (l.drop (skipN l + t.length)) : Nat) : Int)) = ((i + skipN l + t.length + skipN (l.drop (skipN l + t.length)) : Nat) : Int) := by unfold wrap64; omega
   rw [hw2]
   have := ih hd hi' (acc ++ [⟨kd, bA t, ((i + skipN l : Nat) : Int)⟩]) ha'
   rw [List.append_assoc] at this
   exact this
theorem scan_ev (s : ByteArray) (hs : s.size ≤ 4096) {r : List Tk} {p e : Int} (h : Sc s.data.toList 0 r p e) : Ev (fun k => lex_Scan.f k s) (outS r p e) := by
 have hle := skipN_le s.data.toList
 rw [data_length] at hle
 refine Ev.neg (by omega) (Ev.one (a := lex_skip.f s) (b := ((skipN s.data.toList : Nat) : Int)) (by unfold lex_skip.f; rw [if_pos (by omega)]) ?_)
 have := scan_l s hs h rfl (Nat.zero_le _) [] (Nat.zero_le _)
 rw [Nat.zero_add, List.nil_append] at this
 exact this
theorem scan_full (s : ByteArray) (hs : 4096 < s.size) : Ev (fun k => lex_Scan.f k s) (([] : List Tk), 4096, 4) := Ev.pos (by omega) (Ev.now _)
end Go.Proofs.YtcmppjonpmgncaaGreatDoor.Q

/- Two texts with a line feed between; the texts of the tokens with blanks between. -/

namespace Go.Proofs.YtcmppjonpmgncaaGreatDoor.Q
open Go.RowKit Go.Proofs.YtcmppjonpmgncaaGreatDoorW.PrintWords Go.Proofs.YtcmppjonpmgncaaGreatDoorW.PrintLast Go.Proofs.YtcmppjonpmgncaaGreatDoorW.PrintMore
set_option linter.unusedVariables false
set_option linter.unusedSimpArgs false
theorem Sc.zero {l : List UInt8} {i : Nat} {r : List Tk} {p e : Int} (h : Sc l i r p e) : e = 0 → p = 0 := by
 induction h with
 | done _ => exact fun _ => rfl
 | bad _ _ he => exact fun h => absurd h he
 | go _ _ _ ih => exact ih
theorem Sc.cut {l : List UInt8} {i : Nat} {r : List Tk} {p e : Int} {n : Nat} (hn : n ≤ l.length) (hs : skipN l = n + skipN (l.drop n)) (h : Sc (l.drop n) (i + n) r p e) : Sc l i r p e := by
 obtain ⟨l', hl'⟩ : ∃ l', l' = l.drop n := ⟨_, rfl⟩
 obtain ⟨i', hi'⟩ : ∃ i', i' = i + n := ⟨_, rfl⟩
 rw [← hl', ← hi'] at h
 have hlen : l'.length = l.length - n := by rw [hl', List.length_drop]
 rw [← hl'] at hs
 cases h with
 | done h => exact .done (by omega)
 | @bad _ _ kd e t h ht he =>
  have e : i' + skipN l' = i + skipN l := by omega
  rw [e]
  refine .bad (t := t) (kd := kd) (by omega) ?_ he
  rw [hs, ← List.drop_drop, ← hl']
  exact ht
 | @go _ _ _ _ _ t _ h ht k =>
  have e : i' + skipN l' = i + skipN l := by omega
  rw [e] at k ⊢
  refine .go (t := t) (by omega) ?_ ?_
  ·rw [hs, ← List.drop_drop, ← hl']
   exact ht
  ·rw [hs, Nat.add_assoc, ← List.drop_drop, ← hl', ← hs]
   exact k
theorem drop_join {a b : List UInt8} {n : Nat} (c : UInt8) (h : n ≤ a.length) : (a ++ c :: b).drop n = a.drop n ++ c :: b := List.drop_append_of_le_length h
theorem drop_ne {l : List UInt8} {n : Nat} (h : n < l.length) : l.drop n ≠ [] := fun e => by have := congrArg List.length e; rw [List.length_drop] at this; simp at this; omega
theorem Sc.join {a : List UInt8} {i : Nat} {x : List Tk} {p e : Int} (h : Sc a i x p e) : e = 0 → ∀ {b : List UInt8} {y : List Tk} {p' e' : Int}, Sc b (i + a.length + 1) y p' e' → Sc (a ++ 10 :: b) i (x ++ y) p' e' := by
 induction h with
 | @done l i h =>
  intro _ b y p' e' k
  have hs := (skip_join b l).2 h
  have e : (l ++ 10 :: b).drop (l.length + 1) = b := by
   rw [← List.drop_drop, List.drop_left]; rfl
  refine Sc.cut (n := l.length + 1) (by simp) (by rw [e]; exact hs) ?_
  rw [e]
  exact k
 | bad _ _ he => exact fun h => absurd h he
 | @go l i kd p e t r h ht _ ih =>
  intro he b y p' e' k
  have hs := (skip_join b l).1 h
  have hp := tok_pre ht
  have hlen := hp.2.length_le
  rw [List.length_drop] at hlen
  have e1 : i + skipN l = i + skipN (l ++ 10 :: b) := by rw [hs]
  rw [List.cons_append, e1]
  refine .go (t := t) (by rw [hs]; simp; omega) ?_ ?_
  ·rw [hs, drop_join 10 (by omega), tok_join (drop_ne h) b (.inl rfl)]
   exact ht
  ·rw [hs, drop_join 10 (by omega)]
   refine ih he ?_
   rw [List.length_drop, show i + skipN l + t.length + (l.length - (skipN l + t.length)) = i + l.length by omega]
   exact k
def joinT (r : List Tk) : List UInt8 := Lib.join (r.map (fun x => x.f1.data.toList)) [32]
end Go.Proofs.YtcmppjonpmgncaaGreatDoor.Q

/- Decimal digits, and the document's Parse: the same number, or the same fault. By hand (chapter 01's, widened). -/
namespace Go.Proofs.YtcmppjonpmgncaaGreatDoor.Q
open Go.RowKit Go.Proofs.YtcmppjonpmgncaaGreatDoorW.PrintWords Go.Proofs.YtcmppjonpmgncaaGreatDoorW.PrintLast Go.Proofs.YtcmppjonpmgncaaGreatDoorW.PrintMore
set_option linter.unusedVariables false
set_option linter.unusedSimpArgs false
/-- The number that digits spell, behind 'acc'. -/
def dstep (a : Nat) (c : UInt8) : Nat := a * 10 + (c.toNat - 48)
def dval (acc : Nat) (l : List UInt8) : Nat := l.foldl dstep acc
theorem dval_nil (acc : Nat) : dval acc [] = acc := List.foldl_nil
def IsDig (c : UInt8) : Prop := 48 ≤ c.toNat ∧ c.toNat ≤ 57
instance (c : UInt8) : Decidable (IsDig c) := by unfold IsDig; infer_instance
theorem dval_cons (acc : Nat) (c : UInt8) (r : List UInt8) : dval acc (c :: r) = dval (acc * 10 + (c.toNat - 48)) r := by unfold dval; rw [List.foldl_cons, dstep]
theorem dval_ge (l : List UInt8) : ∀ (acc : Nat), acc ≤ dval acc l := by
 induction l with
 | nil => exact fun _ => Nat.le_of_eq (dval_nil _).symm
 | cons c r ih =>
  intro acc
  rw [dval_cons]
  exact Nat.le_trans (Nat.le_trans (Nat.le_mul_of_pos_right acc (by decide)) (Nat.le_add_right _ _)) (ih (acc * 10 + (c.toNat - 48)))
theorem dval_snoc (l : List UInt8) (c : UInt8) : ∀ (acc : Nat), dval acc (l ++ [c]) = dval acc l * 10 + (c.toNat - 48) := by
 induction l with
 | nil => intro acc; rw [List.nil_append, dval_cons, dval_nil, dval_nil]
 | cons d r ih => intro acc; rw [List.cons_append, dval_cons, dval_cons, ih]
theorem parse_val : ∀ (l : List UInt8) (acc : Nat), (∀ c ∈ l, IsDig c) → acc < 18446744073709551616 → Lib.parseUint10 acc l = if dval acc l < 18446744073709551616 then .ok (dval acc l) else .range
 | [], acc, _, h => by rw [Lib.parseUint10, dval_nil, if_pos h]
 | c :: r, acc, hd, h => by
  have hc : IsDig c := hd c (List.mem_cons_self ..)
  have hg := dval_ge r (acc * 10 + (c.toNat - 48))
  rw [Lib.parseUint10, dval_cons, if_pos (show 48 ≤ c.toNat ∧ c.toNat ≤ 57 from hc)]
  have hi := parse_val r (acc * 10 + (c.toNat - 48)) (fun x hx => hd x (List.mem_cons_of_mem _ hx))
  generalize dval (acc * 10 + (c.toNat - 48)) r = z at hg hi ⊢
  by_cases h1 : 1844674407370955162 ≤ acc
  ·rw [if_pos h1, if_neg (show ¬ z < 18446744073709551616 by omega)]
  ·rw [if_neg h1]
   by_cases h2 : 18446744073709551616 ≤ acc * 10 + (c.toNat - 48)
   ·rw [if_pos h2, if_neg (show ¬ z < 18446744073709551616 by omega)]
   ·rw [if_neg h2]
    exact hi (by omega)
theorem dig_in (c : UInt8) (h : IsDig c) : cut09.contains c = true := by
 have : ∀ n : Fin 256, 48 ≤ n.val ∧ n.val ≤ 57 → cut09.contains (UInt8.ofNat n.val) = true := by decide +kernel
 have h2 := this ⟨c.toNat, c.toNat_lt⟩ h
 simpa using h2
theorem in_dig (c : UInt8) (h : cut09.contains c = true) : IsDig c := by
 have : ∀ n : Fin 256, cut09.contains (UInt8.ofNat n.val) = true → 48 ≤ n.val ∧ n.val ≤ 57 := by decide +kernel
 exact this ⟨c.toNat, c.toNat_lt⟩ (by simpa using h)
theorem dropWhile_all {p : UInt8 → Bool} : ∀ {l : List UInt8}, (∀ c ∈ l, p c = true) → l.dropWhile p = []
 | [], _ => rfl
 | c :: r, h => by rw [List.dropWhile_cons_of_pos (h c (List.mem_cons_self ..))]; exact dropWhile_all (fun x hx => h x (List.mem_cons_of_mem _ hx))
theorem all_of_dropWhile {p : UInt8 → Bool} : ∀ {l : List UInt8}, l.dropWhile p = [] → ∀ c ∈ l, p c = true
 | [], _, c, hc => by cases hc
 | d :: r, h, c, hc => by
  by_cases hd : p d = true
  ·rw [List.dropWhile_cons_of_pos hd] at h
   rcases List.mem_cons.mp hc with rfl | hc
   ·exact hd
   ·exact all_of_dropWhile h c hc
  ·rw [List.dropWhile_cons_of_neg hd] at h; cases h
theorem dropWhile_head {p : UInt8 → Bool} : ∀ {l : List UInt8} {a : UInt8} {b : List UInt8}, l.dropWhile p = a :: b → p a = false ∧ a ∈ l
 | [], _, _, h => by cases h
 | d :: r, a, b, h => by
  by_cases hd : p d = true
  ·rw [List.dropWhile_cons_of_pos hd] at h
   exact ⟨(dropWhile_head h).1, List.mem_cons_of_mem _ (dropWhile_head h).2⟩
  ·rw [List.dropWhile_cons_of_neg hd] at h
   obtain ⟨rfl, rfl⟩ := List.cons.inj h
   exact ⟨by simpa using hd, List.mem_cons_self ..⟩
theorem trim_digits (l : List UInt8) : (Lib.trimS l cut09).isEmpty = true ↔ ∀ c ∈ l, IsDig c := by
 unfold Lib.trimS Lib.trimLeftS Lib.trimRightS
 constructor
 ·intro h
  have h1 := List.isEmpty_iff.mp h
  have h2 := all_of_dropWhile h1
  cases hr : l.reverse.dropWhile (cut09.contains ·) with
  | nil =>
   have := all_of_dropWhile hr
   intro c hc
   exact in_dig c (this c (List.mem_reverse.mpr hc))
  | cons a b =>
   obtain ⟨e1, e2⟩ := dropWhile_head hr
   have := h2 a (by rw [List.mem_reverse, hr]; exact List.mem_cons_self ..)
   rw [e1] at this; cases this
 ·intro h
  rw [dropWhile_all (l := l.reverse) (fun c hc => dig_in c (h c (List.mem_reverse.mp hc)))]
  rfl
theorem isDig_iff (l : List UInt8) : isDigL l = true ↔ l ≠ [] ∧ (∀ c ∈ l, IsDig c) ∧ (l.head? ≠ some 48 ∨ l = [48]) := by
 unfold isDigL
 rw [Bool.and_eq_true, Bool.and_eq_true, trim_digits]
 simp only [Bool.or_eq_true, bne_iff_ne, beq_iff_eq, Bool.not_eq_true', List.isEmpty_eq_false_iff, and_assoc]
theorem trimP_data (s : ByteArray) : (trimP s).data.toList = if s.data.toList.head? = some 45 then s.data.toList.tail else s.data.toList := by
 unfold trimP
 rw [Lib.toList_data]
 split
 ·rename_i h
  simp only [ByteArray.data_extract, Array.toList_extract]
  cases hl : s.data.toList with
  | nil => rw [hl] at h; cases h
  | cons a b =>
   have : s.size = b.length + 1 := by rw [← ByteArray.size_data, ← Array.length_toList, hl]; rfl
   simp [this]
 ·rfl
theorem dval_lt : ∀ (l : List UInt8), (∀ c ∈ l, IsDig c) → ∀ acc, dval acc l + 1 ≤ (acc + 1) * 10 ^ l.length := by
 intro l
 induction l with
 | nil => intro _ acc; rw [dval_nil]; simp
 | cons c r ih =>
  intro hd acc
  have hc : 48 ≤ c.toNat ∧ c.toNat ≤ 57 := hd c (List.mem_cons_self ..)
  rw [dval_cons, List.length_cons, Nat.pow_succ]
  refine Nat.le_trans (ih (fun x hx => hd x (List.mem_cons_of_mem _ hx)) _) ?_
  rw [Nat.mul_comm (10 ^ r.length) 10, ← Nat.mul_assoc]
  exact Nat.mul_le_mul_right _ (by omega)
theorem dval_big : ∀ (l : List UInt8) (acc : Nat), acc * 10 ^ l.length ≤ dval acc l := by
 intro l
 induction l with
 | nil => intro acc; rw [dval_nil]; simp
 | cons c r ih =>
  intro acc
  rw [dval_cons, List.length_cons, Nat.pow_succ]
  refine Nat.le_trans ?_ (ih _)
  rw [Nat.mul_comm (10 ^ r.length) 10, ← Nat.mul_assoc]
  exact Nat.mul_le_mul_right _ (by omega)
theorem bt_tl (s : ByteArray) (i : Nat) (h : i < s.size) : bt s i = ((s.toList[i]'(by rw [tl_len]; exact h)).toNat : Int) := by
 rw [← bt_at s (i : Int) (by simpa using h)]
 congr 2
 simp only [Lib.toList_data, Int.toNat_natCast]
 rfl
/-- What stands behind the digits' sum. -/
def endN (s d : ByteArray) (v : Nat) : Int × Int := if d.size < s.size then (if 9223372036854775808 < v then (0, 2) else (-(v : Int), 0)) else (if 9223372036854775807 < v then (0, 2) else ((v : Int), 0))
theorem p_sum (s d : ByteArray) (hd : ∀ c ∈ d.toList, IsDig c) (h19 : d.size ≤ 19) : ∀ (m i : Nat), i + m = d.size → Ev (fun k => truantref01_Parse.l1 k s d (dval 0 (d.toList.take i) : Nat) i) (endN s d (dval 0 d.toList)) := by
 have hp : ∀ i : Nat, i ≤ 19 → 10 ^ i ≤ 10 ^ 19 := fun i hi => Nat.pow_le_pow_right (by decide) hi
 have hb : ∀ i : Nat, i ≤ d.size → dval 0 (d.toList.take i) + 1 ≤ 10 ^ i := fun i hi => by
  have := dval_lt (d.toList.take i) (fun c hc => hd c (List.mem_of_mem_take hc)) 0
  rwa [List.length_take, tl_len, Nat.min_eq_left hi, Nat.zero_add, Nat.one_mul] at this
 intro m
 induction m with
 | zero =>
  intro i hi
  have hbi := hb i (by omega)
  have hpi := hp i (by omega)
  refine Ev.step (fun k => rfl) ?_
  refine Ev.neg (by omega) ?_
  have e : d.toList.take i = d.toList := List.take_of_length_le (by rw [tl_len]; omega)
  rw [e] at hbi ⊢
  generalize dval 0 d.toList = v at hbi ⊢
  have h19' : (10 : Nat) ^ 19 = 10000000000000000000 := by decide
  have hv : v < 10000000000000000000 := by omega
  unfold endN
  by_cases h1 : d.size < s.size
  ·rw [if_pos h1]
   refine Ev.pos (by omega) ?_
   by_cases h2 : 9223372036854775808 < v
   ·rw [if_pos h2]; exact Ev.pos (by omega) (Ev.now _)
   ·rw [if_neg h2]
    refine Ev.neg (by omega) ?_
    have : wrap64 (IntKind.u64.wrap (-(v : Int))) = -(v : Int) := by rw [IntKind.wrap_u64]; unfold wrap64; omega
    rw [this]; exact Ev.now _
  ·rw [if_neg h1]
   refine Ev.neg (by omega) ?_
   by_cases h2 : 9223372036854775807 < v
   ·rw [if_pos h2]; exact Ev.pos (by omega) (Ev.now _)
   ·rw [if_neg h2]
    refine Ev.neg (by omega) ?_
    have : wrap64 (v : Int) = v := by unfold wrap64; omega
    rw [this]; exact Ev.now _
 | succ m ih =>
  intro i hi
  have hlt : i < d.size := by omega
  have hl : i < d.toList.length := by rw [tl_len]; exact hlt
  have hbi := hb i (by omega)
  have hpi : (10 : Nat) ^ i ≤ 10 ^ 18 := Nat.pow_le_pow_right (by decide) (by omega)
  have h18 : (10 : Nat) ^ 18 = 1000000000000000000 := by decide
  have hc : 48 ≤ (d.toList[i]).toNat ∧ (d.toList[i]).toNat ≤ 57 := hd _ (List.getElem_mem hl)
  refine Ev.step (fun k => rfl) ?_
  refine Ev.pos (by omega) ?_
  refine Ev.pos (by omega) ?_
  have e1 : dval 0 (d.toList.take (i + 1)) = dval 0 (d.toList.take i) * 10 + ((d.toList[i]).toNat - 48) := by
   rw [List.take_add_one, List.getElem?_eq_getElem hl]; exact dval_snoc _ _ _
  have e2 : IntKind.u64.wrap ((IntKind.u64.wrap (((dval 0 (d.toList.take i) : Nat) : Int) * 10)) + (((bt d (i : Nat)) - 48) % 256)) = ((dval 0 (d.toList.take (i + 1)) : Nat) : Int) := by
   rw [bt_tl d i hlt, e1, IntKind.wrap_u64, IntKind.wrap_u64]
   generalize dval 0 (d.toList.take i) = v at hbi ⊢
   generalize (d.toList[i]).toNat = x at hc ⊢
   omega
  have e3 : wrap64 ((i : Int) + 1) = ((i + 1 : Nat) : Int) := by unfold wrap64; omega
  rw [e2, e3]
  exact ih (i + 1) (by omega)
theorem p_digits (s d : ByteArray) (hz : d.size ≤ 5000) : ∀ (m i : Nat), i + m = d.size → (∀ (j : Nat) (h : j < d.toList.length), j < i → IsDig d.toList[j]) →
  Ev (fun k => truantref01_Parse.l0 k s d i) (if (∀ c ∈ d.toList, IsDig c) then (if 19 < d.size then (0, 2) else endN s d (dval 0 d.toList)) else (0, 1)) := by
 intro m
 induction m with
 | zero =>
  intro i hi hall
  have ha : ∀ c ∈ d.toList, IsDig c := fun c hc => by
   obtain ⟨j, hj, rfl⟩ := List.mem_iff_getElem.mp hc
   exact hall j hj (by rw [tl_len] at hj; omega)
  rw [if_pos ha]
  refine Ev.step (fun k => rfl) ?_
  refine Ev.neg (by omega) ?_
  by_cases h : 19 < d.size
  ·rw [if_pos h]; exact Ev.pos (by omega) (Ev.now _)
  ·rw [if_neg h]
   refine Ev.neg (by omega) ?_
   have := p_sum s d ha (by omega) d.size 0 (by omega)
   rwa [List.take_zero, dval_nil] at this
 | succ m ih =>
  intro i hi hall
  have hlt : i < d.size := by omega
  have hl : i < d.toList.length := by rw [tl_len]; exact hlt
  have hb := bt_tl d i hlt
  refine Ev.step (fun k => rfl) ?_
  refine Ev.pos (by omega) ?_
  refine Ev.pos (by omega) ?_
  by_cases h1 : bt d (i : Nat) < 48
  ·refine Ev.pos h1 ?_
   rw [if_neg (fun ha => by have := (ha _ (List.getElem_mem hl)).1; omega)]
   exact Ev.now _
  ·refine Ev.neg h1 ?_
   by_cases h2 : bt d (i : Nat) > 57
   ·refine Ev.pos h2 ?_
    rw [if_neg (fun ha => by have := (ha _ (List.getElem_mem hl)).2; omega)]
    exact Ev.now _
   ·refine Ev.neg h2 ?_
    have e3 : wrap64 ((i : Int) + 1) = ((i + 1 : Nat) : Int) := by unfold wrap64; omega
    rw [e3]
    refine ih (i + 1) (by omega) (fun j hj hji => ?_)
    by_cases e : j = i
    ·subst e; unfold IsDig; omega
    ·exact hall j hj (by omega)
theorem trimP_tl (s : ByteArray) : (trimP s).toList = if s.toList.head? = some 45 then s.toList.tail else s.toList := by
 rw [Lib.toList_data, trimP_data, Lib.toList_data]
theorem bt_head {s : ByteArray} {a : UInt8} {r : List UInt8} (h : s.toList = a :: r) : bt s 0 = (a.toNat : Int) := by
 have hl : 0 < s.size := by rw [← tl_len, h]; simp
 have := bt_tl s 0 hl
 rw [show ((0 : Nat) : Int) = 0 from rfl] at this
 rw [this]
 congr 2
 simp [h]
/-- What is said behind the sign: of s, and of d, which stands behind it. -/
theorem p_rest (s d : ByteArray) (hz : d.size ≤ 5000) (hs : s.toList = [48] → d.toList = [48]) (hsd : d.toList = [48] → s.toList ≠ [48] → s.toList = [45, 48]) (hm0 : s.toList = [45, 48] → d.toList = [48]) :
  Ev (fun k => truantref01_Parse.j1 k s d) (if isDigL d.toList = false ∨ s.toList = [45, 48] then (0, 1) else (if 19 < d.size then (0, 2) else endN s d (dval 0 d.toList))) := by
 refine Ev.step (fun k => rfl) ?_
 cases hd : d.toList with
 | nil =>
  have h0 : (d.size : Int) = 0 := by rw [← tl_len, hd]; rfl
  rw [if_pos (.inl rfl)]
  refine Ev.pos h0 ?_
  exact Ev.step (f := fun _ => some (0, 1)) (fun k => by simp [truantref01_Parse.j2]) (Ev.now _)
 | cons a r =>
  have h0 : ¬ (d.size : Int) = 0 := by rw [← tl_len, hd, List.length_cons]; omega
  refine Ev.neg h0 ?_
  refine Ev.pos (by omega) ?_
  have hb := bt_head hd
  -- the digits are asked, from here
  have dig : (isDigL (a :: r) = true ↔ (∀ c ∈ a :: r, IsDig c) ∧ (a ≠ 48 ∨ a :: r = [48])) := by rw [isDig_iff]; simp
  have go : s.toList ≠ [45, 48] → (a ≠ 48 ∨ a :: r = [48]) → Ev (fun k => truantref01_Parse.j2 k s d false) (if isDigL (a :: r) = false ∨ s.toList = [45, 48] then (0, 1) else (if 19 < d.size then (0, 2) else endN s d (dval 0 (a :: r)))) := by
   intro hm hh
   refine Ev.step (f := fun k => truantref01_Parse.l0 k s d 0) (fun k => by simp [truantref01_Parse.j2]) ?_
   have := p_digits s d hz d.size 0 (by omega) (fun j _ hj => absurd hj (by omega))
   rw [hd] at this
   refine Ev.eq this ?_
   by_cases ha : ∀ c ∈ a :: r, IsDig c
   ·have : isDigL (a :: r) = true := dig.mpr ⟨ha, hh⟩
    rw [if_pos ha, if_neg (show ¬ (isDigL (a :: r) = false ∨ s.toList = [45, 48]) by simp [this, hm])]
   ·have : isDigL (a :: r) = false := by
     cases h : isDigL (a :: r) with
     | false => rfl
     | true => exact absurd (dig.mp h).1 ha
    rw [if_neg ha, if_pos (.inl this)]
  have stop : (isDigL (a :: r) = false ∨ s.toList = [45, 48]) → Ev (fun k => truantref01_Parse.j2 k s d true) (if isDigL (a :: r) = false ∨ s.toList = [45, 48] then (0, 1) else (if 19 < d.size then (0, 2) else endN s d (dval 0 (a :: r)))) := by
   intro h
   rw [if_pos h]
   exact Ev.step (f := fun _ => some (0, 1)) (fun k => by simp [truantref01_Parse.j2]) (Ev.now _)
  by_cases h48 : a = 48
  ·subst h48
   refine Ev.pos (by rw [hb]; rfl) ?_
   by_cases hs1 : s.toList = [48]
   ·have hd1 : (48 : UInt8) :: r = [48] := by rw [← hd]; exact hs hs1
    rw [show (s.toList != ([48] : List UInt8)) = false by simpa using hs1]
    exact go (by rw [hs1]; decide) (.inr hd1)
   ·rw [show (s.toList != ([48] : List UInt8)) = true by simpa using hs1]
    refine stop ?_
    by_cases hr : (48 : UInt8) :: r = [48]
    ·exact .inr (hsd (hd.trans hr) hs1)
    ·left
     cases h : isDigL ((48 : UInt8) :: r) with
     | false => rfl
     | true =>
      rcases (dig.mp h).2 with h | h
      ·exact absurd rfl h
      ·exact absurd h hr
  ·have hne : ¬ bt d 0 = 48 := by
    rw [hb]; intro e
    exact h48 (UInt8.toNat_inj.mp (by rw [show (48 : UInt8).toNat = 48 from rfl]; omega))
   refine Ev.neg hne ?_
   by_cases hm : s.toList = [45, 48]
   ·have := hm0 hm
    rw [hd] at this
    exact absurd (List.cons.inj this).1 h48
   ·exact go hm (.inl h48)
theorem size_ext {s : ByteArray} {a : UInt8} {r : List UInt8} (h : s.toList = a :: r) : (s.extract 1 s.size).toList = r := by
 rw [Lib.toList_data] at h ⊢
 have : s.size = r.length + 1 := by rw [← ByteArray.size_data, ← Array.length_toList, h]; rfl
 simp only [ByteArray.data_extract, Array.toList_extract, h]
 simp [this, h]
/-- What Parse says, in the document's words. -/
theorem parseN_is (s d : ByteArray) (hd : d.toList = (trimP s).toList) (hz : s.size ≤ 5000) : parseN s = (if isDigL d.toList = false ∨ s.toList = [45, 48] then (0, 1) else (if 19 < d.size then (0, 2) else endN s d (dval 0 d.toList))) := by
 unfold parseN
 rw [← Lib.toList_data, ← hd]
 by_cases hc : isDigL d.toList = false ∨ s.toList = [45, 48]
 ·rw [if_pos hc, if_pos hc]
 ·rw [if_neg hc, if_neg hc]
  have hi : isDigL d.toList = true := by cases h : isDigL d.toList with
   | false => exact absurd (.inl h) hc
   | true => rfl
  obtain ⟨h1, h2, h3⟩ := (isDig_iff _).mp hi
  have hlen : d.toList.length = d.size := tl_len d
  -- 20 digits, the first not 0: too great
  have big : 19 < d.size → 9223372036854775808 < dval 0 d.toList := by
   intro h19
   cases hl : d.toList with
   | nil => exact absurd hl h1
   | cons a r =>
    rw [hl] at h2 h3 hlen
    have ha : 48 ≤ a.toNat ∧ a.toNat ≤ 57 := h2 a (List.mem_cons_self ..)
    have h48 : a ≠ 48 := by
     rcases h3 with h | h
     ·simpa using h
     ·have : r = [] := (List.cons.inj h).2
      rw [this] at hlen; simp at hlen; omega
    have h49 : 49 ≤ a.toNat := by
     rcases Nat.lt_or_ge 48 a.toNat with h | h
     ·exact h
     ·exact absurd (UInt8.toNat_inj.mp (by rw [show (48 : UInt8).toNat = 48 from rfl]; omega)) h48
    rw [dval_cons]
    refine Nat.lt_of_lt_of_le ?_ (dval_big r _)
    have hr : 19 ≤ r.length := by simp at hlen; omega
    have hp : (10 : Nat) ^ 19 ≤ 10 ^ r.length := Nat.pow_le_pow_right (by decide) hr
    have h19 : (10 : Nat) ^ 19 = 10000000000000000000 := by decide
    have hm : 1 * 10 ^ r.length ≤ (0 * 10 + (a.toNat - 48)) * 10 ^ r.length := Nat.mul_le_mul_right _ (by omega)
    omega
  have hv : Lib.parseMag d.toList = if dval 0 d.toList < 18446744073709551616 then .ok (dval 0 d.toList) else .range := by
   unfold Lib.parseMag
   rw [if_neg h1, parse_val _ _ h2 (by decide)]
  unfold endN
  rw [trimP_tl] at hd
  by_cases h45 : s.toList.head? = some 45
  ·rw [if_pos h45] at hd
   cases hs : s.toList with
   | nil => rw [hs] at h45; cases h45
   | cons a r =>
    rw [hs] at h45 hd
    obtain rfl : a = 45 := by simpa using h45
    have hd' : r = d.toList := hd.symm
    have hlt : d.size < s.size := by rw [← tl_len, ← tl_len s, hs, hd']; simp
    rw [← Lib.toList_data, hs, Lib.atoiAll_minus, hd', hv]
    generalize dval 0 d.toList = v at big ⊢
    by_cases h0 : v < 18446744073709551616
    ·rw [if_pos h0]
     simp only [Lib.signed]
     by_cases hg : 9223372036854775808 < v
     ·rw [if_pos hg, if_pos hlt, if_pos hg]; simp
     ·rw [if_neg hg, if_neg (fun h => hg (big h)), if_pos hlt, if_neg hg]
    ·rw [if_neg h0, if_pos hlt, if_pos (show 9223372036854775808 < v by omega)]
     simp only [Lib.signed]; simp
  ·rw [if_neg h45] at hd
   cases hs : s.toList with
   | nil => rw [hs] at hd; exact absurd hd h1
   | cons a r =>
    have hnlt : ¬ d.size < s.size := by rw [← tl_len, ← tl_len s, hd]; omega
    have ha : 48 ≤ a.toNat ∧ a.toNat ≤ 57 := h2 a (by rw [hd, hs]; exact List.mem_cons_self ..)
    rw [← Lib.toList_data, hs, Lib.atoiAll_plain _ _ (by omega) (by omega), ← hs, ← hd, hv]
    generalize dval 0 d.toList = v at big ⊢
    by_cases h0 : v < 18446744073709551616
    ·rw [if_pos h0]
     simp only [Lib.signless]
     by_cases hg : 9223372036854775808 ≤ v
     ·rw [if_pos hg, if_neg hnlt, if_pos (show 9223372036854775807 < v by omega)]; simp
     ·rw [if_neg hg, if_neg (fun h => hg (Nat.le_of_lt (big h))), if_neg hnlt, if_neg (show ¬ 9223372036854775807 < v by omega)]
    ·rw [if_neg h0, if_neg hnlt, if_pos (show 9223372036854775807 < v by omega)]
     simp only [Lib.signless]; simp
theorem parse_same (s : ByteArray) (hz : s.size ≤ 5000) : Ev (fun k => truantref01_Parse.f k s) (parseN s) := by
 unfold truantref01_Parse.f
 cases hs : s.toList with
 | nil =>
  have h0 : ¬ (s.size : Int) > 0 := by rw [← tl_len, hs]; simp
  refine Ev.neg h0 ?_
  have hd : s.toList = (trimP s).toList := by rw [trimP_tl, hs]; rfl
  rw [parseN_is s s hd hz]
  exact Ev.step (f := fun k => truantref01_Parse.j1 k s s) (fun k => by simp [truantref01_Parse.j0]) (p_rest s s hz (fun h => h) (fun h h' => absurd h h') (fun h => by rw [hs] at h; cases h))
 | cons a r =>
  have h0 : (s.size : Int) > 0 := by rw [← tl_len, hs, List.length_cons]; omega
  refine Ev.pos h0 ?_
  refine Ev.pos (by omega) ?_
  have hb := bt_head hs
  by_cases h45 : a = 45
  ·subst h45
   have hb' : (bt s 0 == 45) = true := by rw [hb]; rfl
   have he := size_ext hs
   have hd : (s.extract 1 s.size).toList = (trimP s).toList := by rw [he, trimP_tl, hs]; rfl
   rw [parseN_is s _ hd hz, hb']
   have h1 : (1 : Int) ≤ (s.size : Int) := by omega
   refine Ev.step (f := fun k => truantref01_Parse.j1 k s (s.extract 1 s.size)) (fun k => by simp only [truantref01_Parse.j0, if_true]; rw [if_pos h1]) ?_
   refine p_rest s _ ?_ (fun h => ?_) (fun h _ => ?_) (fun h => ?_)
   ·rw [← tl_len, he]; rw [← tl_len, hs] at hz; simp at hz; omega
   ·rw [hs] at h; cases h
   ·rw [he] at h; rw [hs, h]
   ·rw [he]; rw [hs] at h; exact (List.cons.inj h).2
  ·have hb' : (bt s 0 == 45) = false := by
    rw [hb, beq_eq_false_iff_ne]
    intro e
    exact h45 (UInt8.toNat_inj.mp (by rw [show (45 : UInt8).toNat = 45 from rfl]; omega))
   have hd : s.toList = (trimP s).toList := by rw [trimP_tl, hs, if_neg (by simpa using h45)]
   rw [parseN_is s s hd hz, hb']
   exact Ev.step (f := fun k => truantref01_Parse.j1 k s s) (fun k => by simp [truantref01_Parse.j0]) (p_rest s s hz (fun h => h) (fun h h' => absurd h h') (fun h => by rw [hs] at h; exact absurd (List.cons.inj h).1 h45))
end Go.Proofs.YtcmppjonpmgncaaGreatDoor.Q

