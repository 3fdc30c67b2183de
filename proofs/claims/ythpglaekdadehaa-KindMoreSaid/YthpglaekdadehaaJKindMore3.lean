/- What the row of KindMore rests on, part 3: contracts of the functions that it reaches, and the plain law. -/
import Derived.Test.YthpglaekdadehaaJKindMore2
namespace Go.Proofs.Ythpglaekdadehaa.Q
open Go.RowKit Go.Proofs.YthpglaekdadehaaW.PrintWords Go.Proofs.YthpglaekdadehaaW.PrintLast Go.Proofs.YthpglaekdadehaaW.PrintMore
attribute [local go_sem] max2_int min2_int max_two min_two max_three min_three max_four min_four   -- for this text's walks alone
set_option linter.unusedVariables false
set_option linter.unusedSimpArgs false

attribute [local go_sem high] eqA48
/-! ### truantref03_Same: function 23 -/
mutual
def truantref03_Same.l0 : Nat → List (S43) → List (S43) → Int → Option (Bool)
 | 0, _, _, _ => none
 | k + 1, x0, x1, x5 => if x5 < (x0.length : Int) then (if 0 ≤ x5 then (if x5 < (x1.length : Int) then (if ((rd_T43 x0 x5).f0).toList = ((rd_T43 x1 x5).f0).toList then (truantref03_Same.j1 k x0 x1 x5 ((((rd_T43 x0 x5).f1).length : Int) != (((rd_T43 x1 x5).f1).length : Int))) else (truantref03_Same.j1 k x0 x1 x5 true)) else (none)) else (none)) else (some true)
def truantref03_Same.j1 : Nat → List (S43) → List (S43) → Int → Bool → Option (Bool)
 | 0, _, _, _, _ => none
 | k + 1, x0, x1, x5, x43 => if x43 = true then (some false) else (truantref03_Same.l1 k x0 x1 x5 0)
def truantref03_Same.l1 : Nat → List (S43) → List (S43) → Int → Int → Option (Bool)
 | 0, _, _, _, _ => none
 | k + 1, x0, x1, x5, x6 => if 0 ≤ x5 then (if x5 < (x0.length : Int) then (if x6 < (((rd_T43 x0 x5).f1).length : Int) then (if 0 ≤ x6 then (if x5 < (x1.length : Int) then (if x6 < (((rd_T43 x1 x5).f1).length : Int) then (if (!((((rd_T48 ((rd_T43 x0 x5).f1) x6).f0).toList) == (((rd_T48 ((rd_T43 x1 x5).f1) x6).f0).toList)) || (!((((rd_T48 ((rd_T43 x0 x5).f1) x6).f1).toList) == (((rd_T48 ((rd_T43 x1 x5).f1) x6).f1).toList)))) = true then (some false) else (truantref03_Same.l1 k x0 x1 x5 (wrap64 (x6 + 1)))) else (none)) else (none)) else (none)) else (truantref03_Same.l0 k x0 x1 (wrap64 (x5 + 1)))) else (none)) else (none)
end
def truantref03_Same.f (k : Nat) (l0 : List (S43)) (l1 : List (S43)) : Option (Bool) := if (l0.length : Int) = (l1.length : Int) then (truantref03_Same.l0 k l0 l1 0) else (some false)
theorem truantref03_Same.mono_l : ∀ k, (∀ y0 y1 y2, LeO (truantref03_Same.l0 k y0 y1 y2) (truantref03_Same.l0 (k + 1) y0 y1 y2)) ∧ (∀ y0 y1 y2 y3, LeO (truantref03_Same.j1 k y0 y1 y2 y3) (truantref03_Same.j1 (k + 1) y0 y1 y2 y3)) ∧ (∀ y0 y1 y2 y3, LeO (truantref03_Same.l1 k y0 y1 y2 y3) (truantref03_Same.l1 (k + 1) y0 y1 y2 y3))
 | 0 => ⟨fun _ _ _ r h => by simp [truantref03_Same.l0] at h, fun _ _ _ _ r h => by simp [truantref03_Same.j1] at h, fun _ _ _ _ r h => by simp [truantref03_Same.l1] at h⟩
 | k + 1 => by
  obtain ⟨ih0, ih1, ih2⟩ := truantref03_Same.mono_l k
  refine ⟨?_, ?_, ?_⟩
  ·intro y0 y1 y2
   unfold truantref03_Same.l0
   repeat' first
   | (with_reducible exact ih0 _ _ _)
   | (with_reducible exact ih1 _ _ _ _)
   | (with_reducible exact ih2 _ _ _ _)
   | (with_reducible exact LeO.refl _)
   | (with_reducible exact LeO.none _)
   | (with_reducible refine LeO.ite ?_ ?_)
   | (with_reducible refine LeO.bind ?_ (fun _ => ?_))
   | exact ih0 _ _ _
   | exact ih1 _ _ _ _
   | exact ih2 _ _ _ _
   | exact LeO.none _
   | refine LeO.ite ?_ ?_
   | refine LeO.bind ?_ (fun _ => ?_)
  ·intro y0 y1 y2 y3
   unfold truantref03_Same.j1
   repeat' first
   | (with_reducible exact ih0 _ _ _)
   | (with_reducible exact ih1 _ _ _ _)
   | (with_reducible exact ih2 _ _ _ _)
   | (with_reducible exact LeO.refl _)
   | (with_reducible exact LeO.none _)
   | (with_reducible refine LeO.ite ?_ ?_)
   | (with_reducible refine LeO.bind ?_ (fun _ => ?_))
   | exact ih0 _ _ _
   | exact ih1 _ _ _ _
   | exact ih2 _ _ _ _
   | exact LeO.none _
   | refine LeO.ite ?_ ?_
   | refine LeO.bind ?_ (fun _ => ?_)
  ·intro y0 y1 y2 y3
   unfold truantref03_Same.l1
   repeat' first
   | (with_reducible exact ih0 _ _ _)
   | (with_reducible exact ih1 _ _ _ _)
   | (with_reducible exact ih2 _ _ _ _)
   | (with_reducible exact LeO.refl _)
   | (with_reducible exact LeO.none _)
   | (with_reducible refine LeO.ite ?_ ?_)
   | (with_reducible refine LeO.bind ?_ (fun _ => ?_))
   | exact ih0 _ _ _
   | exact ih1 _ _ _ _
   | exact ih2 _ _ _ _
   | exact LeO.none _
   | refine LeO.ite ?_ ?_
   | refine LeO.bind ?_ (fun _ => ?_)
theorem truantref03_Same.mono : ∀ a0 a1 k, LeO (truantref03_Same.f k a0 a1) (truantref03_Same.f (k + 1) a0 a1) := by
 intro a0 a1 k
 obtain ⟨ih0, ih1, ih2⟩ := truantref03_Same.mono_l k
 unfold truantref03_Same.f
 repeat' first
   | (with_reducible exact ih0 _ _ _)
   | (with_reducible exact ih1 _ _ _ _)
   | (with_reducible exact ih2 _ _ _ _)
   | (with_reducible exact LeO.refl _)
   | (with_reducible exact LeO.none _)
   | (with_reducible refine LeO.ite ?_ ?_)
   | (with_reducible refine LeO.bind ?_ (fun _ => ?_))
   | exact ih0 _ _ _
   | exact ih1 _ _ _ _
   | exact ih2 _ _ _ _
   | exact LeO.none _
   | refine LeO.ite ?_ ?_
   | refine LeO.bind ?_ (fun _ => ?_)
set_option maxHeartbeats 8000000 in
set_option maxRecDepth 100000 in
theorem truantref03_Same.calls (k : Nat) (A0 : Option Addr) (c0 : Nat) (l0 : List (S43)) (A1 : Option Addr) (c1 : Nat) (l1 : List (S43)) (r : Bool) (w : World) (hr0 : Kd.C k43 w A0 l0.length l0) (hc0 : l0.length ≤ c0) (hr1 : Kd.C k43 w A1 l1.length l1) (hc1 : l1.length ≤ c1) (h : truantref03_Same.f k l0 l1 = some r) :
  Calls Try.prog 23 #[.slice A0 l0.length c0, .slice A1 l1.length c1] w fun e w' => e = .returned (.bool r) ∧ Drawn0 w w' := by
 have hu48 := Try.underlying48
 have HR0 := Aside0.mk hr0
 have HC0 := Aside0.mk hc0
 clear hr0 hc0
 have HR1 := Aside0.mk hr1
 have HC1 := Aside0.mk hc1
 clear hr1 hc1
 have H : (if (l0.length : Int) = (l1.length : Int) then (truantref03_Same.l0 k l0 l1 0) else (some false)) = some r := h
 clear h
 by_cases c3 : (l0.length : Int) = (l1.length : Int)
 ·rw [if_pos c3] at H
  have c3b0 : ((l0.length : Int) == (l1.length : Int)) = true := beq_iff_eq.mpr c3
  have c3b1 : ((l0.length : Int) != (l1.length : Int)) = false := bne_eq_false_iff_eq.mpr c3
  have c3b2 : (l0.length == l1.length) = true := by first | simpa using c3 | (simp at c3 ⊢; omega)
  clear c3
  have H' := Aside0.mk H
  clear H
  go_enter Try.func23, Try.ntmps23
  go_wp2
  repeat (go_quiet (fail); try go_wp2)
  go_loopg [5] k (fun kq v5 w' => ∃ (x5_1 : Int), v5 = .int .i64 x5_1 ∧ Aside0 (truantref03_Same.l0 kq l0 l1 x5_1 = some r) ∧ Aside0 (kq ≤ k) ∧ Drawn0 w w')
  case atStart => exact ⟨(0), (by first | rfl | (simp; done) | (simp [*]; done)), H', ⟨Nat.le_refl _⟩, by repeat (first | exact Drawn0.refl _ | apply Drawn0.step)⟩
  case round =>
   clear H'
   try clear c1
   try clear c2
   try clear p2
   try clear c3
   try clear c3b0
   try clear c3b1
   try clear c3b2
   obtain ⟨x5_1, rfl, HA, HK1, ⟨m1, rfl⟩⟩ := hrel
   cases gk with
   | zero => exact absurd HA.out (by simp [truantref03_Same.l0])
   | succ k1 =>
    have H := HA.out
    clear HA
    simp only [truantref03_Same.l0] at H
    by_cases c4 : x5_1 < (l0.length : Int)
    ·rw [if_pos c4] at H
     have c4b0 : decide (x5_1 < (l0.length : Int)) = true := decide_eq_true c4
     clear c4
     have HC5 := Aside0.mk H
     clear H
     go_upto_region 6 with (fail)
     repeat (go_quiet (fail); go_upto_region 6 with (fail))
     go_cut [43] (fun v43 wc => ∃ (kq : Nat) (x43_4 : Bool), v43 = .bool x43_4 ∧ Aside0 (truantref03_Same.j1 kq l0 l1 x5_1 x43_4 = some r) ∧ Aside0 (kq ≤ k1) ∧ Drawn0 w wc)
     case first =>
      have H := HC5.out
      clear HC5
      by_cases c6 : 0 ≤ x5_1
      ·rw [if_pos c6] at H
       have c6b0 : decide (0 ≤ x5_1) = true := decide_eq_true c6
       clear c6
       (first | rw [c6b0] | (simp only [i64_w, i32_w]; rw [c6b0]) | skip)
       by_cases c7 : x5_1 < (l1.length : Int)
       ·rw [if_pos c7] at H
        have c7b0 : decide (x5_1 < (l1.length : Int)) = true := decide_eq_true c7
        clear c7
        by_cases c8 : ((rd_T43 l0 x5_1).f0).toList = ((rd_T43 l1 x5_1).f0).toList
        ·rw [if_pos c8] at H
         have c8b0 : (((rd_T43 l0 x5_1).f0).toList == ((rd_T43 l1 x5_1).f0).toList) = true := beq_iff_eq.mpr c8
         have c8b1 : (((rd_T43 l0 x5_1).f0).toList != ((rd_T43 l1 x5_1).f0).toList) = false := bne_eq_false_iff_eq.mpr c8
         clear c8
         have H' := Aside0.mk H
         clear H
         have p268 : 0 ≤ (x5_1 : Int) := of_decide_eq_true (by first | (with_reducible assumption) | assumption)
         have q268 : x5_1 < (l0.length : Int) := of_decide_eq_true (by first | (with_reducible assumption) | assumption)
         obtain ⟨ad268, A268_1, c268_1, e268, hx268_0, hx268_1, hl268_1, hi268_1⟩ := at_T43 HR0.out x5_1 p268 q268
         cases e268
         have HR268_1 := Aside0.mk hi268_1
         have HC268_1 := Aside0.mk hl268_1
         clear hi268_1 hl268_1
         replace p268 := eq_true p268
         replace q268 := eq_true q268
         have p269 : 0 ≤ (x5_1 : Int) := of_decide_eq_true (by first | (with_reducible assumption) | assumption)
         have q269 : x5_1 < (l1.length : Int) := of_decide_eq_true (by first | (with_reducible assumption) | assumption)
         obtain ⟨ad269, A269_1, c269_1, e269, hx269_0, hx269_1, hl269_1, hi269_1⟩ := at_T43 HR1.out x5_1 p269 q269
         cases e269
         have HR269_1 := Aside0.mk hi269_1
         have HC269_1 := Aside0.mk hl269_1
         clear hi269_1 hl269_1
         replace p269 := eq_true p269
         replace q269 := eq_true q269
         have p270 : 0 ≤ (x5_1 : Int) := of_decide_eq_true (by first | (with_reducible assumption) | assumption)
         have q270 : x5_1 < (l0.length : Int) := of_decide_eq_true (by first | (with_reducible assumption) | assumption)
         obtain ⟨ad270, A270_1, c270_1, e270, hx270_0, hx270_1, hl270_1, hi270_1⟩ := at_T43 HR0.out x5_1 p270 q270
         obtain rfl : ad268 = ad270 := (by injection e270)
         have HR270_1 := Aside0.mk hi270_1
         have HC270_1 := Aside0.mk hl270_1
         clear hi270_1 hl270_1
         replace p270 := eq_true p270
         replace q270 := eq_true q270
         have ea_ := Option.some.inj (hx268_1.symm.trans hx270_1)
         injection ea_ with ea_ en_ ec_
         subst ea_
         subst ec_
         clear en_
         have p271 : 0 ≤ (x5_1 : Int) := of_decide_eq_true (by first | (with_reducible assumption) | assumption)
         have q271 : x5_1 < (l1.length : Int) := of_decide_eq_true (by first | (with_reducible assumption) | assumption)
         obtain ⟨ad271, A271_1, c271_1, e271, hx271_0, hx271_1, hl271_1, hi271_1⟩ := at_T43 HR1.out x5_1 p271 q271
         obtain rfl : ad269 = ad271 := (by injection e271)
         have HR271_1 := Aside0.mk hi271_1
         have HC271_1 := Aside0.mk hl271_1
         clear hi271_1 hl271_1
         replace p271 := eq_true p271
         replace q271 := eq_true q271
         have ea_ := Option.some.inj (hx269_1.symm.trans hx271_1)
         injection ea_ with ea_ en_ ec_
         subst ea_
         subst ec_
         clear en_
         go_wp2
         repeat (go_quiet (fail); try go_wp2)
         go_meet
         case rel => exact ⟨_, (((((rd_T43 l0 x5_1).f1).length : Int) != (((rd_T43 l1 x5_1).f1).length : Int))), (by first | rfl | (simp; done) | (simp [*]; done)), H', ⟨by have := HK1.out; first | omega | exact Nat.le_refl _⟩, by repeat (first | exact Drawn0.refl _ | apply Drawn0.step)⟩
        ·rw [if_neg c8] at H
         have c8b0 : (((rd_T43 l0 x5_1).f0).toList == ((rd_T43 l1 x5_1).f0).toList) = false := beq_eq_false_iff_ne.mpr c8
         have c8b1 : (((rd_T43 l0 x5_1).f0).toList != ((rd_T43 l1 x5_1).f0).toList) = true := bne_iff_ne.mpr c8
         have H' := Aside0.mk H
         clear H
         have p268 : 0 ≤ (x5_1 : Int) := of_decide_eq_true (by first | (with_reducible assumption) | assumption)
         have q268 : x5_1 < (l0.length : Int) := of_decide_eq_true (by first | (with_reducible assumption) | assumption)
         obtain ⟨ad268, A268_1, c268_1, e268, hx268_0, hx268_1, hl268_1, hi268_1⟩ := at_T43 HR0.out x5_1 p268 q268
         cases e268
         have HR268_1 := Aside0.mk hi268_1
         have HC268_1 := Aside0.mk hl268_1
         clear hi268_1 hl268_1
         replace p268 := eq_true p268
         replace q268 := eq_true q268
         have p269 : 0 ≤ (x5_1 : Int) := of_decide_eq_true (by first | (with_reducible assumption) | assumption)
         have q269 : x5_1 < (l1.length : Int) := of_decide_eq_true (by first | (with_reducible assumption) | assumption)
         obtain ⟨ad269, A269_1, c269_1, e269, hx269_0, hx269_1, hl269_1, hi269_1⟩ := at_T43 HR1.out x5_1 p269 q269
         cases e269
         have HR269_1 := Aside0.mk hi269_1
         have HC269_1 := Aside0.mk hl269_1
         clear hi269_1 hl269_1
         replace p269 := eq_true p269
         replace q269 := eq_true q269
         go_wp2
         repeat (go_quiet (fail); try go_wp2)
         go_meet
         case rel => exact ⟨_, (true), (by first | rfl | (simp; done) | (simp [*]; done)), H', ⟨by have := HK1.out; first | omega | exact Nat.le_refl _⟩, by repeat (first | exact Drawn0.refl _ | apply Drawn0.step)⟩
       ·rw [if_neg c7] at H
        exact absurd H (by simp)
      ·rw [if_neg c6] at H
       exact absurd H (by simp)
     case rest =>
      clear HC5
      try clear c1
      try clear c2
      try clear p2
      try clear q2
      try clear hx2
      try clear c3
      try clear c3b0
      try clear c3b1
      try clear c3b2
      try clear c4
      try clear c4b0
      try clear c6
      try clear c6b0
      try clear c7
      try clear c7b0
      try clear c8
      try clear c8b0
      try clear c8b1
      try clear hx268_0
      try clear hx268_1
      try clear hx269_0
      try clear hx269_1
      try clear hx270_0
      try clear hx270_1
      try clear hx271_0
      try clear hx271_1
      try clear p2
      try clear p268
      try clear p269
      try clear p270
      try clear p271
      try clear q268
      try clear q269
      try clear q270
      try clear q271
      obtain ⟨kq, x43_4, rfl, HA, HJ4, ⟨mc4, rfl⟩⟩ := hcut
      cases kq with
      | zero => exact absurd HA.out (by simp [truantref03_Same.j1])
      | succ kj4 =>
       have H := HA.out
       clear HA
       simp only [truantref03_Same.j1] at H
       by_cases c9 : x43_4 = true
       ·subst c9
        have H1 : (some false) = some r := by rw [if_pos rfl] at H; exact H
        clear H
        have H := H1
        clear H1
        obtain rfl := Option.some.inj H
        go_wp2
        repeat (go_quiet (fail); try go_wp2)
        go_ret
        exact ⟨by first | rfl | (simp; done) | (simp [*]; done), by repeat (first | exact Drawn0.refl _ | apply Drawn0.step)⟩
       ·replace c9 := Bool.eq_false_iff.mpr c9
        subst c9
        have H1 : (truantref03_Same.l1 kj4 l0 l1 x5_1 0) = some r := by rw [if_neg (show ¬ (false = true) by decide)] at H; exact H
        clear H
        have H := H1
        clear H1
        have H' := Aside0.mk H
        clear H
        go_wp2
        repeat (go_quiet (fail); try go_wp2)
        go_loopg [6] kj4 (fun kq v6 w' => ∃ (x6_3 : Int), v6 = .int .i64 x6_3 ∧ Aside0 (truantref03_Same.l1 kq l0 l1 x5_1 x6_3 = some r) ∧ Aside0 (kq ≤ kj4) ∧ Drawn0 w w')
        case atStart => exact ⟨(0), (by first | rfl | (simp; done) | (simp [*]; done)), H', ⟨Nat.le_refl _⟩, by repeat (first | exact Drawn0.refl _ | apply Drawn0.step)⟩
        case round =>
         clear H'
         try clear c1
         try clear c2
         try clear p2
         try clear q2
         try clear hx2
         try clear c3
         try clear c3b0
         try clear c3b1
         try clear c3b2
         try clear c4
         try clear c4b0
         try clear c6
         try clear c6b0
         try clear c7
         try clear c7b0
         try clear c8
         try clear c8b0
         try clear c8b1
         try clear c9
         try clear hx268_0
         try clear hx268_1
         try clear hx269_0
         try clear hx269_1
         try clear hx270_0
         try clear hx270_1
         try clear hx271_0
         try clear hx271_1
         try clear p2
         try clear p268
         try clear p269
         try clear p270
         try clear p271
         try clear q2
         try clear q268
         try clear q269
         try clear q270
         try clear q271
         obtain ⟨x6_3, rfl, HA, HK3, ⟨m3, rfl⟩⟩ := hrel
         cases gk with
         | zero => exact absurd HA.out (by simp [truantref03_Same.l1])
         | succ k3 =>
          have H := HA.out
          clear HA
          simp only [truantref03_Same.l1] at H
          by_cases c10 : 0 ≤ x5_1
          ·rw [if_pos c10] at H
           have c10b0 : decide (0 ≤ x5_1) = true := decide_eq_true c10
           clear c10
           by_cases c11 : x5_1 < (l0.length : Int)
           ·rw [if_pos c11] at H
            have c11b0 : decide (x5_1 < (l0.length : Int)) = true := decide_eq_true c11
            clear c11
            by_cases c12 : x6_3 < (((rd_T43 l0 x5_1).f1).length : Int)
            ·rw [if_pos c12] at H
             have c12b0 : decide (x6_3 < (((rd_T43 l0 x5_1).f1).length : Int)) = true := decide_eq_true c12
             clear c12
             by_cases c13 : 0 ≤ x6_3
             ·rw [if_pos c13] at H
              have c13b0 : decide (0 ≤ x6_3) = true := decide_eq_true c13
              clear c13
              by_cases c14 : x5_1 < (l1.length : Int)
              ·rw [if_pos c14] at H
               have c14b0 : decide (x5_1 < (l1.length : Int)) = true := decide_eq_true c14
               clear c14
               by_cases c15 : x6_3 < (((rd_T43 l1 x5_1).f1).length : Int)
               ·rw [if_pos c15] at H
                have c15b0 : decide (x6_3 < (((rd_T43 l1 x5_1).f1).length : Int)) = true := decide_eq_true c15
                clear c15
                by_cases c16 : (!((((rd_T48 ((rd_T43 l0 x5_1).f1) x6_3).f0).toList) == (((rd_T48 ((rd_T43 l1 x5_1).f1) x6_3).f0).toList)) || (!((((rd_T48 ((rd_T43 l0 x5_1).f1) x6_3).f1).toList) == (((rd_T48 ((rd_T43 l1 x5_1).f1) x6_3).f1).toList)))) = true
                ·rw [if_pos c16] at H
                 have c16b0 : (!((((rd_T48 ((rd_T43 l0 x5_1).f1) x6_3).f0).toList) == (((rd_T48 ((rd_T43 l1 x5_1).f1) x6_3).f0).toList)) || (!((((rd_T48 ((rd_T43 l0 x5_1).f1) x6_3).f1).toList) == (((rd_T48 ((rd_T43 l1 x5_1).f1) x6_3).f1).toList)))) = true := c16
                 clear c16
                 obtain rfl := Option.some.inj H
                 have p272 : 0 ≤ (x5_1 : Int) := of_decide_eq_true (by first | (with_reducible assumption) | assumption)
                 have q272 : x5_1 < (l0.length : Int) := of_decide_eq_true (by first | (with_reducible assumption) | assumption)
                 obtain ⟨ad272, A272_1, c272_1, e272, hx272_0, hx272_1, hl272_1, hi272_1⟩ := at_T43 HR0.out x5_1 p272 q272
                 cases e272
                 have HR272_1 := Aside0.mk hi272_1
                 have HC272_1 := Aside0.mk hl272_1
                 clear hi272_1 hl272_1
                 replace p272 := eq_true p272
                 replace q272 := eq_true q272
                 have p273 : 0 ≤ (x5_1 : Int) := of_decide_eq_true (by first | (with_reducible assumption) | assumption)
                 have q273 : x5_1 < (l0.length : Int) := of_decide_eq_true (by first | (with_reducible assumption) | assumption)
                 obtain ⟨ad273, A273_1, c273_1, e273, hx273_0, hx273_1, hl273_1, hi273_1⟩ := at_T43 HR0.out x5_1 p273 q273
                 obtain rfl : ad272 = ad273 := (by injection e273)
                 have HR273_1 := Aside0.mk hi273_1
                 have HC273_1 := Aside0.mk hl273_1
                 clear hi273_1 hl273_1
                 replace p273 := eq_true p273
                 replace q273 := eq_true q273
                 have ea_ := Option.some.inj (hx272_1.symm.trans hx273_1)
                 injection ea_ with ea_ en_ ec_
                 subst ea_
                 subst ec_
                 clear en_
                 have p274 : 0 ≤ (x6_3 : Int) := of_decide_eq_true (by first | (with_reducible assumption) | assumption)
                 have q274 : x6_3 < (((rd_T43 l0 x5_1).f1).length : Int) := of_decide_eq_true (by first | (with_reducible assumption) | assumption)
                 obtain ⟨ad274, e274, hx274_0, hx274_1⟩ := at_T48 HR273_1.out x6_3 p274 q274
                 cases e274
                 replace p274 := eq_true p274
                 replace q274 := eq_true q274
                 have p275 : 0 ≤ (x5_1 : Int) := of_decide_eq_true (by first | (with_reducible assumption) | assumption)
                 have q275 : x5_1 < (l1.length : Int) := of_decide_eq_true (by first | (with_reducible assumption) | assumption)
                 obtain ⟨ad275, A275_1, c275_1, e275, hx275_0, hx275_1, hl275_1, hi275_1⟩ := at_T43 HR1.out x5_1 p275 q275
                 cases e275
                 have HR275_1 := Aside0.mk hi275_1
                 have HC275_1 := Aside0.mk hl275_1
                 clear hi275_1 hl275_1
                 replace p275 := eq_true p275
                 replace q275 := eq_true q275
                 have p276 : 0 ≤ (x6_3 : Int) := of_decide_eq_true (by first | (with_reducible assumption) | assumption)
                 have q276 : x6_3 < (((rd_T43 l1 x5_1).f1).length : Int) := of_decide_eq_true (by first | (with_reducible assumption) | assumption)
                 obtain ⟨ad276, e276, hx276_0, hx276_1⟩ := at_T48 HR275_1.out x6_3 p276 q276
                 cases e276
                 replace p276 := eq_true p276
                 replace q276 := eq_true q276
                 go_wp2
                 repeat (go_quiet (fail); try go_wp2)
                 go_ret
                 exact ⟨by first | rfl | (simp; done) | (simp [*]; done), by repeat (first | exact Drawn0.refl _ | apply Drawn0.step)⟩
                ·rw [if_neg c16] at H
                 have c16b0 : (!((((rd_T48 ((rd_T43 l0 x5_1).f1) x6_3).f0).toList) == (((rd_T48 ((rd_T43 l1 x5_1).f1) x6_3).f0).toList)) || (!((((rd_T48 ((rd_T43 l0 x5_1).f1) x6_3).f1).toList) == (((rd_T48 ((rd_T43 l1 x5_1).f1) x6_3).f1).toList)))) = false := by simpa using c16
                 clear c16
                 have H' := Aside0.mk H
                 clear H
                 have p272 : 0 ≤ (x5_1 : Int) := of_decide_eq_true (by first | (with_reducible assumption) | assumption)
                 have q272 : x5_1 < (l0.length : Int) := of_decide_eq_true (by first | (with_reducible assumption) | assumption)
                 obtain ⟨ad272, A272_1, c272_1, e272, hx272_0, hx272_1, hl272_1, hi272_1⟩ := at_T43 HR0.out x5_1 p272 q272
                 cases e272
                 have HR272_1 := Aside0.mk hi272_1
                 have HC272_1 := Aside0.mk hl272_1
                 clear hi272_1 hl272_1
                 replace p272 := eq_true p272
                 replace q272 := eq_true q272
                 have p273 : 0 ≤ (x5_1 : Int) := of_decide_eq_true (by first | (with_reducible assumption) | assumption)
                 have q273 : x5_1 < (l0.length : Int) := of_decide_eq_true (by first | (with_reducible assumption) | assumption)
                 obtain ⟨ad273, A273_1, c273_1, e273, hx273_0, hx273_1, hl273_1, hi273_1⟩ := at_T43 HR0.out x5_1 p273 q273
                 obtain rfl : ad272 = ad273 := (by injection e273)
                 have HR273_1 := Aside0.mk hi273_1
                 have HC273_1 := Aside0.mk hl273_1
                 clear hi273_1 hl273_1
                 replace p273 := eq_true p273
                 replace q273 := eq_true q273
                 have ea_ := Option.some.inj (hx272_1.symm.trans hx273_1)
                 injection ea_ with ea_ en_ ec_
                 subst ea_
                 subst ec_
                 clear en_
                 have p274 : 0 ≤ (x6_3 : Int) := of_decide_eq_true (by first | (with_reducible assumption) | assumption)
                 have q274 : x6_3 < (((rd_T43 l0 x5_1).f1).length : Int) := of_decide_eq_true (by first | (with_reducible assumption) | assumption)
                 obtain ⟨ad274, e274, hx274_0, hx274_1⟩ := at_T48 HR273_1.out x6_3 p274 q274
                 cases e274
                 replace p274 := eq_true p274
                 replace q274 := eq_true q274
                 have p275 : 0 ≤ (x5_1 : Int) := of_decide_eq_true (by first | (with_reducible assumption) | assumption)
                 have q275 : x5_1 < (l1.length : Int) := of_decide_eq_true (by first | (with_reducible assumption) | assumption)
                 obtain ⟨ad275, A275_1, c275_1, e275, hx275_0, hx275_1, hl275_1, hi275_1⟩ := at_T43 HR1.out x5_1 p275 q275
                 cases e275
                 have HR275_1 := Aside0.mk hi275_1
                 have HC275_1 := Aside0.mk hl275_1
                 clear hi275_1 hl275_1
                 replace p275 := eq_true p275
                 replace q275 := eq_true q275
                 have p276 : 0 ≤ (x6_3 : Int) := of_decide_eq_true (by first | (with_reducible assumption) | assumption)
                 have q276 : x6_3 < (((rd_T43 l1 x5_1).f1).length : Int) := of_decide_eq_true (by first | (with_reducible assumption) | assumption)
                 obtain ⟨ad276, e276, hx276_0, hx276_1⟩ := at_T48 HR275_1.out x6_3 p276 q276
                 cases e276
                 replace p276 := eq_true p276
                 replace q276 := eq_true q276
                 go_wp2
                 repeat (go_quiet (fail); try go_wp2)
                 go_roundg k3
                 case measure => have := HK1.out; have := HJ4.out; have := HK3.out; omega
                 case rel => exact ⟨(wrap64 (x6_3 + 1)), (by first | rfl | (simp; done) | (simp [*]; done)), H', ⟨by have := HK1.out; have := HJ4.out; have := HK3.out; omega⟩, by repeat (first | exact Drawn0.refl _ | apply Drawn0.step)⟩
               ·rw [if_neg c15] at H
                exact absurd H (by simp)
              ·rw [if_neg c14] at H
               exact absurd H (by simp)
             ·rw [if_neg c13] at H
              exact absurd H (by simp)
            ·rw [if_neg c12] at H
             have c12b0 : decide (x6_3 < (((rd_T43 l0 x5_1).f1).length : Int)) = false := decide_eq_false c12
             clear c12
             have H' := Aside0.mk H
             clear H
             have p272 : 0 ≤ (x5_1 : Int) := of_decide_eq_true (by first | (with_reducible assumption) | assumption)
             have q272 : x5_1 < (l0.length : Int) := of_decide_eq_true (by first | (with_reducible assumption) | assumption)
             obtain ⟨ad272, A272_1, c272_1, e272, hx272_0, hx272_1, hl272_1, hi272_1⟩ := at_T43 HR0.out x5_1 p272 q272
             cases e272
             have HR272_1 := Aside0.mk hi272_1
             have HC272_1 := Aside0.mk hl272_1
             clear hi272_1 hl272_1
             replace p272 := eq_true p272
             replace q272 := eq_true q272
             go_wp2
             repeat (go_quiet (fail); try go_wp2)
             go_roundg k3
             case measure => have := HK1.out; have := HJ4.out; have := HK3.out; omega
             case rel => exact ⟨(wrap64 (x5_1 + 1)), (by first | rfl | (simp; done) | (simp [*]; done)), H', ⟨by have := HK1.out; have := HJ4.out; have := HK3.out; omega⟩, by repeat (first | exact Drawn0.refl _ | apply Drawn0.step)⟩
           ·rw [if_neg c11] at H
            exact absurd H (by simp)
          ·rw [if_neg c10] at H
           exact absurd H (by simp)
    ·rw [if_neg c4] at H
     have c4b0 : decide (x5_1 < (l0.length : Int)) = false := decide_eq_false c4
     clear c4
     obtain rfl := Option.some.inj H
     go_wp2
     repeat (go_quiet (fail); try go_wp2)
     go_ret
     exact ⟨by first | rfl | (simp; done) | (simp [*]; done), by repeat (first | exact Drawn0.refl _ | apply Drawn0.step)⟩
 ·rw [if_neg c3] at H
  have c3b0 : ((l0.length : Int) == (l1.length : Int)) = false := beq_eq_false_iff_ne.mpr c3
  have c3b1 : ((l0.length : Int) != (l1.length : Int)) = true := bne_iff_ne.mpr c3
  have c3b2 : (l0.length == l1.length) = false := by first | simpa using c3 | (simp at c3 ⊢; omega)
  obtain rfl := Option.some.inj H
  go_enter Try.func23, Try.ntmps23
  go_wp2
  repeat (go_quiet (fail); try go_wp2)
  go_ret
  exact ⟨by first | rfl | (simp; done) | (simp [*]; done), by repeat (first | exact Drawn0.refl _ | apply Drawn0.step)⟩

end Go.Proofs.Ythpglaekdadehaa.Q

/- The plain law of layer 3, kind: what the printed functions come to. -/
namespace Go.Proofs.Ythpglaekdadehaa.Q
open Go.RowKit Go.Proofs.YthpglaekdadehaaW.PrintWords Go.Proofs.YthpglaekdadehaaW.PrintLast Go.Proofs.YthpglaekdadehaaW.PrintMore
set_option linter.unusedVariables false
set_option linter.unusedSimpArgs false
/-! words -/
theorem index_ev (l : List ByteArray) (s : ByteArray) (hm : l.length ≤ 9223372036854775807) (d : Nat) : ∀ i : Nat, i ≤ l.length → l.length - i = d → (∀ j : Nat, j < i → keyIs s (l.getD j ByteArray.empty) = false) →
  Ev (fun k => slices_Index_string_string.l0 k l s (l.length : Int) (i : Int)) (findR (keyIs s) l) := by
 induction d with
 | zero =>
  intro i h0 hd h
  refine Ev.step (fun k => rfl) (Ev.neg (by omega) ?_)
  rw [find_none (z := ByteArray.empty) (fun j hj => h j (by omega))]
  exact Ev.now _
 | succ d ih =>
  intro i h0 hd h
  refine Ev.step (fun k => rfl) (Ev.pos (by omega) (Ev.pos (by omega) (Ev.pos (by omega) ?_)))
  by_cases e : keyIs s (l.getD i ByteArray.empty) = true
  ·have e2 : s.toList = (rdOf ByteArray.empty l (i : Int)).toList := (beq_iff_eq.mp e).symm
   refine Ev.pos e2 ?_
   rw [find_last (z := ByteArray.empty) (k := i) (by omega) h e]
   exact Ev.now _
  ·have e2 : ¬ s.toList = (rdOf ByteArray.empty l (i : Int)).toList := fun q => e (beq_iff_eq.mpr q.symm)
   refine Ev.neg e2 ?_
   rw [wrap_succ (by omega) (by omega)]
   exact ih (i + 1) (by omega) (by omega) (all_succ (P := fun j => keyIs s (l.getD j ByteArray.empty) = false) h (by simpa using e))
def keyB (s : ByteArray) : Bool := decide (0 ≤ findR (keyIs s) keyList)
theorem isKey_ev (s : ByteArray) : Ev (fun k => lex_IsKey.f k s) (keyB s) := by
 have h := index_ev keyList s (by decide) 16 0 (by decide) (by decide) (fun j hj => absurd hj (by omega))
 have h2 : Ev (fun k => slices_Contains_string_string.f k keyList s) (keyB s) := Ev.bind h (Ev.now _)
 exact Ev.one (a := lex_keys.f) (b := keyList) rfl (Ev.bind h2 (Ev.now _))
def wordB (s : ByteArray) : Bool := nameB s && (decide (s.size ≤ 12) && !keyB s)
theorem isWord_ev (s : ByteArray) (hs : s.size ≤ 9223372036854775807) : Ev (fun k => lex_IsWord.f k s) (wordB s) := by
 refine Ev.one (a := lex_isName.f s) (b := nameB s) (by unfold lex_isName.f; rw [if_pos hs]) ?_
 unfold wordB
 cases nameB s with
 | false => exact Ev.neg (by decide) (Ev.now _)
 | true =>
  refine Ev.pos rfl ?_
  by_cases h : s.size ≤ 12
  ·refine Ev.pos (by omega) (Ev.eq (Ev.bind (isKey_ev s) (Ev.now _)) (by simp [h]))
  ·refine Ev.neg (by omega) (Ev.eq (Ev.now _) (by simp [h]))
theorem rletter (a : Int) : truantref02_letter.f a = some (letB a) := letB_some a
theorem rdigit (a : Int) : truantref02_digit.f a = some (digB a) := digB_some a
theorem word_l (s : ByteArray) (hs : s.size ≤ 12) (d : Nat) : ∀ i : Nat, i ≤ s.size → s.size - i = d → (∀ j : Nat, j < i → lodB (bt s j) = true) →
  Ev (fun k => truantref02_Word.l0 k s (i : Int)) ((List.range s.size).all (fun i => lodB (bt s (i : Nat)))) := by
 induction d with
 | zero =>
  intro i h0 hd h
  refine Ev.step (fun k => rfl) (Ev.neg (by omega) (Ev.eq (Ev.now _) ?_))
  rw [run_all (k := i) h0 h (fun q => absurd q (by omega))]
  exact (beq_iff_eq.mpr (by omega)).symm
 | succ d ih =>
  intro i h0 hd h
  refine Ev.step (fun k => rfl) (Ev.pos (by omega) (Ev.pos (by omega) (Ev.one (rletter _) ?_)))
  have hno : lodB (bt s i) = false → Ev (fun k : Nat => (some false : Option Bool)) ((List.range s.size).all (fun i => lodB (bt s (i : Nat)))) := fun q => by
   rw [run_all (k := i) h0 h (fun _ => q), beq_eq_false_iff_ne.mpr (by omega)]
   exact Ev.now _
  have hyes : lodB (bt s i) = true → Ev (fun k => truantref02_Word.l0 k s (wrap64 ((i : Int) + 1))) ((List.range s.size).all (fun i => lodB (bt s (i : Nat)))) := fun q => by
   rw [wrap_succ (by omega) (by omega)]
   exact ih (i + 1) (by omega) (by omega) (all_succ (P := fun j => lodB (bt s (j : Nat)) = true) h q)
  cases hl : letB (bt s i) with
  | true => exact Ev.pos rfl (hyes (by unfold lodB; rw [hl]; rfl))
  | false =>
   refine Ev.neg (by decide) (Ev.one (rdigit _) ?_)
   cases hd2 : digB (bt s i) with
   | true => exact Ev.pos rfl (hyes (by unfold lodB; rw [hd2]; simp))
   | false => exact Ev.neg (by decide) (hno (by unfold lodB; rw [hl, hd2]; rfl))
theorem rword_ev (s : ByteArray) : Ev (fun k => truantref02_Word.f k s) (wordB s) := by
 have j_true : Ev (fun k => truantref02_Word.j0 k s true) false := Ev.step (f := fun _ => some false) (fun k => rfl) (Ev.now _)
 by_cases h0 : s.size = 0
 ·refine Ev.pos (by omega) (Ev.eq j_true ?_)
  simp [wordB, nameB, h0]
 ·refine Ev.neg (by omega) ?_
  by_cases h1 : s.size ≤ 12
  ·refine Ev.neg (by omega) (Ev.pos (by omega) (Ev.one (rletter _) ?_))
   cases hl : letB (bt s 0) with
   | false => exact Ev.neg (by decide) (Ev.eq j_true (by simp [wordB, nameB, hl]))
   | true =>
    refine Ev.pos rfl (Ev.one (a := truantref02_Key.f s) (b := keyB s) rfl ?_)
    cases hk : keyB s with
    | true => exact Ev.eq j_true (by simp [wordB, hk])
    | false =>
     refine Ev.step (f := fun k => truantref02_Word.l0 k s 0) (fun k => rfl) (Ev.eq (word_l s h1 s.size 0 (by omega) (by omega) (fun j hj => absurd hj (by omega))) ?_)
     have h3 : 0 < s.size := by omega
     simp [wordB, nameB, hk, hl, h1, h3]
  ·refine Ev.pos (by omega) (Ev.eq j_true ?_)
   simp [wordB, h1]
/-! types -/
/-- Behind the star, if that is a word. -/
def rest (t : ByteArray) : ByteArray := t.extract 1 t.size
def starB (t : ByteArray) : Bool := decide (0 < t.size) && (bt t 0 == 42)
def ptrB (t : ByteArray) : Bool := starB t && wordB (rest t)
def elemS (t : ByteArray) : ByteArray × Bool := if ptrB t = true then (rest t, true) else (⟨#[]⟩, false)
theorem rest_size (t : ByteArray) : (rest t).size = t.size - 1 := by unfold rest; simp
theorem cutPrefix_one (t : ByteArray) : strings_CutPrefix.f t (⟨#[42]⟩ : ByteArray) = some (if starB t = true then (rest t, true) else (t, false)) := by
 have e1 : ((⟨#[42]⟩ : ByteArray).size : Int) = 1 := rfl
 have e2 : (⟨#[42]⟩ : ByteArray).toList = [42] := by rw [ByteArray.toList_eq]
 unfold strings_CutPrefix.f stringslite_CutPrefix.f stringslite_HasPrefix.f
 rw [e1, e2]
 by_cases h0 : 0 < t.size
 ·have hb : ((t.extract 0 (1 : Int).toNat).toList == [42]) = starB t := by
   obtain ⟨⟨l⟩⟩ := t
   cases l with
   | nil => simp [ByteArray.size] at h0
   | cons x l =>
    have e3 : (ByteArray.extract ⟨⟨x :: l⟩⟩ 0 (1 : Int).toNat).toList = [x] := by
     rw [Lib.extract_toList]; rfl
    have e4 : bt ⟨⟨x :: l⟩⟩ 0 = (x.toNat : Int) := (bt_at ⟨⟨x :: l⟩⟩ 0 (by simpa using h0)).symm
    unfold starB
    rw [e3, e4]
    simp only [h0, decide_true, Bool.true_and]
    by_cases hx : x = 42
    ·subst hx; rfl
    ·rw [beq_eq_false_iff_ne.mpr (by simpa using hx), beq_eq_false_iff_ne.mpr]
     intro q
     apply hx
     apply UInt8.toNat_inj.mp
     have e42 : (42 : UInt8).toNat = 42 := rfl
     omega
  rw [if_pos (by omega), if_pos (by omega), if_pos (by omega), hb]
  simp only [Option.bind_some]
  cases starB t with
  | true => rw [if_pos rfl, if_pos (by omega), if_pos (by omega)]; rfl
  | false => rw [if_neg (by decide)]; rfl
 ·have : starB t = false := by unfold starB; simp [h0]
  rw [if_neg (by omega), this]
  rfl
theorem elem_ev (t : ByteArray) (ht : t.size ≤ 9223372036854775807) : Ev (fun k => kind_Elem.f k t) (elemS t) := by
 refine Ev.one (cutPrefix_one t) ?_
 unfold elemS ptrB
 cases starB t with
 | false => exact Ev.neg (by simp) (Ev.now _)
 | true =>
  refine Ev.pos rfl (Ev.bind (isWord_ev (rest t) (by rw [rest_size]; omega)) ?_)
  cases hw : wordB (rest t) with
  | false => exact Ev.neg (by decide) (Ev.now _)
  | true => exact Ev.pos rfl (Ev.now _)
theorem relem_ev (t : ByteArray) : Ev (fun k => truantref03_Elem.f k t) (elemS t).1 := by
 have hw1 : wordB (rest t) = true → 1 < t.size := fun h => by
  unfold wordB nameB at h
  simp at h
  have := h.1.1.1
  rw [rest_size] at this
  omega
 by_cases h2 : t.size < 2
 ·refine Ev.pos (by omega) (Ev.eq (Ev.now _) ?_)
  unfold elemS
  rw [if_neg]
  unfold ptrB
  intro q
  simp at q
  have := hw1 q.2
  omega
 ·refine Ev.neg (by omega) (Ev.pos (by omega) ?_)
  by_cases hs : bt t 0 = 42
  ·have hsb : starB t = true := by unfold starB; rw [hs]; simp; omega
   refine Ev.pos hs (Ev.pos (by omega) (Ev.bind (rword_ev (rest t)) ?_))
   unfold elemS ptrB
   rw [hsb]
   cases hw : wordB (rest t) with
   | false => exact Ev.neg (by decide) (Ev.now _)
   | true => exact Ev.pos rfl (Ev.now _)
  ·have hsb : starB t = false := by unfold starB; rw [beq_eq_false_iff_ne.mpr hs]; simp
   refine Ev.neg hs (Ev.eq (Ev.now _) ?_)
   unfold elemS ptrB
   rw [hsb]; rfl
theorem rfind_ev (l : List S43) (s : ByteArray) (hm : l.length ≤ 9223372036854775807) : Ev (fun k => truantref03_Find.f k l s) (findR (nameIs s) l) := by
 have key : ∀ (d i : Nat), i ≤ l.length → l.length - i = d → (∀ j : Nat, j < i → nameIs s (l.getD j z43) = false) → Ev (fun k => truantref03_Find.l0 k l s (i : Int)) (findR (nameIs s) l) := by
  intro d
  induction d with
  | zero =>
   intro i h0 hd h
   refine Ev.step (fun k => rfl) (Ev.neg (by omega) ?_)
   rw [find_none (z := z43) (fun j hj => h j (by omega))]
   exact Ev.now _
  | succ d ih =>
   intro i h0 hd h
   refine Ev.step (fun k => rfl) (Ev.pos (by omega) (Ev.pos (by omega) ?_))
   by_cases e : nameIs s (l.getD i z43) = true
   ·refine Ev.pos (beq_iff_eq.mp e) ?_
    rw [find_last (z := z43) (k := i) (by omega) h e]
    exact Ev.now _
   ·refine Ev.neg (fun q => e (beq_iff_eq.mpr q)) ?_
    rw [wrap_succ (by omega) (by omega)]
    exact ih (i + 1) (by omega) (by omega) (all_succ (P := fun j => nameIs s (l.getD j z43) = false) h (by simpa using e))
 exact key l.length 0 (by omega) (by omega) (fun j hj => absurd hj (by omega))
/-! the links -/
def linksD (fs : List S48) : Nat → Nat → List Int
 | 0, _ => []
 | d + 1, i => if (elemS (fs.getD i z48).f1).2 = true then (i : Int) :: linksD fs d (i + 1) else linksD fs d (i + 1)
def linksL (fs : List S48) : List Int := linksD fs fs.length 0
theorem linksD_len (fs : List S48) : ∀ d i, (linksD fs d i).length ≤ d
 | 0, i => by simp [linksD]
 | d + 1, i => by
  unfold linksD
  have := linksD_len fs d (i + 1)
  split
  ·simp; omega
  ·omega
theorem links_ev (n : ByteArray) (fs : List S48) (hm : fs.length ≤ 4398046511104) (hs : ∀ j : Nat, j < fs.length → (fs.getD j z48).f1.size ≤ 9223372036854775807) : Ev (fun k => kind_Links.f k n fs) (linksL fs) := by
 have key : ∀ (d i : Nat) (acc : List Int), i ≤ fs.length → fs.length - i = d → acc.length ≤ i → Ev (fun k => kind_Links.l0 k acc fs (fs.length : Int) (i : Int)) (acc ++ linksD fs d i) := by
  intro d
  induction d with
  | zero =>
   intro i acc h0 hd ha
   exact Ev.step (fun k => rfl) (Ev.neg (by omega) (Ev.eq (Ev.now _) (by simp [linksD])))
  | succ d ih =>
   intro i acc h0 hd ha
   refine Ev.step (fun k => rfl) (Ev.pos (by omega) (Ev.pos (by omega) (Ev.pos (by omega) (Ev.bind (elem_ev _ (hs i (by omega))) ?_))))
   rw [wrap_succ (by omega) (by omega)]
   unfold linksD
   by_cases h : (elemS (fs.getD i z48).f1).2 = true
   ·rw [if_pos h]
    refine Ev.pos h (Ev.pos (by omega) (Ev.eq (ih (i + 1) (acc ++ [(i : Int)]) (by omega) (by omega) (by simp; omega)) (by simp)))
   ·rw [if_neg h]
    exact Ev.neg h (ih (i + 1) acc (by omega) (by omega) (by omega))
 exact key fs.length 0 [] (by omega) (by omega) (by simp)
theorem rsame_ev (l l' : List S43) (hm : l.length ≤ 9223372036854775807) (hf : ∀ j : Nat, j < l.length → (l.getD j z43).f1.length ≤ 9223372036854775807) : Ev (fun k => truantref03_Same.f k l l') (sameS l l') := by
 rw [sameS_dec]
 by_cases hn : l.length = l'.length
 ·refine Ev.pos (by omega) ?_
  have key : ∀ (d i : Nat), i ≤ l.length → l.length - i = d → (∀ j : Nat, j < i → l.getD j z43 = l'.getD j z43) → Ev (fun k => truantref03_Same.l0 k l l' (i : Int)) (decB (l = l')) := by
   intro d
   induction d with
   | zero =>
    intro i h0 hd h
    refine Ev.step (fun k => rfl) (Ev.neg (by omega) ?_)
    rw [decB_true (lists_eq z43 hn (fun j hj => h j (by omega)))]
    exact Ev.now _
   | succ d ih =>
    intro i h0 hd h
    refine Ev.step (fun k => rfl) (Ev.pos (by omega) (Ev.pos (by omega) (Ev.pos (by omega) ?_)))
    obtain ⟨x, hx⟩ : ∃ x, x = l.getD i z43 := ⟨_, rfl⟩
    obtain ⟨y, hy⟩ : ∃ y, y = l'.getD i z43 := ⟨_, rfl⟩
    have rx : rd_T43 l (i : Int) = x := by rw [hx]; rfl
    have ry : rd_T43 l' (i : Int) = y := by rw [hy]; rfl
    rw [rx, ry]
    have hno : x ≠ y → Ev (fun _ : Nat => (some false : Option Bool)) (decB (l = l')) := fun q => by
     rw [decB_false (fun e => q (by rw [hx, hy, e]))]
     exact Ev.now _
    have jt : x ≠ y → Ev (fun k => truantref03_Same.j1 k l l' (i : Int) true) (decB (l = l')) := fun q => Ev.step (f := fun _ => some false) (fun k => rfl) (hno q)
    by_cases h1 : x.f0.toList = y.f0.toList
    ·refine Ev.pos h1 ?_
     by_cases h2 : x.f1.length = y.f1.length
     ·have e : ((x.f1.length : Int) != (y.f1.length : Int)) = false := by rw [h2]; simp
      rw [e]
      refine Ev.step (f := fun k => truantref03_Same.l1 k l l' (i : Int) 0) (fun k => rfl) ?_
      have inner : ∀ (d2 q : Nat), q ≤ x.f1.length → x.f1.length - q = d2 → (∀ j : Nat, j < q → x.f1.getD j z48 = y.f1.getD j z48) → Ev (fun k => truantref03_Same.l1 k l l' (i : Int) (q : Int)) (decB (l = l')) := by
       intro d2
       induction d2 with
       | zero =>
        intro q hq hd2 hall
        refine Ev.step (fun k => rfl) (Ev.pos (by omega) (Ev.pos (by omega) ?_))
        rw [rx]
        refine Ev.neg (by omega) ?_
        rw [wrap_succ (by omega) (by omega)]
        refine ih (i + 1) (by omega) (by omega) (all_succ h ?_)
        rw [← hx, ← hy]
        have e2 : x.f1 = y.f1 := lists_eq z48 h2 (fun j hj => hall j (by omega))
        cases x; cases y
        simp only at h1 e2
        rw [bytes_eq h1, e2]
       | succ d2 ih2 =>
        intro q hq hd2 hall
        refine Ev.step (fun k => rfl) (Ev.pos (by omega) (Ev.pos (by omega) ?_))
        rw [rx, ry]
        refine Ev.pos (by omega) (Ev.pos (by omega) (Ev.pos (by omega) (Ev.pos (by omega) ?_)))
        by_cases e3 : (!((rd_T48 x.f1 (q : Int)).f0.toList == (rd_T48 y.f1 (q : Int)).f0.toList) || (!((rd_T48 x.f1 (q : Int)).f1.toList == (rd_T48 y.f1 (q : Int)).f1.toList))) = true
        ·refine Ev.pos e3 (hno ?_)
         rintro rfl
         simp at e3
        ·refine Ev.neg e3 ?_
         have hfx := hf i (by omega)
         rw [← hx] at hfx
         rw [wrap_succ (by omega) (by omega)]
         exact ih2 (q + 1) (by omega) (by omega) (all_succ hall (field_eq (Bool.eq_false_iff.mpr e3)))
      exact inner x.f1.length 0 (by omega) (by omega) (fun j hj => absurd hj (by omega))
     ·have e : ((x.f1.length : Int) != (y.f1.length : Int)) = true := by rw [bne_iff_ne]; omega
      rw [e]
      exact jt (fun q => h2 (by rw [q]))
    ·refine Ev.neg h1 (jt (fun q => h1 (by rw [q])))
  exact key l.length 0 (by omega) (by omega) (fun j hj => absurd hj (by omega))
 ·refine Ev.neg (by omega) ?_
  rw [decB_false (fun e => hn (by rw [e]))]
  exact Ev.now _
end Go.Proofs.Ythpglaekdadehaa.Q

/- What is reached: the queue of kind.Reach, and who is reached. -/

namespace Go.Proofs.Ythpglaekdadehaa.Q
open Go.RowKit Go.Proofs.YthpglaekdadehaaW.PrintWords Go.Proofs.YthpglaekdadehaaW.PrintLast Go.Proofs.YthpglaekdadehaaW.PrintMore
set_option linter.unusedVariables false
set_option linter.unusedSimpArgs false
/-- Who is reached from a type, by names. -/
inductive Rc (l : List S43) (t : ByteArray) : ByteArray → Prop where
 | root : (elemS t).2 = true → 0 ≤ findR (nameIs (elemS t).1) l → Rc l t (elemS t).1
 | link {a : ByteArray} {m j : Nat} : Rc l t a → findR (nameIs a) l = (m : Int) → j < (l.getD m z43).f1.length → (elemS ((l.getD m z43).f1.getD j z48).f1).2 = true →
   0 ≤ findR (nameIs (elemS ((l.getD m z43).f1.getD j z48).f1).1) l → Rc l t (elemS ((l.getD m z43).f1.getD j z48).f1).1
/-- From some numbers on, of both. -/
def Ev2 {α : Type} (g : Nat → Nat → Option α) (r : α) : Prop := ∃ M, ∀ K k, M ≤ K → M ≤ k → g K k = some r
theorem Ev2.diag {α : Type} {g : Nat → Nat → Option α} {r : α} (h : Ev2 g r) : Ev (fun k => g k k) r := by
 obtain ⟨M, h⟩ := h
 exact ⟨M, fun k hk => h k k hk hk⟩
theorem hasB_cons (x y : ByteArray) (l : List ByteArray) : hasB x (y :: l) = (y.toList == x.toList || hasB x l) := rfl
theorem hasB_mem {x : ByteArray} {l : List ByteArray} : hasB x l = true ↔ x ∈ l := by
 unfold hasB
 rw [List.any_eq_true]
 constructor
 ·rintro ⟨y, hy, e⟩
  have := bytes_eq (beq_iff_eq.mp e)
  rwa [← this]
 ·exact fun h => ⟨x, h, by simp⟩
theorem filter_lt {α : Type} {p q : α → Bool} (h : ∀ x, q x = true → p x = true) {m : α} : ∀ {l : List α}, m ∈ l → p m = true → q m = false → (l.filter q).length < (l.filter p).length
 | x :: l, hm, hp, hq => by
  have hle : ∀ l : List α, (l.filter q).length ≤ (l.filter p).length := by
   intro l
   induction l with
   | nil => simp
   | cons y l ih =>
    rw [List.filter_cons, List.filter_cons]
    by_cases hy : q y = true
    ·rw [if_pos hy, if_pos (h y hy)]; simp; exact ih
    ·rw [if_neg hy]
     split
     ·simp; omega
     ·exact ih
  rw [List.filter_cons, List.filter_cons]
  rcases List.mem_cons.mp hm with rfl | hm'
  ·rw [hq, hp]
   have := hle l
   simp; omega
  ·have ih := filter_lt h hm' hp hq
   by_cases hx : q x = true
   ·rw [if_pos hx, if_pos (h x hx)]; simp; exact ih
   ·rw [if_neg hx]
    split
    ·simp; omega
    ·exact ih
theorem linksD_mem (fs : List S48) : ∀ (d i : Nat) (q : Int), q ∈ linksD fs d i ↔ ∃ j : Nat, q = j ∧ i ≤ j ∧ j < i + d ∧ (elemS (fs.getD j z48).f1).2 = true
 | 0, i, q => by simp [linksD]; intros; omega
 | d + 1, i, q => by
  have ih := linksD_mem fs d (i + 1) q
  unfold linksD
  by_cases h : (elemS (fs.getD i z48).f1).2 = true
  ·rw [if_pos h, List.mem_cons, ih]
   constructor
   ·rintro (rfl | ⟨j, rfl, h1, h2, h3⟩)
    ·exact ⟨i, rfl, by omega, by omega, h⟩
    ·exact ⟨j, rfl, by omega, by omega, h3⟩
   ·rintro ⟨j, rfl, h1, h2, h3⟩
    by_cases e : j = i
    ·subst e; exact .inl rfl
    ·exact .inr ⟨j, rfl, by omega, by omega, h3⟩
  ·rw [if_neg h, ih]
   constructor
   ·rintro ⟨j, rfl, h1, h2, h3⟩
    exact ⟨j, rfl, by omega, by omega, h3⟩
   ·rintro ⟨j, rfl, h1, h2, h3⟩
    by_cases e : j = i
    ·subst e; exact absurd h3 h
    ·exact ⟨j, rfl, by omega, by omega, h3⟩
theorem links_mem (fs : List S48) (q : Int) : q ∈ linksL fs ↔ ∃ j : Nat, q = j ∧ j < fs.length ∧ (elemS (fs.getD j z48).f1).2 = true := by
 unfold linksL
 rw [linksD_mem]
 constructor
 ·rintro ⟨j, rfl, _, h2, h3⟩; exact ⟨j, rfl, by omega, h3⟩
 ·rintro ⟨j, rfl, h2, h3⟩; exact ⟨j, rfl, by omega, by omega, h3⟩
theorem linksIn_L (fs : List S48) : linksIn fs (linksL fs) = true := by
 unfold linksIn
 rw [List.all_eq_true]
 intro q hq
 obtain ⟨j, rfl, h1, _⟩ := (links_mem fs q).mp hq
 exact decide_eq_true ⟨by omega, by omega⟩
theorem nameIs_iff {n : ByteArray} {x : S43} : nameIs n x = true ↔ x.f0 = n := by
 unfold nameIs
 constructor
 ·exact fun h => bytes_eq (beq_iff_eq.mp h)
 ·rintro rfl; simp
theorem find_name {l : List S43} {n : ByteArray} {m : Nat} (h : findR (nameIs n) l = (m : Int)) : (l.getD m z43).f0 = n := by
 have hm := find_lt h
 apply nameIs_iff.mp
 unfold findR at h
 split at h
 ·rename_i hlt
  have e : l.findIdx (nameIs n) = m := by omega
  have := List.findIdx_getElem (w := hlt)
  rw [getD_at l _ hm]
  simp only [e] at this
  exact this
 ·omega
theorem find_has {l : List S43} {n : ByteArray} {i : Nat} (hi : i < l.length) (h : (l.getD i z43).f0 = n) : ∃ m : Nat, findR (nameIs n) l = (m : Int) ∧ m ≤ i := by
 have hlt : l.findIdx (nameIs n) < l.length := List.findIdx_lt_length_of_exists ⟨l[i], List.getElem_mem hi, by rw [← getD_at l z43 hi]; exact nameIs_iff.mpr h⟩
 refine ⟨l.findIdx (nameIs n), by unfold findR; rw [if_pos hlt], ?_⟩
 by_cases hc : l.findIdx (nameIs n) ≤ i
 ·exact hc
 ·have := List.not_of_lt_findIdx (p := nameIs n) (xs := l) (i := i) (by omega)
  rw [← getD_at l z43 hi, nameIs_iff.mpr h] at this
  simp at this
/-- What still waits. -/
def freshB (l : List S43) (seen : List ByteArray) (i : Nat) : Bool := decide (findR (nameIs (l.getD i z43).f0) l = (i : Int)) && !hasB (l.getD i z43).f0 seen
def Wait (l : List S43) (seen todo : List ByteArray) (tt : ByteArray) : Prop := (elemS tt).2 = true → 0 ≤ findR (nameIs (elemS tt).1) l → (elemS tt).1 ∈ seen ∨ tt ∈ todo
structure RInv (l : List S43) (t : ByteArray) (todo seen : List ByteArray) : Prop where
 sound : ∀ s ∈ seen, Rc l t s
 next : ∀ tt ∈ todo, (elemS tt).2 = true → 0 ≤ findR (nameIs (elemS tt).1) l → Rc l t (elemS tt).1
 root : Wait l seen todo t
 links : ∀ s ∈ seen, ∀ m j : Nat, findR (nameIs s) l = (m : Int) → j < (l.getD m z43).f1.length → Wait l seen todo ((l.getD m z43).f1.getD j z48).f1
theorem RInv.done {l : List S43} {t : ByteArray} {seen : List ByteArray} (h : RInv l t [] seen) (s : ByteArray) : s ∈ seen ↔ Rc l t s := by
 constructor
 ·exact h.sound s
 ·intro hs
  induction hs with
  | root h1 h2 => exact (h.root h1 h2).resolve_right (by simp)
  | link h0 h1 h2 h3 h4 ih => exact (h.links _ ih _ _ h1 h2 h3 h4).resolve_right (by simp)
structure WFL (l : List S43) : Prop where
 len : l.length ≤ 16
 fields : ∀ j : Nat, j < l.length → (l.getD j z43).f1.length ≤ 12
 names : ∀ j : Nat, j < l.length → (l.getD j z43).f0.size ≤ 100
 types : ∀ j q : Nat, j < l.length → q < (l.getD j z43).f1.length → ((l.getD j z43).f1.getD q z48).f1.size ≤ 100
theorem elem_size (t : ByteArray) : (elemS t).1.size ≤ t.size := by
 unfold elemS
 split
 ·simp only; rw [rest_size]; omega
 ·exact Nat.zero_le _
theorem links_len (fs : List S48) : (linksL fs).length ≤ fs.length := linksD_len fs _ _
theorem types_mem {fs : List S48} {tt : ByteArray} : tt ∈ typesAt fs (linksL fs) ↔ ∃ j : Nat, j < fs.length ∧ (elemS (fs.getD j z48).f1).2 = true ∧ tt = (fs.getD j z48).f1 := by
 unfold typesAt
 rw [List.mem_map]
 constructor
 ·rintro ⟨q, hq, rfl⟩
  obtain ⟨j, rfl, h1, h2⟩ := (links_mem fs q).mp hq
  exact ⟨j, h1, h2, rfl⟩
 ·rintro ⟨j, h1, h2, rfl⟩
  exact ⟨(j : Int), (links_mem fs _).mpr ⟨j, rfl, h1, h2⟩, rfl⟩
theorem queue_ev (l : List S43) (hl : WFL l) (t : ByteArray) : ∀ (c : Nat) (todo seen : List ByteArray), ((List.range l.length).filter (freshB l seen)).length = c → RInv l t todo seen →
  (∀ tt ∈ todo, tt.size ≤ 100) → todo.length + 12 * c ≤ 1000000 → seen.length + c ≤ 1000000 → ∃ seen', Ev2 (fun K k => kind_Reach.q K l k todo seen) seen' ∧ RInv l t [] seen' := by
 intro c
 induction c using Nat.strongRecOn with
 | _ c ihc =>
 intro todo
 induction todo with
 | nil => exact fun seen hc hi _ _ _ => ⟨seen, ⟨1, fun K k _ hk => by obtain ⟨k, rfl⟩ : ∃ m, k = m + 1 := ⟨k - 1, by omega⟩; rfl⟩, hi⟩
 | cons tt todo ih =>
  intro seen hc hi hs hb hb2
  have htt := hs tt (by simp)
  have hel := elem_ev tt (by omega)
  have hns := elem_size tt
  obtain ⟨K1, hel⟩ := hel
  replace hel : ∀ k, K1 ≤ k → kind_Elem.f k tt = some (elemS tt) := hel
  have hml : (elemS tt).1.size ≤ maxLen ∧ seen.length < maxLen := by unfold maxLen; omega
  by_cases hyes : (elemS tt).2 = true ∧ 0 ≤ findR (nameIs (elemS tt).1) l ∧ hasB (elemS tt).1 seen = false
  ·obtain ⟨h1, h2, h3⟩ := hyes
   obtain ⟨m, hm⟩ : ∃ m : Nat, findR (nameIs (elemS tt).1) l = m := ⟨(findR (nameIs (elemS tt).1) l).toNat, by omega⟩
   have hml2 := find_lt hm
   have hnm := find_name hm
   have hfr : freshB l seen m = true := by
    unfold freshB
    rw [hnm, hm, h3]; simp
   have hlt : ((List.range l.length).filter (freshB l ((elemS tt).1 :: seen))).length < c := by
    rw [← hc]
    refine filter_lt (m := m) (fun i hi => ?_) (by simpa using hml2) hfr ?_
    ·unfold freshB at hi ⊢
     rw [hasB_cons] at hi
     simp only [Bool.and_eq_true, Bool.not_eq_true', Bool.or_eq_false_iff] at hi ⊢
     exact ⟨hi.1, hi.2.2⟩
    ·unfold freshB
     rw [hasB_cons, hnm]
     simp
   have hsd : Rc l t (elemS tt).1 := hi.next tt (by simp) h1 h2
   have hfl := hl.fields m hml2
   have hll := links_len (l.getD m z43).f1
   have htl : (typesAt (l.getD m z43).f1 (linksL (l.getD m z43).f1)).length ≤ 12 := by unfold typesAt; rw [List.length_map]; omega
   obtain ⟨seen', ⟨M, hq⟩, hi'⟩ := ihc _ hlt (todo ++ typesAt (l.getD m z43).f1 (linksL (l.getD m z43).f1)) ((elemS tt).1 :: seen) rfl (by
    constructor
    ·intro s hs
     rcases List.mem_cons.mp hs with rfl | hs
     ·exact hsd
     ·exact hi.sound s hs
    ·intro t2 ht2 e1 e2
     rcases List.mem_append.mp ht2 with ht2 | ht2
     ·exact hi.next t2 (by simp [ht2]) e1 e2
     ·obtain ⟨j, hj, hj2, rfl⟩ := types_mem.mp ht2
      exact Rc.link hsd hm hj e1 e2
    ·intro e1 e2
     rcases hi.root e1 e2 with h | h
     ·exact .inl (by simp [h])
     ·rcases List.mem_cons.mp h with rfl | h
      ·exact .inl (by simp)
      ·exact .inr (by simp [h])
    ·intro s hs m2 j hm2 hj e1 e2
     rcases List.mem_cons.mp hs with rfl | hs
     ·have em : m2 = m := by rw [hm] at hm2; omega
      subst em
      exact .inr (List.mem_append.mpr (.inr (types_mem.mpr ⟨j, hj, e1, rfl⟩)))
     ·rcases hi.links s hs m2 j hm2 hj e1 e2 with h | h
      ·exact .inl (List.mem_cons_of_mem _ h)
      ·rcases List.mem_cons.mp h with h | h
       ·exact .inl (by rw [h]; exact List.mem_cons_self)
       ·exact .inr (List.mem_append.mpr (.inl h))) (by
    intro t2 ht2
    rcases List.mem_append.mp ht2 with ht2 | ht2
    ·exact hs t2 (by simp [ht2])
    ·obtain ⟨j, hj, hj2, rfl⟩ := types_mem.mp ht2
     exact hl.types m j hml2 hj) (by rw [List.length_append]; simp only [List.length_cons] at hb; omega) (by simp only [List.length_cons]; omega)
   obtain ⟨K2, hlk⟩ := links_ev (l.getD m z43).f0 (l.getD m z43).f1 (by omega) (fun j hj => by have := hl.types m j hml2 hj; omega)
   replace hlk : ∀ k, K2 ≤ k → kind_Links.f k (l.getD m z43).f0 (l.getD m z43).f1 = some (linksL (l.getD m z43).f1) := hlk
   refine ⟨seen', ⟨max (max K1 K2) (M + 1), fun K k hK hk => ?_⟩, hi'⟩
   obtain ⟨k, rfl⟩ : ∃ n, k = n + 1 := ⟨k - 1, by omega⟩
   simp only [kind_Reach.q]
   rw [hel K (by omega)]
   simp only [Option.bind_some]
   rw [if_pos hml, if_pos ⟨h1, h2, h3⟩, hm, Int.toNat_natCast, hlk K (by omega)]
   simp only [Option.bind_some]
   rw [if_pos ⟨linksIn_L _, by unfold LIMS; simp only [List.length_cons] at hb; omega⟩]
   exact hq K k (by omega) (by omega)
  ·obtain ⟨seen', ⟨M, hq⟩, hi'⟩ := ih seen hc (by
    constructor
    ·exact hi.sound
    ·exact fun t2 h2 => hi.next t2 (by simp [h2])
    ·intro e1 e2
     rcases hi.root e1 e2 with h | h
     ·exact .inl h
     ·rcases List.mem_cons.mp h with rfl | h
      ·exact .inl (hasB_mem.mp (by
        cases hh : hasB (elemS t).1 seen
        ·exact absurd ⟨e1, e2, hh⟩ hyes
        ·rfl))
      ·exact .inr h
    ·intro s hs m2 j hm2 hj e1 e2
     rcases hi.links s hs m2 j hm2 hj e1 e2 with h | h
     ·exact .inl h
     ·rcases List.mem_cons.mp h with h | h
      ·rw [← h] at hyes
       exact .inl (hasB_mem.mp (by
        cases hh : hasB (elemS ((l.getD m2 z43).f1.getD j z48).f1).1 seen
        ·exact absurd ⟨e1, e2, hh⟩ hyes
        ·rfl))
      ·exact .inr h) (fun t2 h2 => hs t2 (by simp [h2])) (by simp only [List.length_cons] at hb; omega) hb2
   refine ⟨seen', ⟨max K1 (M + 1), fun K k hK hk => ?_⟩, hi'⟩
   obtain ⟨k, rfl⟩ : ∃ n, k = n + 1 := ⟨k - 1, by omega⟩
   simp only [kind_Reach.q]
   rw [hel K (by omega)]
   simp only [Option.bind_some]
   rw [if_pos hml, if_neg hyes]
   exact hq K k (by omega) (by omega)
/-- The answer of kind.Reach: the names, in order, of who is reached; of several with one name the first. -/
noncomputable def outS (l : List S43) (t : ByteArray) : List ByteArray :=
 ((List.range l.length).filter fun i => decB (Rc l t (l.getD i z43).f0 ∧ findR (nameIs (l.getD i z43).f0) l = (i : Int))).map fun i => (l.getD i z43).f0
theorem reach_ev (l : List S43) (hl : WFL l) (t : ByteArray) (ht : t.size ≤ 100) : Ev (fun k => kind_Reach.f k l t) (outS l t) := by
 have hc : ((List.range l.length).filter (freshB l [])).length ≤ 16 := by
  have := List.length_filter_le (freshB l []) (List.range l.length)
  have h2 := hl.len
  simp at this
  omega
 obtain ⟨seen, hq, hi⟩ := queue_ev l hl t _ [t] [] rfl (by
  constructor
  ·intro s hs; simp at hs
  ·intro tt htt e1 e2
   simp at htt
   subst htt
   exact Rc.root e1 e2
  ·exact fun _ _ => .inr (by simp)
  ·intro s hs; simp at hs) (by intro tt htt; simp at htt; subst htt; exact ht) (by simp only [List.length_cons, List.length_nil]; omega) (by simp only [List.length_nil]; omega)
 have hlen := hl.len
 refine Ev.pos ⟨by unfold LIMS; omega, ?_⟩ (Ev.bind hq.diag (Ev.eq (Ev.now _) ?_))
 ·rw [List.all_eq_true]
  intro x hx
  obtain ⟨i, hi2, rfl⟩ := List.mem_iff_getElem.mp hx
  have := hl.names i hi2
  rw [getD_at l _ hi2] at this
  exact decide_eq_true (by unfold maxLen; omega)
 ·unfold reachOut outS
  congr 1
  apply List.filter_congr
  intro i hi2
  have hi2 : i < l.length := by simpa using hi2
  obtain ⟨m, hm, hmi⟩ := find_has (l := l) hi2 rfl
  have hp : (placeOf (findR (nameIs (l.getD i z43).f0) l)).1 = findR (nameIs (l.getD i z43).f0) l := by
   rw [hm]; unfold placeOf; rw [if_neg (by omega)]
  rw [hp]
  by_cases h1 : Rc l t (l.getD i z43).f0 ∧ findR (nameIs (l.getD i z43).f0) l = (i : Int)
  ·rw [decB_true h1, hasB_mem.mpr ((hi.done _).mpr h1.1), decide_eq_true h1.2]; rfl
  ·rw [decB_false h1]
   cases hh : hasB (l.getD i z43).f0 seen
   ·rfl
   ·rw [Bool.true_and]
    exact decide_eq_false (fun e => h1 ⟨(hi.done _).mp (hasB_mem.mp hh), e⟩)
end Go.Proofs.Ythpglaekdadehaa.Q

namespace Go.Proofs.Ythpglaekdadehaa.Q
open Go.RowKit Go.Proofs.YthpglaekdadehaaW.PrintWords Go.Proofs.YthpglaekdadehaaW.PrintLast Go.Proofs.YthpglaekdadehaaW.PrintMore
attribute [local go_sem] max2_int min2_int max_two min_two max_three min_three max_four min_four   -- for this text's walks alone
set_option linter.unusedVariables false
set_option linter.unusedSimpArgs false

/-! ### truantref03_Is: function 16 -/
def truantref03_Is.f (k : Nat) (l0 : List (S43)) (a1 : ByteArray) : Option (Bool) := if a1.toList = ([105, 110, 116] : List UInt8) then (some true) else (if a1.toList = ([98, 111, 111, 108] : List UInt8) then (some true) else (if (a1.size : Int) > 0 then (if 0 < (a1.size : Int) then (if (bt a1 0) = 42 then (if 1 ≤ (a1.size : Int) then ((truantref03_Find.f k l0 (a1.extract 1 a1.size)).bind fun t204 => (some (decide (t204 ≥ 0)))) else (none)) else (some false)) else (none)) else (some false)))
theorem truantref03_Is.mono : ∀ a0 a1 k, LeO (truantref03_Is.f k a0 a1) (truantref03_Is.f (k + 1) a0 a1) := by
 intro a0 a1 k
 unfold truantref03_Is.f
 repeat' first
   | (with_reducible exact truantref03_Find.mono _ _ _)
   | (with_reducible exact LeO.refl _)
   | (with_reducible exact LeO.none _)
   | (with_reducible refine LeO.ite ?_ ?_)
   | (with_reducible refine LeO.bind ?_ (fun _ => ?_))
   | exact truantref03_Find.mono _ _ _
   | exact LeO.none _
   | refine LeO.ite ?_ ?_
   | refine LeO.bind ?_ (fun _ => ?_)
set_option maxHeartbeats 8000000 in
set_option maxRecDepth 100000 in
theorem truantref03_Is.calls (k : Nat) (A0 : Option Addr) (c0 : Nat) (l0 : List (S43)) (a1 : ByteArray) (r : Bool) (w : World) (hr0 : Kd.C k43 w A0 l0.length l0) (hc0 : l0.length ≤ c0) (h : truantref03_Is.f k l0 a1 = some r) :
  Calls Try.prog 16 #[.slice A0 l0.length c0, .string a1] w fun e w' => e = .returned (.bool r) ∧ Drawn0 w w' := by
 have HR0 := Aside0.mk hr0
 have HC0 := Aside0.mk hc0
 clear hr0 hc0
 have H : (if a1.toList = ([105, 110, 116] : List UInt8) then (some true) else (if a1.toList = ([98, 111, 111, 108] : List UInt8) then (some true) else (if (a1.size : Int) > 0 then (if 0 < (a1.size : Int) then (if (bt a1 0) = 42 then (if 1 ≤ (a1.size : Int) then ((truantref03_Find.f k l0 (a1.extract 1 a1.size)).bind fun t204 => (some (decide (t204 ≥ 0)))) else (none)) else (some false)) else (none)) else (some false)))) = some r := h
 clear h
 by_cases c3 : a1.toList = ([105, 110, 116] : List UInt8)
 ·rw [if_pos c3] at H
  have c3b0 : (a1.toList == ([105, 110, 116] : List UInt8)) = true := beq_iff_eq.mpr c3
  have c3b1 : (a1.toList != ([105, 110, 116] : List UInt8)) = false := bne_eq_false_iff_eq.mpr c3
  clear c3
  obtain rfl := Option.some.inj H
  go_enter Try.func16, Try.ntmps16
  go_wp2
  go_ret
  exact ⟨by first | rfl | (simp; done) | (simp [*]; done), by repeat (first | exact Drawn0.refl _ | apply Drawn0.step)⟩
 ·rw [if_neg c3] at H
  have c3b0 : (a1.toList == ([105, 110, 116] : List UInt8)) = false := beq_eq_false_iff_ne.mpr c3
  have c3b1 : (a1.toList != ([105, 110, 116] : List UInt8)) = true := bne_iff_ne.mpr c3
  by_cases c4 : a1.toList = ([98, 111, 111, 108] : List UInt8)
  ·rw [if_pos c4] at H
   have c4b0 : (a1.toList == ([98, 111, 111, 108] : List UInt8)) = true := beq_iff_eq.mpr c4
   have c4b1 : (a1.toList != ([98, 111, 111, 108] : List UInt8)) = false := bne_eq_false_iff_eq.mpr c4
   clear c4
   obtain rfl := Option.some.inj H
   go_enter Try.func16, Try.ntmps16
   go_wp2
   go_ret
   exact ⟨by first | rfl | (simp; done) | (simp [*]; done), by repeat (first | exact Drawn0.refl _ | apply Drawn0.step)⟩
  ·rw [if_neg c4] at H
   have c4b0 : (a1.toList == ([98, 111, 111, 108] : List UInt8)) = false := beq_eq_false_iff_ne.mpr c4
   have c4b1 : (a1.toList != ([98, 111, 111, 108] : List UInt8)) = true := bne_iff_ne.mpr c4
   by_cases c5 : (a1.size : Int) > 0
   ·rw [if_pos c5] at H
    have c5b0 : decide (0 < (a1.size : Int)) = true := decide_eq_true c5
    have c5b1 : decide (0 < a1.size) = true := decide_eq_true (by omega)
    clear c5
    by_cases c6 : 0 < (a1.size : Int)
    ·rw [if_pos c6] at H
     have c6b0 : decide (0 < (a1.size : Int)) = true := decide_eq_true c6
     have c6b1 : decide (0 < a1.size) = true := decide_eq_true (by omega)
     clear c6
     by_cases c8 : (bt a1 0) = 42
     ·rw [if_pos c8] at H
      have c8b0 : ((bt a1 0) == 42) = true := beq_iff_eq.mpr c8
      have c8b1 : ((bt a1 0) != 42) = false := bne_eq_false_iff_eq.mpr c8
      clear c8
      by_cases c9 : 1 ≤ (a1.size : Int)
      ·rw [if_pos c9] at H
       have c9b0 := eq_true c9
       have c9b1 : decide (1 ≤ (a1.size : Int)) = true := decide_eq_true c9
       clear c9
       replace H := Option.bind_eq_some_iff.mp H
       obtain ⟨t204, A100, H⟩ := H
       replace H : (some (decide (t204 ≥ 0))) = some r := H
       have A10 := Aside0.mk A100
       clear A100
       obtain rfl := Option.some.inj H
       have p7 : 0 ≤ (0 : Int) := (by omega)
       have q7 : 0 < a1.size := (by have : (0 : Int) < (a1.size : Int) := of_decide_eq_true (by first | (with_reducible assumption) | assumption); omega)
       have hx7 : ∀ h : 0 < a1.size, ((a1[0]'h).toNat : Int) = bt a1 0 := bt_at a1 0
       clear p7
       have qi7 : (0 < (a1.size : Int)) = True := eq_true (of_decide_eq_true (by first | (with_reducible assumption) | assumption))
       replace q7 := eq_true q7
       go_enter Try.func16, Try.ntmps16
       go_wp2_with (first | (go_at_call 13; (with_reducible refine (truantref03_Find.calls k _ _ l0 (a1.extract 1 a1.size) t204 _ ?side1 ?side2 A10.out).mono ?_); (case side1 => repeat (first | exact HR0.out | (with_reducible refine Kd.C_alloc ?_ _) | (with_reducible refine Kd.C_drewN ?_ _) | (with_reducible refine Kd.C_drew ?_))); (case side2 => exact HC0.out); rintro e w' ⟨rfl, ⟨nd, rfl⟩⟩))
       go_ret
       exact ⟨by first | rfl | (simp; done) | (simp [*]; done), by repeat (first | exact Drawn0.refl _ | apply Drawn0.step)⟩
      ·rw [if_neg c9] at H
       exact absurd H (by simp)
     ·rw [if_neg c8] at H
      have c8b0 : ((bt a1 0) == 42) = false := beq_eq_false_iff_ne.mpr c8
      have c8b1 : ((bt a1 0) != 42) = true := bne_iff_ne.mpr c8
      obtain rfl := Option.some.inj H
      have p7 : 0 ≤ (0 : Int) := (by omega)
      have q7 : 0 < a1.size := (by have : (0 : Int) < (a1.size : Int) := of_decide_eq_true (by first | (with_reducible assumption) | assumption); omega)
      have hx7 : ∀ h : 0 < a1.size, ((a1[0]'h).toNat : Int) = bt a1 0 := bt_at a1 0
      clear p7
      have qi7 : (0 < (a1.size : Int)) = True := eq_true (of_decide_eq_true (by first | (with_reducible assumption) | assumption))
      replace q7 := eq_true q7
      go_enter Try.func16, Try.ntmps16
      go_wp2
      go_ret
      exact ⟨by first | rfl | (simp; done) | (simp [*]; done), by repeat (first | exact Drawn0.refl _ | apply Drawn0.step)⟩
    ·rw [if_neg c6] at H
     exact absurd H (by simp)
   ·rw [if_neg c5] at H
    have c5b0 : decide (0 < (a1.size : Int)) = false := decide_eq_false c5
    have c5b1 : decide (0 < a1.size) = false := decide_eq_false (by omega)
    clear c5
    obtain rfl := Option.some.inj H
    go_enter Try.func16, Try.ntmps16
    go_wp2
    go_ret
    exact ⟨by first | rfl | (simp; done) | (simp [*]; done), by repeat (first | exact Drawn0.refl _ | apply Drawn0.step)⟩

end Go.Proofs.Ythpglaekdadehaa.Q

namespace Go.Proofs.Ythpglaekdadehaa.Q
open Go.RowKit Go.Proofs.YthpglaekdadehaaW.PrintWords Go.Proofs.YthpglaekdadehaaW.PrintLast Go.Proofs.YthpglaekdadehaaW.PrintMore
attribute [local go_sem] max2_int min2_int max_two min_two max_three min_three max_four min_four   -- for this text's walks alone
set_option linter.unusedVariables false
set_option linter.unusedSimpArgs false

/-! ### truantref03_Check: function 10 -/
mutual
def truantref03_Check.l0 : Nat → List (S43) → Int → Option (Int × Int)
 | 0, _, _ => none
 | k + 1, x0, x4 => if x4 < (x0.length : Int) then (if 0 ≤ x4 then ((truantref02_Word.f k ((rd_T43 x0 x4).f0)).bind fun t211 => (if t211 = true then ((truantref03_Find.f k x0 ((rd_T43 x0 x4).f0)).bind fun t212 => (if t212 < x4 then (some (x4, 6)) else (if (((rd_T43 x0 x4).f1).length : Int) > 8 then (some (x4, 4)) else (truantref03_Check.l1 k x0 x4 0 ((rd_T43 x0 x4).f0) ((rd_T43 x0 x4).f1))))) else (some (x4, 1)))) else (none)) else (some (0, 0))
def truantref03_Check.l1 : Nat → List (S43) → Int → Int → ByteArray → List (S48) → Option (Int × Int)
 | 0, _, _, _, _, _ => none
 | k + 1, x0, x4, x6, x211000, x211001 => if x6 < (x211001.length : Int) then (if 0 ≤ x6 then ((truantref02_Word.f k ((rd_T48 x211001 x6).f0)).bind fun t214 => (if t214 = true then (truantref03_Check.l2 k x0 x4 x6 0 x211000 x211001) else (some (x4, 1)))) else (none)) else (truantref03_Check.l0 k x0 (wrap64 (x4 + 1)))
def truantref03_Check.l2 : Nat → List (S43) → Int → Int → Int → ByteArray → List (S48) → Option (Int × Int)
 | 0, _, _, _, _, _, _ => none
 | k + 1, x0, x4, x6, x7, x211000, x211001 => if x7 < x6 then (if 0 ≤ x7 then (if x7 < (x211001.length : Int) then (if 0 ≤ x6 then (if x6 < (x211001.length : Int) then (if ((rd_T48 x211001 x7).f0).toList = ((rd_T48 x211001 x6).f0).toList then (some (x4, 6)) else (truantref03_Check.l2 k x0 x4 x6 (wrap64 (x7 + 1)) x211000 x211001)) else (none)) else (none)) else (none)) else (none)) else (if 0 ≤ x6 then (if x6 < (x211001.length : Int) then ((truantref03_Is.f k x0 ((rd_T48 x211001 x6).f1)).bind fun t218 => (if t218 = true then (truantref03_Check.l1 k x0 x4 (wrap64 (x6 + 1)) x211000 x211001) else (some (x4, 7)))) else (none)) else (none))
end
def truantref03_Check.f (k : Nat) (l0 : List (S43)) : Option (Int × Int) := if (l0.length : Int) > 12 then (some (0, 4)) else (truantref03_Check.l0 k l0 0)
theorem truantref03_Check.mono_l : ∀ k, (∀ y0 y1, LeO (truantref03_Check.l0 k y0 y1) (truantref03_Check.l0 (k + 1) y0 y1)) ∧ (∀ y0 y1 y2 y3 y4, LeO (truantref03_Check.l1 k y0 y1 y2 y3 y4) (truantref03_Check.l1 (k + 1) y0 y1 y2 y3 y4)) ∧ (∀ y0 y1 y2 y3 y4 y5, LeO (truantref03_Check.l2 k y0 y1 y2 y3 y4 y5) (truantref03_Check.l2 (k + 1) y0 y1 y2 y3 y4 y5))
 | 0 => ⟨fun _ _ r h => by simp [truantref03_Check.l0] at h, fun _ _ _ _ _ r h => by simp [truantref03_Check.l1] at h, fun _ _ _ _ _ _ r h => by simp [truantref03_Check.l2] at h⟩
 | k + 1 => by
  obtain ⟨ih0, ih1, ih2⟩ := truantref03_Check.mono_l k
  refine ⟨?_, ?_, ?_⟩
  ·intro y0 y1
   unfold truantref03_Check.l0
   repeat' first
   | (with_reducible exact ih0 _ _)
   | (with_reducible exact ih1 _ _ _ _ _)
   | (with_reducible exact ih2 _ _ _ _ _ _)
   | (with_reducible exact truantref02_Word.mono _ _)
   | (with_reducible exact truantref03_Find.mono _ _ _)
   | (with_reducible exact truantref03_Is.mono _ _ _)
   | (with_reducible exact LeO.refl _)
   | (with_reducible exact LeO.none _)
   | (with_reducible refine LeO.ite ?_ ?_)
   | (with_reducible refine LeO.bind ?_ (fun _ => ?_))
   | exact ih0 _ _
   | exact ih1 _ _ _ _ _
   | exact ih2 _ _ _ _ _ _
   | exact truantref02_Word.mono _ _
   | exact truantref03_Find.mono _ _ _
   | exact truantref03_Is.mono _ _ _
   | exact LeO.none _
   | refine LeO.ite ?_ ?_
   | refine LeO.bind ?_ (fun _ => ?_)
  ·intro y0 y1 y2 y3 y4
   unfold truantref03_Check.l1
   repeat' first
   | (with_reducible exact ih0 _ _)
   | (with_reducible exact ih1 _ _ _ _ _)
   | (with_reducible exact ih2 _ _ _ _ _ _)
   | (with_reducible exact truantref02_Word.mono _ _)
   | (with_reducible exact truantref03_Find.mono _ _ _)
   | (with_reducible exact truantref03_Is.mono _ _ _)
   | (with_reducible exact LeO.refl _)
   | (with_reducible exact LeO.none _)
   | (with_reducible refine LeO.ite ?_ ?_)
   | (with_reducible refine LeO.bind ?_ (fun _ => ?_))
   | exact ih0 _ _
   | exact ih1 _ _ _ _ _
   | exact ih2 _ _ _ _ _ _
   | exact truantref02_Word.mono _ _
   | exact truantref03_Find.mono _ _ _
   | exact truantref03_Is.mono _ _ _
   | exact LeO.none _
   | refine LeO.ite ?_ ?_
   | refine LeO.bind ?_ (fun _ => ?_)
  ·intro y0 y1 y2 y3 y4 y5
   unfold truantref03_Check.l2
   repeat' first
   | (with_reducible exact ih0 _ _)
   | (with_reducible exact ih1 _ _ _ _ _)
   | (with_reducible exact ih2 _ _ _ _ _ _)
   | (with_reducible exact truantref02_Word.mono _ _)
   | (with_reducible exact truantref03_Find.mono _ _ _)
   | (with_reducible exact truantref03_Is.mono _ _ _)
   | (with_reducible exact LeO.refl _)
   | (with_reducible exact LeO.none _)
   | (with_reducible refine LeO.ite ?_ ?_)
   | (with_reducible refine LeO.bind ?_ (fun _ => ?_))
   | exact ih0 _ _
   | exact ih1 _ _ _ _ _
   | exact ih2 _ _ _ _ _ _
   | exact truantref02_Word.mono _ _
   | exact truantref03_Find.mono _ _ _
   | exact truantref03_Is.mono _ _ _
   | exact LeO.none _
   | refine LeO.ite ?_ ?_
   | refine LeO.bind ?_ (fun _ => ?_)
theorem truantref03_Check.mono : ∀ a0 k, LeO (truantref03_Check.f k a0) (truantref03_Check.f (k + 1) a0) := by
 intro a0 k
 obtain ⟨ih0, ih1, ih2⟩ := truantref03_Check.mono_l k
 unfold truantref03_Check.f
 repeat' first
   | (with_reducible exact ih0 _ _)
   | (with_reducible exact ih1 _ _ _ _ _)
   | (with_reducible exact ih2 _ _ _ _ _ _)
   | (with_reducible exact truantref02_Word.mono _ _)
   | (with_reducible exact truantref03_Find.mono _ _ _)
   | (with_reducible exact truantref03_Is.mono _ _ _)
   | (with_reducible exact LeO.refl _)
   | (with_reducible exact LeO.none _)
   | (with_reducible refine LeO.ite ?_ ?_)
   | (with_reducible refine LeO.bind ?_ (fun _ => ?_))
   | exact ih0 _ _
   | exact ih1 _ _ _ _ _
   | exact ih2 _ _ _ _ _ _
   | exact truantref02_Word.mono _ _
   | exact truantref03_Find.mono _ _ _
   | exact truantref03_Is.mono _ _ _
   | exact LeO.none _
   | refine LeO.ite ?_ ?_
   | refine LeO.bind ?_ (fun _ => ?_)
set_option maxHeartbeats 8000000 in
set_option maxRecDepth 100000 in
theorem truantref03_Check.calls (k : Nat) (A0 : Option Addr) (c0 : Nat) (l0 : List (S43)) (r1 : Int) (r2 : Int) (w : World) (hr0 : Kd.C k43 w A0 l0.length l0) (hc0 : l0.length ≤ c0) (h : truantref03_Check.f k l0 = some (r1, r2)) :
  Calls Try.prog 10 #[.slice A0 l0.length c0] w fun e w' => e = .returned (.tuple #[.int .i64 r1, .int .i64 r2]) ∧ Below w.heap.size w w' := by
 have hu43 := Try.underlying43
 have HR0 := Aside0.mk hr0
 have HC0 := Aside0.mk hc0
 clear hr0 hc0
 have HB := Aside0.mk (Below.refl w.heap.size w)
 have H : (if (l0.length : Int) > 12 then (some (0, 4)) else (truantref03_Check.l0 k l0 0)) = some (r1, r2) := h
 clear h
 by_cases c2 : (l0.length : Int) > 12
 ·rw [if_pos c2] at H
  have c2b0 : decide (12 < (l0.length : Int)) = true := decide_eq_true c2
  have c2b1 : decide (12 < l0.length) = true := decide_eq_true (by omega)
  clear c2
  simp only [Option.some.injEq, Prod.mk.injEq] at H
  obtain ⟨rfl, rfl⟩ := H
  go_enter Try.func10, Try.ntmps10
  go_wp2
  repeat (go_quiet (fail); try go_wp2)
  go_ret2
  exact ⟨by first | rfl | (simp [errW_none, errW_some] <;> rfl) | (simp [*, errW_none, errW_some] <;> rfl), by repeat (first | (with_reducible first | exact HB.out | apply below_alloc | apply pw_below_drewN | apply below_drew1) | exact HB.out)⟩
 ·rw [if_neg c2] at H
  have c2b0 : decide (12 < (l0.length : Int)) = false := decide_eq_false c2
  have c2b1 : decide (12 < l0.length) = false := decide_eq_false (by omega)
  clear c2
  have H' := Aside0.mk H
  clear H
  go_enter Try.func10, Try.ntmps10
  go_wp2
  repeat (go_quiet (fail); try go_wp2)
  go_loopg [4] k (fun kq v4 w' => ∃ (x4_1 : Int), v4 = .int .i64 x4_1 ∧ Aside0 (truantref03_Check.l0 kq l0 x4_1 = some (r1, r2)) ∧ Aside0 (kq ≤ k) ∧ Aside0 (Below w.heap.size w w'))
  case atStart => exact ⟨(0), (by first | rfl | (simp; done) | (simp [*]; done)), H', ⟨Nat.le_refl _⟩, ⟨by repeat (first | (with_reducible first | exact HB.out | apply below_alloc | apply pw_below_drewN | apply below_drew1) | exact HB.out)⟩⟩
  case round =>
   clear H'
   try clear c1
   try clear c2
   try clear c2b0
   try clear c2b1
   try clear p2
   obtain ⟨x4_1, rfl, HA, HK1, HB⟩ := hrel
   cases gk with
   | zero => exact absurd HA.out (by simp [truantref03_Check.l0])
   | succ k1 =>
    have H := HA.out
    clear HA
    simp only [truantref03_Check.l0] at H
    by_cases c3 : x4_1 < (l0.length : Int)
    ·rw [if_pos c3] at H
     have c3b0 : decide (x4_1 < (l0.length : Int)) = true := decide_eq_true c3
     clear c3
     by_cases c4 : 0 ≤ x4_1
     ·rw [if_pos c4] at H
      have c4b0 : decide (0 ≤ x4_1) = true := decide_eq_true c4
      clear c4
      replace H := Option.bind_eq_some_iff.mp H
      obtain ⟨t211, A50, H⟩ := H
      replace H : (if t211 = true then ((truantref03_Find.f k1 l0 ((rd_T43 l0 x4_1).f0)).bind fun t212 => (if t212 < x4_1 then (some (x4_1, 6)) else (if (((rd_T43 l0 x4_1).f1).length : Int) > 8 then (some (x4_1, 4)) else (truantref03_Check.l1 k1 l0 x4_1 0 ((rd_T43 l0 x4_1).f0) ((rd_T43 l0 x4_1).f1))))) else (some (x4_1, 1))) = some (r1, r2) := H
      have A5 := Aside0.mk A50
      clear A50
      by_cases c6 : t211 = true
      ·subst c6
       have H1 : ((truantref03_Find.f k1 l0 ((rd_T43 l0 x4_1).f0)).bind fun t212 => (if t212 < x4_1 then (some (x4_1, 6)) else (if (((rd_T43 l0 x4_1).f1).length : Int) > 8 then (some (x4_1, 4)) else (truantref03_Check.l1 k1 l0 x4_1 0 ((rd_T43 l0 x4_1).f0) ((rd_T43 l0 x4_1).f1))))) = some (r1, r2) := by rw [if_pos rfl] at H; exact H
       clear H
       have H := H1
       clear H1
       replace H := Option.bind_eq_some_iff.mp H
       obtain ⟨t212, A70, H⟩ := H
       replace H : (if t212 < x4_1 then (some (x4_1, 6)) else (if (((rd_T43 l0 x4_1).f1).length : Int) > 8 then (some (x4_1, 4)) else (truantref03_Check.l1 k1 l0 x4_1 0 ((rd_T43 l0 x4_1).f0) ((rd_T43 l0 x4_1).f1)))) = some (r1, r2) := H
       have A7 := Aside0.mk A70
       clear A70
       by_cases c8 : t212 < x4_1
       ·rw [if_pos c8] at H
        have c8b0 : decide (t212 < x4_1) = true := decide_eq_true c8
        clear c8
        simp only [Option.some.injEq, Prod.mk.injEq] at H
        obtain ⟨rfl, rfl⟩ := H
        have p209 : 0 ≤ (x4_1 : Int) := of_decide_eq_true (by first | (with_reducible assumption) | assumption)
        have q209 : x4_1 < (l0.length : Int) := of_decide_eq_true (by first | (with_reducible assumption) | assumption)
        obtain ⟨ad209, A209_1, c209_1, e209, hx209_0, hx209_1, hl209_1, hi209_1⟩ := at_T43 HR0.out x4_1 p209 q209
        cases e209
        replace hx209_0 := (HB.out.cell (World.block_lt_of_cell? w _ hx209_0)).trans hx209_0
        replace hx209_1 := (HB.out.cell (World.block_lt_of_cell? w _ hx209_1)).trans hx209_1
        have HR209_1 := Aside0.mk hi209_1
        have HC209_1 := Aside0.mk hl209_1
        clear hi209_1 hl209_1
        replace p209 := eq_true p209
        replace q209 := eq_true q209
        go_wp2_with (first | ((with_reducible refine gate_dst (N := 5) rfl ?_); refine box_event ?hg (N := 5) ?hd (cs := #[.string (⟨#[]⟩ : ByteArray), .slice none 0 0]) (t := 43) ?hr ?_; (case hd => rfl); (case hg => rfl); (case hr => first | (go_simp; done) | (go_simp; rfl)); intro gb210 hg w9 hbox hb; have n0_ := Aside0.mk (below_step (by repeat (first | (with_reducible first | exact HB.out | apply below_alloc | apply pw_below_drewN | apply below_drew1) | exact HB.out)) hb); have n1_ := Aside0.mk (hbox); have n2_ := Aside0.mk ((by rw [hg]; exact (below_size (by repeat (first | (with_reducible first | exact HB.out | apply below_alloc | apply pw_below_drewN | apply below_drew1) | exact HB.out))) : w.heap.size ≤ gb210)); have n3_ := Aside0.mk ((by rw [hg]; exact (below_size (by repeat (first | (with_reducible first | exact HB.out | apply below_alloc | apply pw_below_drewN | apply below_drew1) | exact HB.out))) : w.heap.size ≤ gb210)); clear HB; have HB := n0_; have BK210 := n1_; have GW210 := n2_; have GE210 := n3_; clear n0_ n1_ n2_ n3_; clear hb hbox hg; have hcz10_0 : w9.cell? ⟨gb210, 0, none⟩ = some (.string (⟨#[]⟩ : ByteArray)) := (blk_cell BK210.out 0).trans rfl; have hcz10_1 : w9.cell? ⟨gb210, 1, none⟩ = some (.slice none 0 0) := (blk_cell BK210.out 1).trans rfl; have hfz10_0 := blk_frozen BK210.out 0; have hfz10_1 := blk_frozen BK210.out 1) | (go_at_call 27; (with_reducible refine (truantref02_Word.calls k1 ((rd_T43 l0 x4_1).f0) true _ A5.out).mono ?_); rintro e w11 ⟨rfl, hb⟩; have n0_ := Aside0.mk (blk_below (g := gb210) (o := .cells #[.string ((rd_T43 l0 x4_1).f0), .slice A209_1 ((rd_T43 l0 x4_1).f1).length c209_1] 43 (0, 0)) (by (with_reducible repeat (first | refine blk_drewN ?_ _ | refine blk_drew ?_ | refine blk_alloc ?_ _)); refine blk_put (cs := #[.string ((rd_T43 l0 x4_1).f0), .slice none 0 0]) ?_ 1 _ rfl; (with_reducible repeat (first | refine blk_drewN ?_ _ | refine blk_drew ?_ | refine blk_alloc ?_ _)); refine blk_put (cs := #[.string (⟨#[]⟩ : ByteArray), .slice none 0 0]) ?_ 0 _ rfl; (with_reducible repeat (first | refine blk_drewN ?_ _ | refine blk_drew ?_ | refine blk_alloc ?_ _)); exact BK210.out) hb); have n1_ := Aside0.mk (below_step (by repeat (first | (with_reducible first | exact HB.out | apply below_alloc | apply pw_below_drewN | apply below_drew1 | refine below_set ?_ GE210.out) | exact HB.out)) hb); clear BK210; clear HB; have BK210 := n0_; have HB := n1_; clear n0_ n1_; (try clear hb); (try clear hb2); (try clear hk); (try clear hi); have hcz12_0 : w11.cell? ⟨gb210, 0, none⟩ = some (.string ((rd_T43 l0 x4_1).f0)) := (blk_cell BK210.out 0).trans rfl; have hcz12_1 : w11.cell? ⟨gb210, 1, none⟩ = some (.slice A209_1 ((rd_T43 l0 x4_1).f1).length c209_1) := (blk_cell BK210.out 1).trans rfl; have hfz12_0 := blk_frozen BK210.out 0; have hfz12_1 := blk_frozen BK210.out 1) | (go_at_call 13; (with_reducible refine (truantref03_Find.calls k1 _ _ l0 ((rd_T43 l0 x4_1).f0) t212 _ ?side1 ?side2 A7.out).mono ?_); (case side1 => repeat (first | exact (Kd.C_below HR0.out HB.out) | (with_reducible refine Kd.C_alloc ?_ _) | (with_reducible refine Kd.C_drewN ?_ _) | (with_reducible refine Kd.C_drew ?_))); (case side2 => exact HC0.out); rintro e w' ⟨rfl, ⟨nd, rfl⟩⟩; (try first | exact ⟨rfl, _, World.drewN_drewN _ _ _⟩ | exact ⟨rfl, _, Eq.trans (World.drewN_drewN _ _ _) (congrArg (World.drewN _) (Nat.add_assoc _ _ _))⟩)))
        repeat (go_quiet (first | ((with_reducible refine gate_dst (N := 5) rfl ?_); refine box_event ?hg (N := 5) ?hd (cs := #[.string (⟨#[]⟩ : ByteArray), .slice none 0 0]) (t := 43) ?hr ?_; (case hd => rfl); (case hg => rfl); (case hr => first | (go_simp; done) | (go_simp; rfl)); intro gb210 hg w9 hbox hb; have n0_ := Aside0.mk (below_step (by repeat (first | (with_reducible first | exact HB.out | apply below_alloc | apply pw_below_drewN | apply below_drew1) | exact HB.out)) hb); have n1_ := Aside0.mk (hbox); have n2_ := Aside0.mk ((by rw [hg]; exact (below_size (by repeat (first | (with_reducible first | exact HB.out | apply below_alloc | apply pw_below_drewN | apply below_drew1) | exact HB.out))) : w.heap.size ≤ gb210)); have n3_ := Aside0.mk ((by rw [hg]; exact (below_size (by repeat (first | (with_reducible first | exact HB.out | apply below_alloc | apply pw_below_drewN | apply below_drew1) | exact HB.out))) : w.heap.size ≤ gb210)); clear HB; have HB := n0_; have BK210 := n1_; have GW210 := n2_; have GE210 := n3_; clear n0_ n1_ n2_ n3_; clear hb hbox hg; have hcz10_0 : w9.cell? ⟨gb210, 0, none⟩ = some (.string (⟨#[]⟩ : ByteArray)) := (blk_cell BK210.out 0).trans rfl; have hcz10_1 : w9.cell? ⟨gb210, 1, none⟩ = some (.slice none 0 0) := (blk_cell BK210.out 1).trans rfl; have hfz10_0 := blk_frozen BK210.out 0; have hfz10_1 := blk_frozen BK210.out 1) | (go_at_call 27; (with_reducible refine (truantref02_Word.calls k1 ((rd_T43 l0 x4_1).f0) true _ A5.out).mono ?_); rintro e w11 ⟨rfl, hb⟩; have n0_ := Aside0.mk (blk_below (g := gb210) (o := .cells #[.string ((rd_T43 l0 x4_1).f0), .slice A209_1 ((rd_T43 l0 x4_1).f1).length c209_1] 43 (0, 0)) (by (with_reducible repeat (first | refine blk_drewN ?_ _ | refine blk_drew ?_ | refine blk_alloc ?_ _)); refine blk_put (cs := #[.string ((rd_T43 l0 x4_1).f0), .slice none 0 0]) ?_ 1 _ rfl; (with_reducible repeat (first | refine blk_drewN ?_ _ | refine blk_drew ?_ | refine blk_alloc ?_ _)); refine blk_put (cs := #[.string (⟨#[]⟩ : ByteArray), .slice none 0 0]) ?_ 0 _ rfl; (with_reducible repeat (first | refine blk_drewN ?_ _ | refine blk_drew ?_ | refine blk_alloc ?_ _)); exact BK210.out) hb); have n1_ := Aside0.mk (below_step (by repeat (first | (with_reducible first | exact HB.out | apply below_alloc | apply pw_below_drewN | apply below_drew1 | refine below_set ?_ GE210.out) | exact HB.out)) hb); clear BK210; clear HB; have BK210 := n0_; have HB := n1_; clear n0_ n1_; (try clear hb); (try clear hb2); (try clear hk); (try clear hi); have hcz12_0 : w11.cell? ⟨gb210, 0, none⟩ = some (.string ((rd_T43 l0 x4_1).f0)) := (blk_cell BK210.out 0).trans rfl; have hcz12_1 : w11.cell? ⟨gb210, 1, none⟩ = some (.slice A209_1 ((rd_T43 l0 x4_1).f1).length c209_1) := (blk_cell BK210.out 1).trans rfl; have hfz12_0 := blk_frozen BK210.out 0; have hfz12_1 := blk_frozen BK210.out 1) | (go_at_call 13; (with_reducible refine (truantref03_Find.calls k1 _ _ l0 ((rd_T43 l0 x4_1).f0) t212 _ ?side1 ?side2 A7.out).mono ?_); (case side1 => repeat (first | exact (Kd.C_below HR0.out HB.out) | (with_reducible refine Kd.C_alloc ?_ _) | (with_reducible refine Kd.C_drewN ?_ _) | (with_reducible refine Kd.C_drew ?_))); (case side2 => exact HC0.out); rintro e w' ⟨rfl, ⟨nd, rfl⟩⟩; (try first | exact ⟨rfl, _, World.drewN_drewN _ _ _⟩ | exact ⟨rfl, _, Eq.trans (World.drewN_drewN _ _ _) (congrArg (World.drewN _) (Nat.add_assoc _ _ _))⟩))); try go_wp2_with (first | ((with_reducible refine gate_dst (N := 5) rfl ?_); refine box_event ?hg (N := 5) ?hd (cs := #[.string (⟨#[]⟩ : ByteArray), .slice none 0 0]) (t := 43) ?hr ?_; (case hd => rfl); (case hg => rfl); (case hr => first | (go_simp; done) | (go_simp; rfl)); intro gb210 hg w9 hbox hb; have n0_ := Aside0.mk (below_step (by repeat (first | (with_reducible first | exact HB.out | apply below_alloc | apply pw_below_drewN | apply below_drew1) | exact HB.out)) hb); have n1_ := Aside0.mk (hbox); have n2_ := Aside0.mk ((by rw [hg]; exact (below_size (by repeat (first | (with_reducible first | exact HB.out | apply below_alloc | apply pw_below_drewN | apply below_drew1) | exact HB.out))) : w.heap.size ≤ gb210)); have n3_ := Aside0.mk ((by rw [hg]; exact (below_size (by repeat (first | (with_reducible first | exact HB.out | apply below_alloc | apply pw_below_drewN | apply below_drew1) | exact HB.out))) : w.heap.size ≤ gb210)); clear HB; have HB := n0_; have BK210 := n1_; have GW210 := n2_; have GE210 := n3_; clear n0_ n1_ n2_ n3_; clear hb hbox hg; have hcz10_0 : w9.cell? ⟨gb210, 0, none⟩ = some (.string (⟨#[]⟩ : ByteArray)) := (blk_cell BK210.out 0).trans rfl; have hcz10_1 : w9.cell? ⟨gb210, 1, none⟩ = some (.slice none 0 0) := (blk_cell BK210.out 1).trans rfl; have hfz10_0 := blk_frozen BK210.out 0; have hfz10_1 := blk_frozen BK210.out 1) | (go_at_call 27; (with_reducible refine (truantref02_Word.calls k1 ((rd_T43 l0 x4_1).f0) true _ A5.out).mono ?_); rintro e w11 ⟨rfl, hb⟩; have n0_ := Aside0.mk (blk_below (g := gb210) (o := .cells #[.string ((rd_T43 l0 x4_1).f0), .slice A209_1 ((rd_T43 l0 x4_1).f1).length c209_1] 43 (0, 0)) (by (with_reducible repeat (first | refine blk_drewN ?_ _ | refine blk_drew ?_ | refine blk_alloc ?_ _)); refine blk_put (cs := #[.string ((rd_T43 l0 x4_1).f0), .slice none 0 0]) ?_ 1 _ rfl; (with_reducible repeat (first | refine blk_drewN ?_ _ | refine blk_drew ?_ | refine blk_alloc ?_ _)); refine blk_put (cs := #[.string (⟨#[]⟩ : ByteArray), .slice none 0 0]) ?_ 0 _ rfl; (with_reducible repeat (first | refine blk_drewN ?_ _ | refine blk_drew ?_ | refine blk_alloc ?_ _)); exact BK210.out) hb); have n1_ := Aside0.mk (below_step (by repeat (first | (with_reducible first | exact HB.out | apply below_alloc | apply pw_below_drewN | apply below_drew1 | refine below_set ?_ GE210.out) | exact HB.out)) hb); clear BK210; clear HB; have BK210 := n0_; have HB := n1_; clear n0_ n1_; (try clear hb); (try clear hb2); (try clear hk); (try clear hi); have hcz12_0 : w11.cell? ⟨gb210, 0, none⟩ = some (.string ((rd_T43 l0 x4_1).f0)) := (blk_cell BK210.out 0).trans rfl; have hcz12_1 : w11.cell? ⟨gb210, 1, none⟩ = some (.slice A209_1 ((rd_T43 l0 x4_1).f1).length c209_1) := (blk_cell BK210.out 1).trans rfl; have hfz12_0 := blk_frozen BK210.out 0; have hfz12_1 := blk_frozen BK210.out 1) | (go_at_call 13; (with_reducible refine (truantref03_Find.calls k1 _ _ l0 ((rd_T43 l0 x4_1).f0) t212 _ ?side1 ?side2 A7.out).mono ?_); (case side1 => repeat (first | exact (Kd.C_below HR0.out HB.out) | (with_reducible refine Kd.C_alloc ?_ _) | (with_reducible refine Kd.C_drewN ?_ _) | (with_reducible refine Kd.C_drew ?_))); (case side2 => exact HC0.out); rintro e w' ⟨rfl, ⟨nd, rfl⟩⟩; (try first | exact ⟨rfl, _, World.drewN_drewN _ _ _⟩ | exact ⟨rfl, _, Eq.trans (World.drewN_drewN _ _ _) (congrArg (World.drewN _) (Nat.add_assoc _ _ _))⟩))))
        go_ret2
        exact ⟨by first | rfl | (simp [errW_none, errW_some] <;> rfl) | (simp [*, errW_none, errW_some] <;> rfl), by repeat (first | (with_reducible first | exact HB.out | apply below_alloc | apply pw_below_drewN | apply below_drew1 | refine below_set ?_ GE210.out) | exact HB.out)⟩
       ·rw [if_neg c8] at H
        have c8b0 : decide (t212 < x4_1) = false := decide_eq_false c8
        clear c8
        by_cases c13 : (((rd_T43 l0 x4_1).f1).length : Int) > 8
        ·rw [if_pos c13] at H
         have c13b0 : decide (8 < (((rd_T43 l0 x4_1).f1).length : Int)) = true := decide_eq_true c13
         have c13b1 : decide (8 < ((rd_T43 l0 x4_1).f1).length) = true := decide_eq_true (by omega)
         clear c13
         simp only [Option.some.injEq, Prod.mk.injEq] at H
         obtain ⟨rfl, rfl⟩ := H
         have p209 : 0 ≤ (x4_1 : Int) := of_decide_eq_true (by first | (with_reducible assumption) | assumption)
         have q209 : x4_1 < (l0.length : Int) := of_decide_eq_true (by first | (with_reducible assumption) | assumption)
         obtain ⟨ad209, A209_1, c209_1, e209, hx209_0, hx209_1, hl209_1, hi209_1⟩ := at_T43 HR0.out x4_1 p209 q209
         cases e209
         replace hx209_0 := (HB.out.cell (World.block_lt_of_cell? w _ hx209_0)).trans hx209_0
         replace hx209_1 := (HB.out.cell (World.block_lt_of_cell? w _ hx209_1)).trans hx209_1
         have HR209_1 := Aside0.mk hi209_1
         have HC209_1 := Aside0.mk hl209_1
         clear hi209_1 hl209_1
         replace p209 := eq_true p209
         replace q209 := eq_true q209
         go_wp2_with (first | ((with_reducible refine gate_dst (N := 5) rfl ?_); refine box_event ?hg (N := 5) ?hd (cs := #[.string (⟨#[]⟩ : ByteArray), .slice none 0 0]) (t := 43) ?hr ?_; (case hd => rfl); (case hg => rfl); (case hr => first | (go_simp; done) | (go_simp; rfl)); intro gb210 hg w14 hbox hb; have n0_ := Aside0.mk (below_step (by repeat (first | (with_reducible first | exact HB.out | apply below_alloc | apply pw_below_drewN | apply below_drew1) | exact HB.out)) hb); have n1_ := Aside0.mk (hbox); have n2_ := Aside0.mk ((by rw [hg]; exact (below_size (by repeat (first | (with_reducible first | exact HB.out | apply below_alloc | apply pw_below_drewN | apply below_drew1) | exact HB.out))) : w.heap.size ≤ gb210)); have n3_ := Aside0.mk ((by rw [hg]; exact (below_size (by repeat (first | (with_reducible first | exact HB.out | apply below_alloc | apply pw_below_drewN | apply below_drew1) | exact HB.out))) : w.heap.size ≤ gb210)); clear HB; have HB := n0_; have BK210 := n1_; have GW210 := n2_; have GE210 := n3_; clear n0_ n1_ n2_ n3_; clear hb hbox hg; have hcz15_0 : w14.cell? ⟨gb210, 0, none⟩ = some (.string (⟨#[]⟩ : ByteArray)) := (blk_cell BK210.out 0).trans rfl; have hcz15_1 : w14.cell? ⟨gb210, 1, none⟩ = some (.slice none 0 0) := (blk_cell BK210.out 1).trans rfl; have hfz15_0 := blk_frozen BK210.out 0; have hfz15_1 := blk_frozen BK210.out 1) | (go_at_call 27; (with_reducible refine (truantref02_Word.calls k1 ((rd_T43 l0 x4_1).f0) true _ A5.out).mono ?_); rintro e w16 ⟨rfl, hb⟩; have n0_ := Aside0.mk (blk_below (g := gb210) (o := .cells #[.string ((rd_T43 l0 x4_1).f0), .slice A209_1 ((rd_T43 l0 x4_1).f1).length c209_1] 43 (0, 0)) (by (with_reducible repeat (first | refine blk_drewN ?_ _ | refine blk_drew ?_ | refine blk_alloc ?_ _)); refine blk_put (cs := #[.string ((rd_T43 l0 x4_1).f0), .slice none 0 0]) ?_ 1 _ rfl; (with_reducible repeat (first | refine blk_drewN ?_ _ | refine blk_drew ?_ | refine blk_alloc ?_ _)); refine blk_put (cs := #[.string (⟨#[]⟩ : ByteArray), .slice none 0 0]) ?_ 0 _ rfl; (with_reducible repeat (first | refine blk_drewN ?_ _ | refine blk_drew ?_ | refine blk_alloc ?_ _)); exact BK210.out) hb); have n1_ := Aside0.mk (below_step (by repeat (first | (with_reducible first | exact HB.out | apply below_alloc | apply pw_below_drewN | apply below_drew1 | refine below_set ?_ GE210.out) | exact HB.out)) hb); clear BK210; clear HB; have BK210 := n0_; have HB := n1_; clear n0_ n1_; (try clear hb); (try clear hb2); (try clear hk); (try clear hi); have hcz17_0 : w16.cell? ⟨gb210, 0, none⟩ = some (.string ((rd_T43 l0 x4_1).f0)) := (blk_cell BK210.out 0).trans rfl; have hcz17_1 : w16.cell? ⟨gb210, 1, none⟩ = some (.slice A209_1 ((rd_T43 l0 x4_1).f1).length c209_1) := (blk_cell BK210.out 1).trans rfl; have hfz17_0 := blk_frozen BK210.out 0; have hfz17_1 := blk_frozen BK210.out 1) | (go_at_call 13; (with_reducible refine (truantref03_Find.calls k1 _ _ l0 ((rd_T43 l0 x4_1).f0) t212 _ ?side1 ?side2 A7.out).mono ?_); (case side1 => repeat (first | exact (Kd.C_below HR0.out HB.out) | (with_reducible refine Kd.C_alloc ?_ _) | (with_reducible refine Kd.C_drewN ?_ _) | (with_reducible refine Kd.C_drew ?_))); (case side2 => exact HC0.out); rintro e w' ⟨rfl, ⟨nd, rfl⟩⟩; (try first | exact ⟨rfl, _, World.drewN_drewN _ _ _⟩ | exact ⟨rfl, _, Eq.trans (World.drewN_drewN _ _ _) (congrArg (World.drewN _) (Nat.add_assoc _ _ _))⟩)))
         repeat (go_quiet (first | ((with_reducible refine gate_dst (N := 5) rfl ?_); refine box_event ?hg (N := 5) ?hd (cs := #[.string (⟨#[]⟩ : ByteArray), .slice none 0 0]) (t := 43) ?hr ?_; (case hd => rfl); (case hg => rfl); (case hr => first | (go_simp; done) | (go_simp; rfl)); intro gb210 hg w14 hbox hb; have n0_ := Aside0.mk (below_step (by repeat (first | (with_reducible first | exact HB.out | apply below_alloc | apply pw_below_drewN | apply below_drew1) | exact HB.out)) hb); have n1_ := Aside0.mk (hbox); have n2_ := Aside0.mk ((by rw [hg]; exact (below_size (by repeat (first | (with_reducible first | exact HB.out | apply below_alloc | apply pw_below_drewN | apply below_drew1) | exact HB.out))) : w.heap.size ≤ gb210)); have n3_ := Aside0.mk ((by rw [hg]; exact (below_size (by repeat (first | (with_reducible first | exact HB.out | apply below_alloc | apply pw_below_drewN | apply below_drew1) | exact HB.out))) : w.heap.size ≤ gb210)); clear HB; have HB := n0_; have BK210 := n1_; have GW210 := n2_; have GE210 := n3_; clear n0_ n1_ n2_ n3_; clear hb hbox hg; have hcz15_0 : w14.cell? ⟨gb210, 0, none⟩ = some (.string (⟨#[]⟩ : ByteArray)) := (blk_cell BK210.out 0).trans rfl; have hcz15_1 : w14.cell? ⟨gb210, 1, none⟩ = some (.slice none 0 0) := (blk_cell BK210.out 1).trans rfl; have hfz15_0 := blk_frozen BK210.out 0; have hfz15_1 := blk_frozen BK210.out 1) | (go_at_call 27; (with_reducible refine (truantref02_Word.calls k1 ((rd_T43 l0 x4_1).f0) true _ A5.out).mono ?_); rintro e w16 ⟨rfl, hb⟩; have n0_ := Aside0.mk (blk_below (g := gb210) (o := .cells #[.string ((rd_T43 l0 x4_1).f0), .slice A209_1 ((rd_T43 l0 x4_1).f1).length c209_1] 43 (0, 0)) (by (with_reducible repeat (first | refine blk_drewN ?_ _ | refine blk_drew ?_ | refine blk_alloc ?_ _)); refine blk_put (cs := #[.string ((rd_T43 l0 x4_1).f0), .slice none 0 0]) ?_ 1 _ rfl; (with_reducible repeat (first | refine blk_drewN ?_ _ | refine blk_drew ?_ | refine blk_alloc ?_ _)); refine blk_put (cs := #[.string (⟨#[]⟩ : ByteArray), .slice none 0 0]) ?_ 0 _ rfl; (with_reducible repeat (first | refine blk_drewN ?_ _ | refine blk_drew ?_ | refine blk_alloc ?_ _)); exact BK210.out) hb); have n1_ := Aside0.mk (below_step (by repeat (first | (with_reducible first | exact HB.out | apply below_alloc | apply pw_below_drewN | apply below_drew1 | refine below_set ?_ GE210.out) | exact HB.out)) hb); clear BK210; clear HB; have BK210 := n0_; have HB := n1_; clear n0_ n1_; (try clear hb); (try clear hb2); (try clear hk); (try clear hi); have hcz17_0 : w16.cell? ⟨gb210, 0, none⟩ = some (.string ((rd_T43 l0 x4_1).f0)) := (blk_cell BK210.out 0).trans rfl; have hcz17_1 : w16.cell? ⟨gb210, 1, none⟩ = some (.slice A209_1 ((rd_T43 l0 x4_1).f1).length c209_1) := (blk_cell BK210.out 1).trans rfl; have hfz17_0 := blk_frozen BK210.out 0; have hfz17_1 := blk_frozen BK210.out 1) | (go_at_call 13; (with_reducible refine (truantref03_Find.calls k1 _ _ l0 ((rd_T43 l0 x4_1).f0) t212 _ ?side1 ?side2 A7.out).mono ?_); (case side1 => repeat (first | exact (Kd.C_below HR0.out HB.out) | (with_reducible refine Kd.C_alloc ?_ _) | (with_reducible refine Kd.C_drewN ?_ _) | (with_reducible refine Kd.C_drew ?_))); (case side2 => exact HC0.out); rintro e w' ⟨rfl, ⟨nd, rfl⟩⟩; (try first | exact ⟨rfl, _, World.drewN_drewN _ _ _⟩ | exact ⟨rfl, _, Eq.trans (World.drewN_drewN _ _ _) (congrArg (World.drewN _) (Nat.add_assoc _ _ _))⟩))); try go_wp2_with (first | ((with_reducible refine gate_dst (N := 5) rfl ?_); refine box_event ?hg (N := 5) ?hd (cs := #[.string (⟨#[]⟩ : ByteArray), .slice none 0 0]) (t := 43) ?hr ?_; (case hd => rfl); (case hg => rfl); (case hr => first | (go_simp; done) | (go_simp; rfl)); intro gb210 hg w14 hbox hb; have n0_ := Aside0.mk (below_step (by repeat (first | (with_reducible first | exact HB.out | apply below_alloc | apply pw_below_drewN | apply below_drew1) | exact HB.out)) hb); have n1_ := Aside0.mk (hbox); have n2_ := Aside0.mk ((by rw [hg]; exact (below_size (by repeat (first | (with_reducible first | exact HB.out | apply below_alloc | apply pw_below_drewN | apply below_drew1) | exact HB.out))) : w.heap.size ≤ gb210)); have n3_ := Aside0.mk ((by rw [hg]; exact (below_size (by repeat (first | (with_reducible first | exact HB.out | apply below_alloc | apply pw_below_drewN | apply below_drew1) | exact HB.out))) : w.heap.size ≤ gb210)); clear HB; have HB := n0_; have BK210 := n1_; have GW210 := n2_; have GE210 := n3_; clear n0_ n1_ n2_ n3_; clear hb hbox hg; have hcz15_0 : w14.cell? ⟨gb210, 0, none⟩ = some (.string (⟨#[]⟩ : ByteArray)) := (blk_cell BK210.out 0).trans rfl; have hcz15_1 : w14.cell? ⟨gb210, 1, none⟩ = some (.slice none 0 0) := (blk_cell BK210.out 1).trans rfl; have hfz15_0 := blk_frozen BK210.out 0; have hfz15_1 := blk_frozen BK210.out 1) | (go_at_call 27; (with_reducible refine (truantref02_Word.calls k1 ((rd_T43 l0 x4_1).f0) true _ A5.out).mono ?_); rintro e w16 ⟨rfl, hb⟩; have n0_ := Aside0.mk (blk_below (g := gb210) (o := .cells #[.string ((rd_T43 l0 x4_1).f0), .slice A209_1 ((rd_T43 l0 x4_1).f1).length c209_1] 43 (0, 0)) (by (with_reducible repeat (first | refine blk_drewN ?_ _ | refine blk_drew ?_ | refine blk_alloc ?_ _)); refine blk_put (cs := #[.string ((rd_T43 l0 x4_1).f0), .slice none 0 0]) ?_ 1 _ rfl; (with_reducible repeat (first | refine blk_drewN ?_ _ | refine blk_drew ?_ | refine blk_alloc ?_ _)); refine blk_put (cs := #[.string (⟨#[]⟩ : ByteArray), .slice none 0 0]) ?_ 0 _ rfl; (with_reducible repeat (first | refine blk_drewN ?_ _ | refine blk_drew ?_ | refine blk_alloc ?_ _)); exact BK210.out) hb); have n1_ := Aside0.mk (below_step (by repeat (first | (with_reducible first | exact HB.out | apply below_alloc | apply pw_below_drewN | apply below_drew1 | refine below_set ?_ GE210.out) | exact HB.out)) hb); clear BK210; clear HB; have BK210 := n0_; have HB := n1_; clear n0_ n1_; (try clear hb); (try clear hb2); (try clear hk); (try clear hi); have hcz17_0 : w16.cell? ⟨gb210, 0, none⟩ = some (.string ((rd_T43 l0 x4_1).f0)) := (blk_cell BK210.out 0).trans rfl; have hcz17_1 : w16.cell? ⟨gb210, 1, none⟩ = some (.slice A209_1 ((rd_T43 l0 x4_1).f1).length c209_1) := (blk_cell BK210.out 1).trans rfl; have hfz17_0 := blk_frozen BK210.out 0; have hfz17_1 := blk_frozen BK210.out 1) | (go_at_call 13; (with_reducible refine (truantref03_Find.calls k1 _ _ l0 ((rd_T43 l0 x4_1).f0) t212 _ ?side1 ?side2 A7.out).mono ?_); (case side1 => repeat (first | exact (Kd.C_below HR0.out HB.out) | (with_reducible refine Kd.C_alloc ?_ _) | (with_reducible refine Kd.C_drewN ?_ _) | (with_reducible refine Kd.C_drew ?_))); (case side2 => exact HC0.out); rintro e w' ⟨rfl, ⟨nd, rfl⟩⟩; (try first | exact ⟨rfl, _, World.drewN_drewN _ _ _⟩ | exact ⟨rfl, _, Eq.trans (World.drewN_drewN _ _ _) (congrArg (World.drewN _) (Nat.add_assoc _ _ _))⟩))))
         go_ret2
         exact ⟨by first | rfl | (simp [errW_none, errW_some] <;> rfl) | (simp [*, errW_none, errW_some] <;> rfl), by repeat (first | (with_reducible first | exact HB.out | apply below_alloc | apply pw_below_drewN | apply below_drew1 | refine below_set ?_ GE210.out) | exact HB.out)⟩
        ·rw [if_neg c13] at H
         have c13b0 : decide (8 < (((rd_T43 l0 x4_1).f1).length : Int)) = false := decide_eq_false c13
         have c13b1 : decide (8 < ((rd_T43 l0 x4_1).f1).length) = false := decide_eq_false (by omega)
         clear c13
         have H' := Aside0.mk H
         clear H
         have p209 : 0 ≤ (x4_1 : Int) := of_decide_eq_true (by first | (with_reducible assumption) | assumption)
         have q209 : x4_1 < (l0.length : Int) := of_decide_eq_true (by first | (with_reducible assumption) | assumption)
         obtain ⟨ad209, A209_1, c209_1, e209, hx209_0, hx209_1, hl209_1, hi209_1⟩ := at_T43 HR0.out x4_1 p209 q209
         cases e209
         replace hx209_0 := (HB.out.cell (World.block_lt_of_cell? w _ hx209_0)).trans hx209_0
         replace hx209_1 := (HB.out.cell (World.block_lt_of_cell? w _ hx209_1)).trans hx209_1
         have HR209_1 := Aside0.mk hi209_1
         have HC209_1 := Aside0.mk hl209_1
         clear hi209_1 hl209_1
         replace p209 := eq_true p209
         replace q209 := eq_true q209
         go_wp2_with (first | ((with_reducible refine gate_dst (N := 5) rfl ?_); refine box_event ?hg (N := 5) ?hd (cs := #[.string (⟨#[]⟩ : ByteArray), .slice none 0 0]) (t := 43) ?hr ?_; (case hd => rfl); (case hg => rfl); (case hr => first | (go_simp; done) | (go_simp; rfl)); intro gb210 hg w18 hbox hb; have n0_ := Aside0.mk (below_step (by repeat (first | (with_reducible first | exact HB.out | apply below_alloc | apply pw_below_drewN | apply below_drew1) | exact HB.out)) hb); have n1_ := Aside0.mk (hbox); have n2_ := Aside0.mk ((by rw [hg]; exact (below_size (by repeat (first | (with_reducible first | exact HB.out | apply below_alloc | apply pw_below_drewN | apply below_drew1) | exact HB.out))) : w.heap.size ≤ gb210)); have n3_ := Aside0.mk ((by rw [hg]; exact (below_size (by repeat (first | (with_reducible first | exact HB.out | apply below_alloc | apply pw_below_drewN | apply below_drew1) | exact HB.out))) : w.heap.size ≤ gb210)); clear HB; have HB := n0_; have BK210 := n1_; have GW210 := n2_; have GE210 := n3_; clear n0_ n1_ n2_ n3_; clear hb hbox hg; have hcz19_0 : w18.cell? ⟨gb210, 0, none⟩ = some (.string (⟨#[]⟩ : ByteArray)) := (blk_cell BK210.out 0).trans rfl; have hcz19_1 : w18.cell? ⟨gb210, 1, none⟩ = some (.slice none 0 0) := (blk_cell BK210.out 1).trans rfl; have hfz19_0 := blk_frozen BK210.out 0; have hfz19_1 := blk_frozen BK210.out 1) | (go_at_call 27; (with_reducible refine (truantref02_Word.calls k1 ((rd_T43 l0 x4_1).f0) true _ A5.out).mono ?_); rintro e w20 ⟨rfl, hb⟩; have n0_ := Aside0.mk (blk_below (g := gb210) (o := .cells #[.string ((rd_T43 l0 x4_1).f0), .slice A209_1 ((rd_T43 l0 x4_1).f1).length c209_1] 43 (0, 0)) (by (with_reducible repeat (first | refine blk_drewN ?_ _ | refine blk_drew ?_ | refine blk_alloc ?_ _)); refine blk_put (cs := #[.string ((rd_T43 l0 x4_1).f0), .slice none 0 0]) ?_ 1 _ rfl; (with_reducible repeat (first | refine blk_drewN ?_ _ | refine blk_drew ?_ | refine blk_alloc ?_ _)); refine blk_put (cs := #[.string (⟨#[]⟩ : ByteArray), .slice none 0 0]) ?_ 0 _ rfl; (with_reducible repeat (first | refine blk_drewN ?_ _ | refine blk_drew ?_ | refine blk_alloc ?_ _)); exact BK210.out) hb); have n1_ := Aside0.mk (below_step (by repeat (first | (with_reducible first | exact HB.out | apply below_alloc | apply pw_below_drewN | apply below_drew1 | refine below_set ?_ GE210.out) | exact HB.out)) hb); clear BK210; clear HB; have BK210 := n0_; have HB := n1_; clear n0_ n1_; (try clear hb); (try clear hb2); (try clear hk); (try clear hi); have hcz21_0 : w20.cell? ⟨gb210, 0, none⟩ = some (.string ((rd_T43 l0 x4_1).f0)) := (blk_cell BK210.out 0).trans rfl; have hcz21_1 : w20.cell? ⟨gb210, 1, none⟩ = some (.slice A209_1 ((rd_T43 l0 x4_1).f1).length c209_1) := (blk_cell BK210.out 1).trans rfl; have hfz21_0 := blk_frozen BK210.out 0; have hfz21_1 := blk_frozen BK210.out 1) | (go_at_call 13; (with_reducible refine (truantref03_Find.calls k1 _ _ l0 ((rd_T43 l0 x4_1).f0) t212 _ ?side1 ?side2 A7.out).mono ?_); (case side1 => repeat (first | exact (Kd.C_below HR0.out HB.out) | (with_reducible refine Kd.C_alloc ?_ _) | (with_reducible refine Kd.C_drewN ?_ _) | (with_reducible refine Kd.C_drew ?_))); (case side2 => exact HC0.out); rintro e w' ⟨rfl, ⟨nd, rfl⟩⟩; (try first | exact ⟨rfl, _, World.drewN_drewN _ _ _⟩ | exact ⟨rfl, _, Eq.trans (World.drewN_drewN _ _ _) (congrArg (World.drewN _) (Nat.add_assoc _ _ _))⟩)))
         repeat (go_quiet (first | ((with_reducible refine gate_dst (N := 5) rfl ?_); refine box_event ?hg (N := 5) ?hd (cs := #[.string (⟨#[]⟩ : ByteArray), .slice none 0 0]) (t := 43) ?hr ?_; (case hd => rfl); (case hg => rfl); (case hr => first | (go_simp; done) | (go_simp; rfl)); intro gb210 hg w18 hbox hb; have n0_ := Aside0.mk (below_step (by repeat (first | (with_reducible first | exact HB.out | apply below_alloc | apply pw_below_drewN | apply below_drew1) | exact HB.out)) hb); have n1_ := Aside0.mk (hbox); have n2_ := Aside0.mk ((by rw [hg]; exact (below_size (by repeat (first | (with_reducible first | exact HB.out | apply below_alloc | apply pw_below_drewN | apply below_drew1) | exact HB.out))) : w.heap.size ≤ gb210)); have n3_ := Aside0.mk ((by rw [hg]; exact (below_size (by repeat (first | (with_reducible first | exact HB.out | apply below_alloc | apply pw_below_drewN | apply below_drew1) | exact HB.out))) : w.heap.size ≤ gb210)); clear HB; have HB := n0_; have BK210 := n1_; have GW210 := n2_; have GE210 := n3_; clear n0_ n1_ n2_ n3_; clear hb hbox hg; have hcz19_0 : w18.cell? ⟨gb210, 0, none⟩ = some (.string (⟨#[]⟩ : ByteArray)) := (blk_cell BK210.out 0).trans rfl; have hcz19_1 : w18.cell? ⟨gb210, 1, none⟩ = some (.slice none 0 0) := (blk_cell BK210.out 1).trans rfl; have hfz19_0 := blk_frozen BK210.out 0; have hfz19_1 := blk_frozen BK210.out 1) | (go_at_call 27; (with_reducible refine (truantref02_Word.calls k1 ((rd_T43 l0 x4_1).f0) true _ A5.out).mono ?_); rintro e w20 ⟨rfl, hb⟩; have n0_ := Aside0.mk (blk_below (g := gb210) (o := .cells #[.string ((rd_T43 l0 x4_1).f0), .slice A209_1 ((rd_T43 l0 x4_1).f1).length c209_1] 43 (0, 0)) (by (with_reducible repeat (first | refine blk_drewN ?_ _ | refine blk_drew ?_ | refine blk_alloc ?_ _)); refine blk_put (cs := #[.string ((rd_T43 l0 x4_1).f0), .slice none 0 0]) ?_ 1 _ rfl; (with_reducible repeat (first | refine blk_drewN ?_ _ | refine blk_drew ?_ | refine blk_alloc ?_ _)); refine blk_put (cs := #[.string (⟨#[]⟩ : ByteArray), .slice none 0 0]) ?_ 0 _ rfl; (with_reducible repeat (first | refine blk_drewN ?_ _ | refine blk_drew ?_ | refine blk_alloc ?_ _)); exact BK210.out) hb); have n1_ := Aside0.mk (below_step (by repeat (first | (with_reducible first | exact HB.out | apply below_alloc | apply pw_below_drewN | apply below_drew1 | refine below_set ?_ GE210.out) | exact HB.out)) hb); clear BK210; clear HB; have BK210 := n0_; have HB := n1_; clear n0_ n1_; (try clear hb); (try clear hb2); (try clear hk); (try clear hi); have hcz21_0 : w20.cell? ⟨gb210, 0, none⟩ = some (.string ((rd_T43 l0 x4_1).f0)) := (blk_cell BK210.out 0).trans rfl; have hcz21_1 : w20.cell? ⟨gb210, 1, none⟩ = some (.slice A209_1 ((rd_T43 l0 x4_1).f1).length c209_1) := (blk_cell BK210.out 1).trans rfl; have hfz21_0 := blk_frozen BK210.out 0; have hfz21_1 := blk_frozen BK210.out 1) | (go_at_call 13; (with_reducible refine (truantref03_Find.calls k1 _ _ l0 ((rd_T43 l0 x4_1).f0) t212 _ ?side1 ?side2 A7.out).mono ?_); (case side1 => repeat (first | exact (Kd.C_below HR0.out HB.out) | (with_reducible refine Kd.C_alloc ?_ _) | (with_reducible refine Kd.C_drewN ?_ _) | (with_reducible refine Kd.C_drew ?_))); (case side2 => exact HC0.out); rintro e w' ⟨rfl, ⟨nd, rfl⟩⟩; (try first | exact ⟨rfl, _, World.drewN_drewN _ _ _⟩ | exact ⟨rfl, _, Eq.trans (World.drewN_drewN _ _ _) (congrArg (World.drewN _) (Nat.add_assoc _ _ _))⟩))); try go_wp2_with (first | ((with_reducible refine gate_dst (N := 5) rfl ?_); refine box_event ?hg (N := 5) ?hd (cs := #[.string (⟨#[]⟩ : ByteArray), .slice none 0 0]) (t := 43) ?hr ?_; (case hd => rfl); (case hg => rfl); (case hr => first | (go_simp; done) | (go_simp; rfl)); intro gb210 hg w18 hbox hb; have n0_ := Aside0.mk (below_step (by repeat (first | (with_reducible first | exact HB.out | apply below_alloc | apply pw_below_drewN | apply below_drew1) | exact HB.out)) hb); have n1_ := Aside0.mk (hbox); have n2_ := Aside0.mk ((by rw [hg]; exact (below_size (by repeat (first | (with_reducible first | exact HB.out | apply below_alloc | apply pw_below_drewN | apply below_drew1) | exact HB.out))) : w.heap.size ≤ gb210)); have n3_ := Aside0.mk ((by rw [hg]; exact (below_size (by repeat (first | (with_reducible first | exact HB.out | apply below_alloc | apply pw_below_drewN | apply below_drew1) | exact HB.out))) : w.heap.size ≤ gb210)); clear HB; have HB := n0_; have BK210 := n1_; have GW210 := n2_; have GE210 := n3_; clear n0_ n1_ n2_ n3_; clear hb hbox hg; have hcz19_0 : w18.cell? ⟨gb210, 0, none⟩ = some (.string (⟨#[]⟩ : ByteArray)) := (blk_cell BK210.out 0).trans rfl; have hcz19_1 : w18.cell? ⟨gb210, 1, none⟩ = some (.slice none 0 0) := (blk_cell BK210.out 1).trans rfl; have hfz19_0 := blk_frozen BK210.out 0; have hfz19_1 := blk_frozen BK210.out 1) | (go_at_call 27; (with_reducible refine (truantref02_Word.calls k1 ((rd_T43 l0 x4_1).f0) true _ A5.out).mono ?_); rintro e w20 ⟨rfl, hb⟩; have n0_ := Aside0.mk (blk_below (g := gb210) (o := .cells #[.string ((rd_T43 l0 x4_1).f0), .slice A209_1 ((rd_T43 l0 x4_1).f1).length c209_1] 43 (0, 0)) (by (with_reducible repeat (first | refine blk_drewN ?_ _ | refine blk_drew ?_ | refine blk_alloc ?_ _)); refine blk_put (cs := #[.string ((rd_T43 l0 x4_1).f0), .slice none 0 0]) ?_ 1 _ rfl; (with_reducible repeat (first | refine blk_drewN ?_ _ | refine blk_drew ?_ | refine blk_alloc ?_ _)); refine blk_put (cs := #[.string (⟨#[]⟩ : ByteArray), .slice none 0 0]) ?_ 0 _ rfl; (with_reducible repeat (first | refine blk_drewN ?_ _ | refine blk_drew ?_ | refine blk_alloc ?_ _)); exact BK210.out) hb); have n1_ := Aside0.mk (below_step (by repeat (first | (with_reducible first | exact HB.out | apply below_alloc | apply pw_below_drewN | apply below_drew1 | refine below_set ?_ GE210.out) | exact HB.out)) hb); clear BK210; clear HB; have BK210 := n0_; have HB := n1_; clear n0_ n1_; (try clear hb); (try clear hb2); (try clear hk); (try clear hi); have hcz21_0 : w20.cell? ⟨gb210, 0, none⟩ = some (.string ((rd_T43 l0 x4_1).f0)) := (blk_cell BK210.out 0).trans rfl; have hcz21_1 : w20.cell? ⟨gb210, 1, none⟩ = some (.slice A209_1 ((rd_T43 l0 x4_1).f1).length c209_1) := (blk_cell BK210.out 1).trans rfl; have hfz21_0 := blk_frozen BK210.out 0; have hfz21_1 := blk_frozen BK210.out 1) | (go_at_call 13; (with_reducible refine (truantref03_Find.calls k1 _ _ l0 ((rd_T43 l0 x4_1).f0) t212 _ ?side1 ?side2 A7.out).mono ?_); (case side1 => repeat (first | exact (Kd.C_below HR0.out HB.out) | (with_reducible refine Kd.C_alloc ?_ _) | (with_reducible refine Kd.C_drewN ?_ _) | (with_reducible refine Kd.C_drew ?_))); (case side2 => exact HC0.out); rintro e w' ⟨rfl, ⟨nd, rfl⟩⟩; (try first | exact ⟨rfl, _, World.drewN_drewN _ _ _⟩ | exact ⟨rfl, _, Eq.trans (World.drewN_drewN _ _ _) (congrArg (World.drewN _) (Nat.add_assoc _ _ _))⟩))))
         go_loopg [6] k1 (fun kq v6 w' => ∃ (x6_2 : Int), v6 = .int .i64 x6_2 ∧ Aside0 (truantref03_Check.l1 kq l0 x4_1 x6_2 ((rd_T43 l0 x4_1).f0) ((rd_T43 l0 x4_1).f1) = some (r1, r2)) ∧ Aside0 (kq ≤ k1) ∧ Aside0 (w'.heap[gb210]? = some (.cells #[.string ((rd_T43 l0 x4_1).f0), (.slice A209_1 ((rd_T43 l0 x4_1).f1).length c209_1)] 43 (0, 0))) ∧ Aside0 (Below w.heap.size w w'))
         case atStart => exact ⟨(0), (by first | rfl | (simp; done) | (simp [*]; done)), H', ⟨Nat.le_refl _⟩, ⟨by (with_reducible repeat (first | refine blk_drewN ?_ _ | refine blk_drew ?_ | refine blk_alloc ?_ _)); exact BK210.out⟩, ⟨by repeat (first | (with_reducible first | exact HB.out | apply below_alloc | apply pw_below_drewN | apply below_drew1 | refine below_set ?_ GE210.out) | exact HB.out)⟩⟩
         case round =>
          clear H'
          try clear c1
          try clear c2
          try clear c2b0
          try clear c2b1
          try clear p2
          try clear q2
          try clear hx2
          try clear c3
          try clear c3b0
          try clear c4
          try clear c4b0
          try clear c6
          try clear c8
          try clear c8b0
          try clear c10
          try clear c13
          try clear c13b0
          try clear c13b1
          try clear c20
          try clear p20
          try clear q20
          try clear hx20
          try clear hcz10_0
          try clear hcz10_1
          try clear hcz12_0
          try clear hcz12_1
          try clear hcz15_0
          try clear hcz15_1
          try clear hcz17_0
          try clear hcz17_1
          try clear hcz19_0
          try clear hcz19_1
          try clear hcz21_0
          try clear hcz21_1
          try clear hfz10_0
          try clear hfz10_1
          try clear hfz12_0
          try clear hfz12_1
          try clear hfz15_0
          try clear hfz15_1
          try clear hfz17_0
          try clear hfz17_1
          try clear hfz19_0
          try clear hfz19_1
          try clear hfz21_0
          try clear hfz21_1
          try clear hx209_0
          try clear hx209_1
          try clear p2
          try clear p209
          try clear q209
          obtain ⟨x6_2, rfl, HA, HK2, BK210, HB⟩ := hrel
          cases gk with
          | zero => exact absurd HA.out (by simp [truantref03_Check.l1])
          | succ k2 =>
           have H := HA.out
           clear HA
           simp only [truantref03_Check.l1] at H
           by_cases c22 : x6_2 < (((rd_T43 l0 x4_1).f1).length : Int)
           ·rw [if_pos c22] at H
            have c22b0 : decide (x6_2 < (((rd_T43 l0 x4_1).f1).length : Int)) = true := decide_eq_true c22
            clear c22
            by_cases c23 : 0 ≤ x6_2
            ·rw [if_pos c23] at H
             have c23b0 : decide (0 ≤ x6_2) = true := decide_eq_true c23
             clear c23
             replace H := Option.bind_eq_some_iff.mp H
             obtain ⟨t214, A240, H⟩ := H
             replace H : (if t214 = true then (truantref03_Check.l2 k2 l0 x4_1 x6_2 0 ((rd_T43 l0 x4_1).f0) ((rd_T43 l0 x4_1).f1)) else (some (x4_1, 1))) = some (r1, r2) := H
             have A24 := Aside0.mk A240
             clear A240
             by_cases c25 : t214 = true
             ·subst c25
              have H1 : (truantref03_Check.l2 k2 l0 x4_1 x6_2 0 ((rd_T43 l0 x4_1).f0) ((rd_T43 l0 x4_1).f1)) = some (r1, r2) := by rw [if_pos rfl] at H; exact H
              clear H
              have H := H1
              clear H1
              have H' := Aside0.mk H
              clear H
              have hcz26_0 : wr.cell? ⟨gb210, 0, none⟩ = some (.string ((rd_T43 l0 x4_1).f0)) := (blk_cell BK210.out 0).trans rfl
              have hcz26_1 : wr.cell? ⟨gb210, 1, none⟩ = some (.slice A209_1 ((rd_T43 l0 x4_1).f1).length c209_1) := (blk_cell BK210.out 1).trans rfl
              have hfz26_0 := blk_frozen BK210.out 0
              have hfz26_1 := blk_frozen BK210.out 1
              have p213 : 0 ≤ (x6_2 : Int) := of_decide_eq_true (by first | (with_reducible assumption) | assumption)
              have q213 : x6_2 < (((rd_T43 l0 x4_1).f1).length : Int) := of_decide_eq_true (by first | (with_reducible assumption) | assumption)
              obtain ⟨ad213, e213, hx213_0, hx213_1⟩ := at_T48 HR209_1.out x6_2 p213 q213
              cases e213
              replace hx213_0 := (HB.out.cell (World.block_lt_of_cell? w _ hx213_0)).trans hx213_0
              replace hx213_1 := (HB.out.cell (World.block_lt_of_cell? w _ hx213_1)).trans hx213_1
              replace p213 := eq_true p213
              replace q213 := eq_true q213
              go_wp2_with (first | (go_at_call 27; (with_reducible refine (truantref02_Word.calls k2 ((rd_T48 ((rd_T43 l0 x4_1).f1) x6_2).f0) true _ A24.out).mono ?_); rintro e w27 ⟨rfl, hb⟩; have n0_ := Aside0.mk (blk_below (g := gb210) (o := .cells #[.string ((rd_T43 l0 x4_1).f0), .slice (some ad213) ((rd_T43 l0 x4_1).f1).length c209_1] 43 (0, 0)) (by (with_reducible repeat (first | refine blk_drewN ?_ _ | refine blk_drew ?_ | refine blk_alloc ?_ _)); exact BK210.out) hb); have n1_ := Aside0.mk (below_step (by repeat (first | (with_reducible first | exact HB.out | apply below_alloc | apply pw_below_drewN | apply below_drew1 | refine below_set ?_ GE210.out) | exact HB.out)) hb); clear BK210; clear HB; have BK210 := n0_; have HB := n1_; clear n0_ n1_; (try clear hb); (try clear hb2); (try clear hk); (try clear hi)))
              repeat (go_quiet (first | (go_at_call 27; (with_reducible refine (truantref02_Word.calls k2 ((rd_T48 ((rd_T43 l0 x4_1).f1) x6_2).f0) true _ A24.out).mono ?_); rintro e w27 ⟨rfl, hb⟩; have n0_ := Aside0.mk (blk_below (g := gb210) (o := .cells #[.string ((rd_T43 l0 x4_1).f0), .slice (some ad213) ((rd_T43 l0 x4_1).f1).length c209_1] 43 (0, 0)) (by (with_reducible repeat (first | refine blk_drewN ?_ _ | refine blk_drew ?_ | refine blk_alloc ?_ _)); exact BK210.out) hb); have n1_ := Aside0.mk (below_step (by repeat (first | (with_reducible first | exact HB.out | apply below_alloc | apply pw_below_drewN | apply below_drew1 | refine below_set ?_ GE210.out) | exact HB.out)) hb); clear BK210; clear HB; have BK210 := n0_; have HB := n1_; clear n0_ n1_; (try clear hb); (try clear hb2); (try clear hk); (try clear hi))); try go_wp2_with (first | (go_at_call 27; (with_reducible refine (truantref02_Word.calls k2 ((rd_T48 ((rd_T43 l0 x4_1).f1) x6_2).f0) true _ A24.out).mono ?_); rintro e w27 ⟨rfl, hb⟩; have n0_ := Aside0.mk (blk_below (g := gb210) (o := .cells #[.string ((rd_T43 l0 x4_1).f0), .slice (some ad213) ((rd_T43 l0 x4_1).f1).length c209_1] 43 (0, 0)) (by (with_reducible repeat (first | refine blk_drewN ?_ _ | refine blk_drew ?_ | refine blk_alloc ?_ _)); exact BK210.out) hb); have n1_ := Aside0.mk (below_step (by repeat (first | (with_reducible first | exact HB.out | apply below_alloc | apply pw_below_drewN | apply below_drew1 | refine below_set ?_ GE210.out) | exact HB.out)) hb); clear BK210; clear HB; have BK210 := n0_; have HB := n1_; clear n0_ n1_; (try clear hb); (try clear hb2); (try clear hk); (try clear hi))))
              go_loopg [7] k2 (fun kq v7 w' => ∃ (x7_3 : Int), v7 = .int .i64 x7_3 ∧ Aside0 (truantref03_Check.l2 kq l0 x4_1 x6_2 x7_3 ((rd_T43 l0 x4_1).f0) ((rd_T43 l0 x4_1).f1) = some (r1, r2)) ∧ Aside0 (kq ≤ k2) ∧ Aside0 (w'.heap[gb210]? = some (.cells #[.string ((rd_T43 l0 x4_1).f0), (.slice (some ad213) ((rd_T43 l0 x4_1).f1).length c209_1)] 43 (0, 0))) ∧ Aside0 (Below w.heap.size w w'))
              case atStart => exact ⟨(0), (by first | rfl | (simp; done) | (simp [*]; done)), H', ⟨Nat.le_refl _⟩, ⟨by (with_reducible repeat (first | refine blk_drewN ?_ _ | refine blk_drew ?_ | refine blk_alloc ?_ _)); exact BK210.out⟩, ⟨by repeat (first | (with_reducible first | exact HB.out | apply below_alloc | apply pw_below_drewN | apply below_drew1 | refine below_set ?_ GE210.out) | exact HB.out)⟩⟩
              case round =>
               clear H'
               try clear c1
               try clear c2
               try clear c2b0
               try clear c2b1
               try clear p2
               try clear q2
               try clear hx2
               try clear c3
               try clear c3b0
               try clear c4
               try clear c4b0
               try clear c6
               try clear c8
               try clear c8b0
               try clear c10
               try clear c13
               try clear c13b0
               try clear c13b1
               try clear c20
               try clear p20
               try clear q20
               try clear hx20
               try clear p21
               try clear q21
               try clear hx21
               try clear c22
               try clear c22b0
               try clear c23
               try clear c23b0
               try clear c25
               try clear hcz10_0
               try clear hcz10_1
               try clear hcz12_0
               try clear hcz12_1
               try clear hcz15_0
               try clear hcz15_1
               try clear hcz17_0
               try clear hcz17_1
               try clear hcz19_0
               try clear hcz19_1
               try clear hcz21_0
               try clear hcz21_1
               try clear hcz26_0
               try clear hcz26_1
               try clear hfz10_0
               try clear hfz10_1
               try clear hfz12_0
               try clear hfz12_1
               try clear hfz15_0
               try clear hfz15_1
               try clear hfz17_0
               try clear hfz17_1
               try clear hfz19_0
               try clear hfz19_1
               try clear hfz21_0
               try clear hfz21_1
               try clear hfz26_0
               try clear hfz26_1
               try clear hx209_0
               try clear hx209_1
               try clear hx213_0
               try clear hx213_1
               try clear p2
               try clear p20
               try clear p209
               try clear p213
               try clear q2
               try clear q20
               try clear q209
               try clear q213
               obtain ⟨x7_3, rfl, HA, HK3, BK210, HB⟩ := hrel
               cases gk with
               | zero => exact absurd HA.out (by simp [truantref03_Check.l2])
               | succ k3 =>
                have H := HA.out
                clear HA
                simp only [truantref03_Check.l2] at H
                by_cases c28 : x7_3 < x6_2
                ·rw [if_pos c28] at H
                 have c28b0 : decide (x7_3 < x6_2) = true := decide_eq_true c28
                 clear c28
                 by_cases c29 : 0 ≤ x7_3
                 ·rw [if_pos c29] at H
                  have c29b0 : decide (0 ≤ x7_3) = true := decide_eq_true c29
                  clear c29
                  by_cases c30 : x7_3 < (((rd_T43 l0 x4_1).f1).length : Int)
                  ·rw [if_pos c30] at H
                   have c30b0 : decide (x7_3 < (((rd_T43 l0 x4_1).f1).length : Int)) = true := decide_eq_true c30
                   clear c30
                   by_cases c31 : 0 ≤ x6_2
                   ·rw [if_pos c31] at H
                    have c31b0 : decide (0 ≤ x6_2) = true := decide_eq_true c31
                    clear c31
                    by_cases c32 : x6_2 < (((rd_T43 l0 x4_1).f1).length : Int)
                    ·rw [if_pos c32] at H
                     have c32b0 : decide (x6_2 < (((rd_T43 l0 x4_1).f1).length : Int)) = true := decide_eq_true c32
                     clear c32
                     by_cases c33 : ((rd_T48 ((rd_T43 l0 x4_1).f1) x7_3).f0).toList = ((rd_T48 ((rd_T43 l0 x4_1).f1) x6_2).f0).toList
                     ·rw [if_pos c33] at H
                      have c33b0 : (((rd_T48 ((rd_T43 l0 x4_1).f1) x7_3).f0).toList == ((rd_T48 ((rd_T43 l0 x4_1).f1) x6_2).f0).toList) = true := beq_iff_eq.mpr c33
                      have c33b1 : (((rd_T48 ((rd_T43 l0 x4_1).f1) x7_3).f0).toList != ((rd_T48 ((rd_T43 l0 x4_1).f1) x6_2).f0).toList) = false := bne_eq_false_iff_eq.mpr c33
                      clear c33
                      simp only [Option.some.injEq, Prod.mk.injEq] at H
                      obtain ⟨rfl, rfl⟩ := H
                      have hcz34_0 : wr.cell? ⟨gb210, 0, none⟩ = some (.string ((rd_T43 l0 x4_1).f0)) := (blk_cell BK210.out 0).trans rfl
                      have hcz34_1 : wr.cell? ⟨gb210, 1, none⟩ = some (.slice (some ad213) ((rd_T43 l0 x4_1).f1).length c209_1) := (blk_cell BK210.out 1).trans rfl
                      have hfz34_0 := blk_frozen BK210.out 0
                      have hfz34_1 := blk_frozen BK210.out 1
                      have p215 : 0 ≤ (x7_3 : Int) := of_decide_eq_true (by first | (with_reducible assumption) | assumption)
                      have q215 : x7_3 < (((rd_T43 l0 x4_1).f1).length : Int) := of_decide_eq_true (by first | (with_reducible assumption) | assumption)
                      obtain ⟨ad215, e215, hx215_0, hx215_1⟩ := at_T48 HR209_1.out x7_3 p215 q215
                      obtain rfl : ad213 = ad215 := (by injection e215)
                      replace hx215_0 := (HB.out.cell (World.block_lt_of_cell? w _ hx215_0)).trans hx215_0
                      replace hx215_1 := (HB.out.cell (World.block_lt_of_cell? w _ hx215_1)).trans hx215_1
                      replace p215 := eq_true p215
                      replace q215 := eq_true q215
                      have p216 : 0 ≤ (x6_2 : Int) := of_decide_eq_true (by first | (with_reducible assumption) | assumption)
                      have q216 : x6_2 < (((rd_T43 l0 x4_1).f1).length : Int) := of_decide_eq_true (by first | (with_reducible assumption) | assumption)
                      obtain ⟨ad216, e216, hx216_0, hx216_1⟩ := at_T48 HR209_1.out x6_2 p216 q216
                      obtain rfl : ad213 = ad216 := (by injection e216)
                      replace hx216_0 := (HB.out.cell (World.block_lt_of_cell? w _ hx216_0)).trans hx216_0
                      replace hx216_1 := (HB.out.cell (World.block_lt_of_cell? w _ hx216_1)).trans hx216_1
                      replace p216 := eq_true p216
                      replace q216 := eq_true q216
                      go_wp2
                      repeat (go_quiet (fail); try go_wp2)
                      go_ret2
                      exact ⟨by first | rfl | (simp [errW_none, errW_some] <;> rfl) | (simp [*, errW_none, errW_some] <;> rfl), by repeat (first | (with_reducible first | exact HB.out | apply below_alloc | apply pw_below_drewN | apply below_drew1 | refine below_set ?_ GE210.out) | exact HB.out)⟩
                     ·rw [if_neg c33] at H
                      have c33b0 : (((rd_T48 ((rd_T43 l0 x4_1).f1) x7_3).f0).toList == ((rd_T48 ((rd_T43 l0 x4_1).f1) x6_2).f0).toList) = false := beq_eq_false_iff_ne.mpr c33
                      have c33b1 : (((rd_T48 ((rd_T43 l0 x4_1).f1) x7_3).f0).toList != ((rd_T48 ((rd_T43 l0 x4_1).f1) x6_2).f0).toList) = true := bne_iff_ne.mpr c33
                      have H' := Aside0.mk H
                      clear H
                      have hcz35_0 : wr.cell? ⟨gb210, 0, none⟩ = some (.string ((rd_T43 l0 x4_1).f0)) := (blk_cell BK210.out 0).trans rfl
                      have hcz35_1 : wr.cell? ⟨gb210, 1, none⟩ = some (.slice (some ad213) ((rd_T43 l0 x4_1).f1).length c209_1) := (blk_cell BK210.out 1).trans rfl
                      have hfz35_0 := blk_frozen BK210.out 0
                      have hfz35_1 := blk_frozen BK210.out 1
                      have p215 : 0 ≤ (x7_3 : Int) := of_decide_eq_true (by first | (with_reducible assumption) | assumption)
                      have q215 : x7_3 < (((rd_T43 l0 x4_1).f1).length : Int) := of_decide_eq_true (by first | (with_reducible assumption) | assumption)
                      obtain ⟨ad215, e215, hx215_0, hx215_1⟩ := at_T48 HR209_1.out x7_3 p215 q215
                      obtain rfl : ad213 = ad215 := (by injection e215)
                      replace hx215_0 := (HB.out.cell (World.block_lt_of_cell? w _ hx215_0)).trans hx215_0
                      replace hx215_1 := (HB.out.cell (World.block_lt_of_cell? w _ hx215_1)).trans hx215_1
                      replace p215 := eq_true p215
                      replace q215 := eq_true q215
                      have p216 : 0 ≤ (x6_2 : Int) := of_decide_eq_true (by first | (with_reducible assumption) | assumption)
                      have q216 : x6_2 < (((rd_T43 l0 x4_1).f1).length : Int) := of_decide_eq_true (by first | (with_reducible assumption) | assumption)
                      obtain ⟨ad216, e216, hx216_0, hx216_1⟩ := at_T48 HR209_1.out x6_2 p216 q216
                      obtain rfl : ad213 = ad216 := (by injection e216)
                      replace hx216_0 := (HB.out.cell (World.block_lt_of_cell? w _ hx216_0)).trans hx216_0
                      replace hx216_1 := (HB.out.cell (World.block_lt_of_cell? w _ hx216_1)).trans hx216_1
                      replace p216 := eq_true p216
                      replace q216 := eq_true q216
                      go_wp2
                      repeat (go_quiet (fail); try go_wp2)
                      go_roundg k3
                      case measure => have := HK1.out; have := HK2.out; have := HK3.out; omega
                      case rel => exact ⟨(wrap64 (x7_3 + 1)), (by first | rfl | (simp; done) | (simp [*]; done)), H', ⟨by have := HK1.out; have := HK2.out; have := HK3.out; omega⟩, ⟨by (with_reducible repeat (first | refine blk_drewN ?_ _ | refine blk_drew ?_ | refine blk_alloc ?_ _)); exact BK210.out⟩, ⟨by repeat (first | (with_reducible first | exact HB.out | apply below_alloc | apply pw_below_drewN | apply below_drew1 | refine below_set ?_ GE210.out) | exact HB.out)⟩⟩
                    ·rw [if_neg c32] at H
                     exact absurd H (by simp)
                   ·rw [if_neg c31] at H
                    exact absurd H (by simp)
                  ·rw [if_neg c30] at H
                   exact absurd H (by simp)
                 ·rw [if_neg c29] at H
                  exact absurd H (by simp)
                ·rw [if_neg c28] at H
                 have c28b0 : decide (x7_3 < x6_2) = false := decide_eq_false c28
                 clear c28
                 by_cases c36 : 0 ≤ x6_2
                 ·rw [if_pos c36] at H
                  have c36b0 : decide (0 ≤ x6_2) = true := decide_eq_true c36
                  clear c36
                  by_cases c37 : x6_2 < (((rd_T43 l0 x4_1).f1).length : Int)
                  ·rw [if_pos c37] at H
                   have c37b0 : decide (x6_2 < (((rd_T43 l0 x4_1).f1).length : Int)) = true := decide_eq_true c37
                   clear c37
                   replace H := Option.bind_eq_some_iff.mp H
                   obtain ⟨t218, A380, H⟩ := H
                   replace H : (if t218 = true then (truantref03_Check.l1 k3 l0 x4_1 (wrap64 (x6_2 + 1)) ((rd_T43 l0 x4_1).f0) ((rd_T43 l0 x4_1).f1)) else (some (x4_1, 7))) = some (r1, r2) := H
                   have A38 := Aside0.mk A380
                   clear A380
                   by_cases c39 : t218 = true
                   ·subst c39
                    have H1 : (truantref03_Check.l1 k3 l0 x4_1 (wrap64 (x6_2 + 1)) ((rd_T43 l0 x4_1).f0) ((rd_T43 l0 x4_1).f1)) = some (r1, r2) := by rw [if_pos rfl] at H; exact H
                    clear H
                    have H := H1
                    clear H1
                    have H' := Aside0.mk H
                    clear H
                    have hcz40_0 : wr.cell? ⟨gb210, 0, none⟩ = some (.string ((rd_T43 l0 x4_1).f0)) := (blk_cell BK210.out 0).trans rfl
                    have hcz40_1 : wr.cell? ⟨gb210, 1, none⟩ = some (.slice (some ad213) ((rd_T43 l0 x4_1).f1).length c209_1) := (blk_cell BK210.out 1).trans rfl
                    have hfz40_0 := blk_frozen BK210.out 0
                    have hfz40_1 := blk_frozen BK210.out 1
                    have p217 : 0 ≤ (x6_2 : Int) := of_decide_eq_true (by first | (with_reducible assumption) | assumption)
                    have q217 : x6_2 < (((rd_T43 l0 x4_1).f1).length : Int) := of_decide_eq_true (by first | (with_reducible assumption) | assumption)
                    obtain ⟨ad217, e217, hx217_0, hx217_1⟩ := at_T48 HR209_1.out x6_2 p217 q217
                    obtain rfl : ad213 = ad217 := (by injection e217)
                    replace hx217_0 := (HB.out.cell (World.block_lt_of_cell? w _ hx217_0)).trans hx217_0
                    replace hx217_1 := (HB.out.cell (World.block_lt_of_cell? w _ hx217_1)).trans hx217_1
                    replace p217 := eq_true p217
                    replace q217 := eq_true q217
                    go_wp2_with (first | (go_at_call 16; (with_reducible refine (truantref03_Is.calls k3 _ _ l0 ((rd_T48 ((rd_T43 l0 x4_1).f1) x6_2).f1) true _ ?side1 ?side2 A38.out).mono ?_); (case side1 => repeat (first | exact (Kd.C_below HR0.out HB.out) | (with_reducible refine Kd.C_alloc ?_ _) | (with_reducible refine Kd.C_drewN ?_ _) | (with_reducible refine Kd.C_drew ?_))); (case side2 => exact HC0.out); rintro e w' ⟨rfl, ⟨nd, rfl⟩⟩; (try first | exact ⟨rfl, _, World.drewN_drewN _ _ _⟩ | exact ⟨rfl, _, Eq.trans (World.drewN_drewN _ _ _) (congrArg (World.drewN _) (Nat.add_assoc _ _ _))⟩)))
                    repeat (go_quiet (first | (go_at_call 16; (with_reducible refine (truantref03_Is.calls k3 _ _ l0 ((rd_T48 ((rd_T43 l0 x4_1).f1) x6_2).f1) true _ ?side1 ?side2 A38.out).mono ?_); (case side1 => repeat (first | exact (Kd.C_below HR0.out HB.out) | (with_reducible refine Kd.C_alloc ?_ _) | (with_reducible refine Kd.C_drewN ?_ _) | (with_reducible refine Kd.C_drew ?_))); (case side2 => exact HC0.out); rintro e w' ⟨rfl, ⟨nd, rfl⟩⟩; (try first | exact ⟨rfl, _, World.drewN_drewN _ _ _⟩ | exact ⟨rfl, _, Eq.trans (World.drewN_drewN _ _ _) (congrArg (World.drewN _) (Nat.add_assoc _ _ _))⟩))); try go_wp2_with (first | (go_at_call 16; (with_reducible refine (truantref03_Is.calls k3 _ _ l0 ((rd_T48 ((rd_T43 l0 x4_1).f1) x6_2).f1) true _ ?side1 ?side2 A38.out).mono ?_); (case side1 => repeat (first | exact (Kd.C_below HR0.out HB.out) | (with_reducible refine Kd.C_alloc ?_ _) | (with_reducible refine Kd.C_drewN ?_ _) | (with_reducible refine Kd.C_drew ?_))); (case side2 => exact HC0.out); rintro e w' ⟨rfl, ⟨nd, rfl⟩⟩; (try first | exact ⟨rfl, _, World.drewN_drewN _ _ _⟩ | exact ⟨rfl, _, Eq.trans (World.drewN_drewN _ _ _) (congrArg (World.drewN _) (Nat.add_assoc _ _ _))⟩))))
                    go_roundg k3
                    case measure => have := HK1.out; have := HK2.out; have := HK3.out; omega
                    case rel => exact ⟨(wrap64 (x6_2 + 1)), (by first | rfl | (simp; done) | (simp [*]; done)), H', ⟨by have := HK1.out; have := HK2.out; have := HK3.out; omega⟩, ⟨by (with_reducible repeat (first | refine blk_drewN ?_ _ | refine blk_drew ?_ | refine blk_alloc ?_ _)); exact BK210.out⟩, ⟨by repeat (first | (with_reducible first | exact HB.out | apply below_alloc | apply pw_below_drewN | apply below_drew1 | refine below_set ?_ GE210.out) | exact HB.out)⟩⟩
                   ·replace c39 := Bool.eq_false_iff.mpr c39
                    subst c39
                    have H1 : (some (x4_1, 7)) = some (r1, r2) := by rw [if_neg (show ¬ (false = true) by decide)] at H; exact H
                    clear H
                    have H := H1
                    clear H1
                    simp only [Option.some.injEq, Prod.mk.injEq] at H
                    obtain ⟨rfl, rfl⟩ := H
                    have hcz41_0 : wr.cell? ⟨gb210, 0, none⟩ = some (.string ((rd_T43 l0 x4_1).f0)) := (blk_cell BK210.out 0).trans rfl
                    have hcz41_1 : wr.cell? ⟨gb210, 1, none⟩ = some (.slice (some ad213) ((rd_T43 l0 x4_1).f1).length c209_1) := (blk_cell BK210.out 1).trans rfl
                    have hfz41_0 := blk_frozen BK210.out 0
                    have hfz41_1 := blk_frozen BK210.out 1
                    have p217 : 0 ≤ (x6_2 : Int) := of_decide_eq_true (by first | (with_reducible assumption) | assumption)
                    have q217 : x6_2 < (((rd_T43 l0 x4_1).f1).length : Int) := of_decide_eq_true (by first | (with_reducible assumption) | assumption)
                    obtain ⟨ad217, e217, hx217_0, hx217_1⟩ := at_T48 HR209_1.out x6_2 p217 q217
                    obtain rfl : ad213 = ad217 := (by injection e217)
                    replace hx217_0 := (HB.out.cell (World.block_lt_of_cell? w _ hx217_0)).trans hx217_0
                    replace hx217_1 := (HB.out.cell (World.block_lt_of_cell? w _ hx217_1)).trans hx217_1
                    replace p217 := eq_true p217
                    replace q217 := eq_true q217
                    go_wp2_with (first | (go_at_call 16; (with_reducible refine (truantref03_Is.calls k3 _ _ l0 ((rd_T48 ((rd_T43 l0 x4_1).f1) x6_2).f1) false _ ?side1 ?side2 A38.out).mono ?_); (case side1 => repeat (first | exact (Kd.C_below HR0.out HB.out) | (with_reducible refine Kd.C_alloc ?_ _) | (with_reducible refine Kd.C_drewN ?_ _) | (with_reducible refine Kd.C_drew ?_))); (case side2 => exact HC0.out); rintro e w' ⟨rfl, ⟨nd, rfl⟩⟩; (try first | exact ⟨rfl, _, World.drewN_drewN _ _ _⟩ | exact ⟨rfl, _, Eq.trans (World.drewN_drewN _ _ _) (congrArg (World.drewN _) (Nat.add_assoc _ _ _))⟩)))
                    repeat (go_quiet (first | (go_at_call 16; (with_reducible refine (truantref03_Is.calls k3 _ _ l0 ((rd_T48 ((rd_T43 l0 x4_1).f1) x6_2).f1) false _ ?side1 ?side2 A38.out).mono ?_); (case side1 => repeat (first | exact (Kd.C_below HR0.out HB.out) | (with_reducible refine Kd.C_alloc ?_ _) | (with_reducible refine Kd.C_drewN ?_ _) | (with_reducible refine Kd.C_drew ?_))); (case side2 => exact HC0.out); rintro e w' ⟨rfl, ⟨nd, rfl⟩⟩; (try first | exact ⟨rfl, _, World.drewN_drewN _ _ _⟩ | exact ⟨rfl, _, Eq.trans (World.drewN_drewN _ _ _) (congrArg (World.drewN _) (Nat.add_assoc _ _ _))⟩))); try go_wp2_with (first | (go_at_call 16; (with_reducible refine (truantref03_Is.calls k3 _ _ l0 ((rd_T48 ((rd_T43 l0 x4_1).f1) x6_2).f1) false _ ?side1 ?side2 A38.out).mono ?_); (case side1 => repeat (first | exact (Kd.C_below HR0.out HB.out) | (with_reducible refine Kd.C_alloc ?_ _) | (with_reducible refine Kd.C_drewN ?_ _) | (with_reducible refine Kd.C_drew ?_))); (case side2 => exact HC0.out); rintro e w' ⟨rfl, ⟨nd, rfl⟩⟩; (try first | exact ⟨rfl, _, World.drewN_drewN _ _ _⟩ | exact ⟨rfl, _, Eq.trans (World.drewN_drewN _ _ _) (congrArg (World.drewN _) (Nat.add_assoc _ _ _))⟩))))
                    go_ret2
                    exact ⟨by first | rfl | (simp [errW_none, errW_some] <;> rfl) | (simp [*, errW_none, errW_some] <;> rfl), by repeat (first | (with_reducible first | exact HB.out | apply below_alloc | apply pw_below_drewN | apply below_drew1 | refine below_set ?_ GE210.out) | exact HB.out)⟩
                  ·rw [if_neg c37] at H
                   exact absurd H (by simp)
                 ·rw [if_neg c36] at H
                  exact absurd H (by simp)
             ·replace c25 := Bool.eq_false_iff.mpr c25
              subst c25
              have H1 : (some (x4_1, 1)) = some (r1, r2) := by rw [if_neg (show ¬ (false = true) by decide)] at H; exact H
              clear H
              have H := H1
              clear H1
              simp only [Option.some.injEq, Prod.mk.injEq] at H
              obtain ⟨rfl, rfl⟩ := H
              have hcz42_0 : wr.cell? ⟨gb210, 0, none⟩ = some (.string ((rd_T43 l0 x4_1).f0)) := (blk_cell BK210.out 0).trans rfl
              have hcz42_1 : wr.cell? ⟨gb210, 1, none⟩ = some (.slice A209_1 ((rd_T43 l0 x4_1).f1).length c209_1) := (blk_cell BK210.out 1).trans rfl
              have hfz42_0 := blk_frozen BK210.out 0
              have hfz42_1 := blk_frozen BK210.out 1
              have p213 : 0 ≤ (x6_2 : Int) := of_decide_eq_true (by first | (with_reducible assumption) | assumption)
              have q213 : x6_2 < (((rd_T43 l0 x4_1).f1).length : Int) := of_decide_eq_true (by first | (with_reducible assumption) | assumption)
              obtain ⟨ad213, e213, hx213_0, hx213_1⟩ := at_T48 HR209_1.out x6_2 p213 q213
              cases e213
              replace hx213_0 := (HB.out.cell (World.block_lt_of_cell? w _ hx213_0)).trans hx213_0
              replace hx213_1 := (HB.out.cell (World.block_lt_of_cell? w _ hx213_1)).trans hx213_1
              replace p213 := eq_true p213
              replace q213 := eq_true q213
              go_wp2_with (first | (go_at_call 27; (with_reducible refine (truantref02_Word.calls k2 ((rd_T48 ((rd_T43 l0 x4_1).f1) x6_2).f0) false _ A24.out).mono ?_); rintro e w43 ⟨rfl, hb⟩; have n0_ := Aside0.mk (blk_below (g := gb210) (o := .cells #[.string ((rd_T43 l0 x4_1).f0), .slice (some ad213) ((rd_T43 l0 x4_1).f1).length c209_1] 43 (0, 0)) (by (with_reducible repeat (first | refine blk_drewN ?_ _ | refine blk_drew ?_ | refine blk_alloc ?_ _)); exact BK210.out) hb); have n1_ := Aside0.mk (below_step (by repeat (first | (with_reducible first | exact HB.out | apply below_alloc | apply pw_below_drewN | apply below_drew1 | refine below_set ?_ GE210.out) | exact HB.out)) hb); clear BK210; clear HB; have BK210 := n0_; have HB := n1_; clear n0_ n1_; (try clear hb); (try clear hb2); (try clear hk); (try clear hi)))
              repeat (go_quiet (first | (go_at_call 27; (with_reducible refine (truantref02_Word.calls k2 ((rd_T48 ((rd_T43 l0 x4_1).f1) x6_2).f0) false _ A24.out).mono ?_); rintro e w43 ⟨rfl, hb⟩; have n0_ := Aside0.mk (blk_below (g := gb210) (o := .cells #[.string ((rd_T43 l0 x4_1).f0), .slice (some ad213) ((rd_T43 l0 x4_1).f1).length c209_1] 43 (0, 0)) (by (with_reducible repeat (first | refine blk_drewN ?_ _ | refine blk_drew ?_ | refine blk_alloc ?_ _)); exact BK210.out) hb); have n1_ := Aside0.mk (below_step (by repeat (first | (with_reducible first | exact HB.out | apply below_alloc | apply pw_below_drewN | apply below_drew1 | refine below_set ?_ GE210.out) | exact HB.out)) hb); clear BK210; clear HB; have BK210 := n0_; have HB := n1_; clear n0_ n1_; (try clear hb); (try clear hb2); (try clear hk); (try clear hi))); try go_wp2_with (first | (go_at_call 27; (with_reducible refine (truantref02_Word.calls k2 ((rd_T48 ((rd_T43 l0 x4_1).f1) x6_2).f0) false _ A24.out).mono ?_); rintro e w43 ⟨rfl, hb⟩; have n0_ := Aside0.mk (blk_below (g := gb210) (o := .cells #[.string ((rd_T43 l0 x4_1).f0), .slice (some ad213) ((rd_T43 l0 x4_1).f1).length c209_1] 43 (0, 0)) (by (with_reducible repeat (first | refine blk_drewN ?_ _ | refine blk_drew ?_ | refine blk_alloc ?_ _)); exact BK210.out) hb); have n1_ := Aside0.mk (below_step (by repeat (first | (with_reducible first | exact HB.out | apply below_alloc | apply pw_below_drewN | apply below_drew1 | refine below_set ?_ GE210.out) | exact HB.out)) hb); clear BK210; clear HB; have BK210 := n0_; have HB := n1_; clear n0_ n1_; (try clear hb); (try clear hb2); (try clear hk); (try clear hi))))
              go_ret2
              exact ⟨by first | rfl | (simp [errW_none, errW_some] <;> rfl) | (simp [*, errW_none, errW_some] <;> rfl), by repeat (first | (with_reducible first | exact HB.out | apply below_alloc | apply pw_below_drewN | apply below_drew1 | refine below_set ?_ GE210.out) | exact HB.out)⟩
            ·rw [if_neg c23] at H
             exact absurd H (by simp)
           ·rw [if_neg c22] at H
            have c22b0 : decide (x6_2 < (((rd_T43 l0 x4_1).f1).length : Int)) = false := decide_eq_false c22
            clear c22
            have H' := Aside0.mk H
            clear H
            have hcz44_0 : wr.cell? ⟨gb210, 0, none⟩ = some (.string ((rd_T43 l0 x4_1).f0)) := (blk_cell BK210.out 0).trans rfl
            have hcz44_1 : wr.cell? ⟨gb210, 1, none⟩ = some (.slice A209_1 ((rd_T43 l0 x4_1).f1).length c209_1) := (blk_cell BK210.out 1).trans rfl
            have hfz44_0 := blk_frozen BK210.out 0
            have hfz44_1 := blk_frozen BK210.out 1
            go_wp2
            repeat (go_quiet (fail); try go_wp2)
            go_roundg k2
            case measure => have := HK1.out; have := HK2.out; omega
            case rel => exact ⟨(wrap64 (x4_1 + 1)), (by first | rfl | (simp; done) | (simp [*]; done)), H', ⟨by have := HK1.out; have := HK2.out; omega⟩, ⟨by repeat (first | (with_reducible first | exact HB.out | apply below_alloc | apply pw_below_drewN | apply below_drew1 | refine below_set ?_ GE210.out) | exact HB.out)⟩⟩
      ·replace c6 := Bool.eq_false_iff.mpr c6
       subst c6
       have H1 : (some (x4_1, 1)) = some (r1, r2) := by rw [if_neg (show ¬ (false = true) by decide)] at H; exact H
       clear H
       have H := H1
       clear H1
       simp only [Option.some.injEq, Prod.mk.injEq] at H
       obtain ⟨rfl, rfl⟩ := H
       have p209 : 0 ≤ (x4_1 : Int) := of_decide_eq_true (by first | (with_reducible assumption) | assumption)
       have q209 : x4_1 < (l0.length : Int) := of_decide_eq_true (by first | (with_reducible assumption) | assumption)
       obtain ⟨ad209, A209_1, c209_1, e209, hx209_0, hx209_1, hl209_1, hi209_1⟩ := at_T43 HR0.out x4_1 p209 q209
       cases e209
       replace hx209_0 := (HB.out.cell (World.block_lt_of_cell? w _ hx209_0)).trans hx209_0
       replace hx209_1 := (HB.out.cell (World.block_lt_of_cell? w _ hx209_1)).trans hx209_1
       have HR209_1 := Aside0.mk hi209_1
       have HC209_1 := Aside0.mk hl209_1
       clear hi209_1 hl209_1
       replace p209 := eq_true p209
       replace q209 := eq_true q209
       go_wp2_with (first | ((with_reducible refine gate_dst (N := 5) rfl ?_); refine box_event ?hg (N := 5) ?hd (cs := #[.string (⟨#[]⟩ : ByteArray), .slice none 0 0]) (t := 43) ?hr ?_; (case hd => rfl); (case hg => rfl); (case hr => first | (go_simp; done) | (go_simp; rfl)); intro gb210 hg w45 hbox hb; have n0_ := Aside0.mk (below_step (by repeat (first | (with_reducible first | exact HB.out | apply below_alloc | apply pw_below_drewN | apply below_drew1) | exact HB.out)) hb); have n1_ := Aside0.mk (hbox); have n2_ := Aside0.mk ((by rw [hg]; exact (below_size (by repeat (first | (with_reducible first | exact HB.out | apply below_alloc | apply pw_below_drewN | apply below_drew1) | exact HB.out))) : w.heap.size ≤ gb210)); have n3_ := Aside0.mk ((by rw [hg]; exact (below_size (by repeat (first | (with_reducible first | exact HB.out | apply below_alloc | apply pw_below_drewN | apply below_drew1) | exact HB.out))) : w.heap.size ≤ gb210)); clear HB; have HB := n0_; have BK210 := n1_; have GW210 := n2_; have GE210 := n3_; clear n0_ n1_ n2_ n3_; clear hb hbox hg; have hcz46_0 : w45.cell? ⟨gb210, 0, none⟩ = some (.string (⟨#[]⟩ : ByteArray)) := (blk_cell BK210.out 0).trans rfl; have hcz46_1 : w45.cell? ⟨gb210, 1, none⟩ = some (.slice none 0 0) := (blk_cell BK210.out 1).trans rfl; have hfz46_0 := blk_frozen BK210.out 0; have hfz46_1 := blk_frozen BK210.out 1) | (go_at_call 27; (with_reducible refine (truantref02_Word.calls k1 ((rd_T43 l0 x4_1).f0) false _ A5.out).mono ?_); rintro e w47 ⟨rfl, hb⟩; have n0_ := Aside0.mk (blk_below (g := gb210) (o := .cells #[.string ((rd_T43 l0 x4_1).f0), .slice A209_1 ((rd_T43 l0 x4_1).f1).length c209_1] 43 (0, 0)) (by (with_reducible repeat (first | refine blk_drewN ?_ _ | refine blk_drew ?_ | refine blk_alloc ?_ _)); refine blk_put (cs := #[.string ((rd_T43 l0 x4_1).f0), .slice none 0 0]) ?_ 1 _ rfl; (with_reducible repeat (first | refine blk_drewN ?_ _ | refine blk_drew ?_ | refine blk_alloc ?_ _)); refine blk_put (cs := #[.string (⟨#[]⟩ : ByteArray), .slice none 0 0]) ?_ 0 _ rfl; (with_reducible repeat (first | refine blk_drewN ?_ _ | refine blk_drew ?_ | refine blk_alloc ?_ _)); exact BK210.out) hb); have n1_ := Aside0.mk (below_step (by repeat (first | (with_reducible first | exact HB.out | apply below_alloc | apply pw_below_drewN | apply below_drew1 | refine below_set ?_ GE210.out) | exact HB.out)) hb); clear BK210; clear HB; have BK210 := n0_; have HB := n1_; clear n0_ n1_; (try clear hb); (try clear hb2); (try clear hk); (try clear hi)))
       repeat (go_quiet (first | ((with_reducible refine gate_dst (N := 5) rfl ?_); refine box_event ?hg (N := 5) ?hd (cs := #[.string (⟨#[]⟩ : ByteArray), .slice none 0 0]) (t := 43) ?hr ?_; (case hd => rfl); (case hg => rfl); (case hr => first | (go_simp; done) | (go_simp; rfl)); intro gb210 hg w45 hbox hb; have n0_ := Aside0.mk (below_step (by repeat (first | (with_reducible first | exact HB.out | apply below_alloc | apply pw_below_drewN | apply below_drew1) | exact HB.out)) hb); have n1_ := Aside0.mk (hbox); have n2_ := Aside0.mk ((by rw [hg]; exact (below_size (by repeat (first | (with_reducible first | exact HB.out | apply below_alloc | apply pw_below_drewN | apply below_drew1) | exact HB.out))) : w.heap.size ≤ gb210)); have n3_ := Aside0.mk ((by rw [hg]; exact (below_size (by repeat (first | (with_reducible first | exact HB.out | apply below_alloc | apply pw_below_drewN | apply below_drew1) | exact HB.out))) : w.heap.size ≤ gb210)); clear HB; have HB := n0_; have BK210 := n1_; have GW210 := n2_; have GE210 := n3_; clear n0_ n1_ n2_ n3_; clear hb hbox hg; have hcz46_0 : w45.cell? ⟨gb210, 0, none⟩ = some (.string (⟨#[]⟩ : ByteArray)) := (blk_cell BK210.out 0).trans rfl; have hcz46_1 : w45.cell? ⟨gb210, 1, none⟩ = some (.slice none 0 0) := (blk_cell BK210.out 1).trans rfl; have hfz46_0 := blk_frozen BK210.out 0; have hfz46_1 := blk_frozen BK210.out 1) | (go_at_call 27; (with_reducible refine (truantref02_Word.calls k1 ((rd_T43 l0 x4_1).f0) false _ A5.out).mono ?_); rintro e w47 ⟨rfl, hb⟩; have n0_ := Aside0.mk (blk_below (g := gb210) (o := .cells #[.string ((rd_T43 l0 x4_1).f0), .slice A209_1 ((rd_T43 l0 x4_1).f1).length c209_1] 43 (0, 0)) (by (with_reducible repeat (first | refine blk_drewN ?_ _ | refine blk_drew ?_ | refine blk_alloc ?_ _)); refine blk_put (cs := #[.string ((rd_T43 l0 x4_1).f0), .slice none 0 0]) ?_ 1 _ rfl; (with_reducible repeat (first | refine blk_drewN ?_ _ | refine blk_drew ?_ | refine blk_alloc ?_ _)); refine blk_put (cs := #[.string (⟨#[]⟩ : ByteArray), .slice none 0 0]) ?_ 0 _ rfl; (with_reducible repeat (first | refine blk_drewN ?_ _ | refine blk_drew ?_ | refine blk_alloc ?_ _)); exact BK210.out) hb); have n1_ := Aside0.mk (below_step (by repeat (first | (with_reducible first | exact HB.out | apply below_alloc | apply pw_below_drewN | apply below_drew1 | refine below_set ?_ GE210.out) | exact HB.out)) hb); clear BK210; clear HB; have BK210 := n0_; have HB := n1_; clear n0_ n1_; (try clear hb); (try clear hb2); (try clear hk); (try clear hi))); try go_wp2_with (first | ((with_reducible refine gate_dst (N := 5) rfl ?_); refine box_event ?hg (N := 5) ?hd (cs := #[.string (⟨#[]⟩ : ByteArray), .slice none 0 0]) (t := 43) ?hr ?_; (case hd => rfl); (case hg => rfl); (case hr => first | (go_simp; done) | (go_simp; rfl)); intro gb210 hg w45 hbox hb; have n0_ := Aside0.mk (below_step (by repeat (first | (with_reducible first | exact HB.out | apply below_alloc | apply pw_below_drewN | apply below_drew1) | exact HB.out)) hb); have n1_ := Aside0.mk (hbox); have n2_ := Aside0.mk ((by rw [hg]; exact (below_size (by repeat (first | (with_reducible first | exact HB.out | apply below_alloc | apply pw_below_drewN | apply below_drew1) | exact HB.out))) : w.heap.size ≤ gb210)); have n3_ := Aside0.mk ((by rw [hg]; exact (below_size (by repeat (first | (with_reducible first | exact HB.out | apply below_alloc | apply pw_below_drewN | apply below_drew1) | exact HB.out))) : w.heap.size ≤ gb210)); clear HB; have HB := n0_; have BK210 := n1_; have GW210 := n2_; have GE210 := n3_; clear n0_ n1_ n2_ n3_; clear hb hbox hg; have hcz46_0 : w45.cell? ⟨gb210, 0, none⟩ = some (.string (⟨#[]⟩ : ByteArray)) := (blk_cell BK210.out 0).trans rfl; have hcz46_1 : w45.cell? ⟨gb210, 1, none⟩ = some (.slice none 0 0) := (blk_cell BK210.out 1).trans rfl; have hfz46_0 := blk_frozen BK210.out 0; have hfz46_1 := blk_frozen BK210.out 1) | (go_at_call 27; (with_reducible refine (truantref02_Word.calls k1 ((rd_T43 l0 x4_1).f0) false _ A5.out).mono ?_); rintro e w47 ⟨rfl, hb⟩; have n0_ := Aside0.mk (blk_below (g := gb210) (o := .cells #[.string ((rd_T43 l0 x4_1).f0), .slice A209_1 ((rd_T43 l0 x4_1).f1).length c209_1] 43 (0, 0)) (by (with_reducible repeat (first | refine blk_drewN ?_ _ | refine blk_drew ?_ | refine blk_alloc ?_ _)); refine blk_put (cs := #[.string ((rd_T43 l0 x4_1).f0), .slice none 0 0]) ?_ 1 _ rfl; (with_reducible repeat (first | refine blk_drewN ?_ _ | refine blk_drew ?_ | refine blk_alloc ?_ _)); refine blk_put (cs := #[.string (⟨#[]⟩ : ByteArray), .slice none 0 0]) ?_ 0 _ rfl; (with_reducible repeat (first | refine blk_drewN ?_ _ | refine blk_drew ?_ | refine blk_alloc ?_ _)); exact BK210.out) hb); have n1_ := Aside0.mk (below_step (by repeat (first | (with_reducible first | exact HB.out | apply below_alloc | apply pw_below_drewN | apply below_drew1 | refine below_set ?_ GE210.out) | exact HB.out)) hb); clear BK210; clear HB; have BK210 := n0_; have HB := n1_; clear n0_ n1_; (try clear hb); (try clear hb2); (try clear hk); (try clear hi))))
       go_ret2
       exact ⟨by first | rfl | (simp [errW_none, errW_some] <;> rfl) | (simp [*, errW_none, errW_some] <;> rfl), by repeat (first | (with_reducible first | exact HB.out | apply below_alloc | apply pw_below_drewN | apply below_drew1 | refine below_set ?_ GE210.out) | exact HB.out)⟩
     ·rw [if_neg c4] at H
      exact absurd H (by simp)
    ·rw [if_neg c3] at H
     have c3b0 : decide (x4_1 < (l0.length : Int)) = false := decide_eq_false c3
     clear c3
     simp only [Option.some.injEq, Prod.mk.injEq] at H
     obtain ⟨rfl, rfl⟩ := H
     go_wp2
     repeat (go_quiet (fail); try go_wp2)
     go_ret2
     exact ⟨by first | rfl | (simp [errW_none, errW_some] <;> rfl) | (simp [*, errW_none, errW_some] <;> rfl), by repeat (first | (with_reducible first | exact HB.out | apply below_alloc | apply pw_below_drewN | apply below_drew1) | exact HB.out)⟩

end Go.Proofs.Ythpglaekdadehaa.Q

/- Whether structs can be: what kind.Check and the reference's come to. -/

namespace Go.Proofs.Ythpglaekdadehaa.Q
open Go.RowKit Go.Proofs.YthpglaekdadehaaW.PrintWords Go.Proofs.YthpglaekdadehaaW.PrintLast Go.Proofs.YthpglaekdadehaaW.PrintMore
set_option linter.unusedVariables false
set_option linter.unusedSimpArgs false
def isS (l : List S43) (t : ByteArray) : Bool := t.toList == [105, 110, 116] || (t.toList == [98, 111, 111, 108] || (starB t && decide (0 ≤ findR (nameIs (rest t)) l)))
theorem is_ev (l : List S43) (t : ByteArray) : Ev (fun k => kind_Is.f k l t) (isS l t) := by
 have jt : Ev (fun k => kind_Is.j0 k l t true) true := Ev.step (f := fun _ => some true) (fun k => rfl) (Ev.now _)
 unfold isS
 by_cases h1 : t.toList = [105, 110, 116]
 ·exact Ev.pos h1 (Ev.eq jt (by rw [h1]; rfl))
 ·refine Ev.neg h1 ?_
  rw [beq_eq_false_iff_ne.mpr h1, Bool.false_or]
  by_cases h2 : t.toList = [98, 111, 111, 108]
  ·rw [beq_iff_eq.mpr h2]; exact Ev.eq jt (by simp)
  ·rw [beq_eq_false_iff_ne.mpr h2, Bool.false_or]
   refine Ev.step (f := fun k => (strings_CutPrefix.f t (⟨#[42]⟩ : ByteArray)).bind fun bt118 => (if bt118.2 = true then ((kind_Find.f l bt118.1).bind fun bt120 => (some bt120.2)) else (some false))) (fun k => rfl) ?_
   rw [cutPrefix_one]
   cases hs : starB t with
   | false => exact Ev.now _
   | true =>
    refine Ev.eq (Ev.now _) ?_
    unfold placeOf
    by_cases h : findR (nameIs (rest t)) l < 0
    ·rw [if_pos rfl, if_pos h]
     simp; omega
    ·rw [if_pos rfl, if_neg h]
     simp; omega
theorem ris_ev (l : List S43) (t : ByteArray) (hm : l.length ≤ 9223372036854775807) : Ev (fun k => truantref03_Is.f k l t) (isS l t) := by
 unfold isS
 by_cases h1 : t.toList = [105, 110, 116]
 ·exact Ev.pos h1 (Ev.eq (Ev.now _) (by rw [h1]; rfl))
 ·refine Ev.neg h1 ?_
  rw [beq_eq_false_iff_ne.mpr h1, Bool.false_or]
  by_cases h2 : t.toList = [98, 111, 111, 108]
  ·refine Ev.pos h2 ?_
   rw [beq_iff_eq.mpr h2]; exact Ev.eq (Ev.now _) (by simp)
  ·refine Ev.neg h2 ?_
   rw [beq_eq_false_iff_ne.mpr h2, Bool.false_or]
   unfold starB
   by_cases h3 : 0 < t.size
   ·refine Ev.pos (by omega) (Ev.pos (by omega) ?_)
    by_cases h4 : bt t 0 = 42
    ·refine Ev.pos h4 (Ev.pos (by omega) (Ev.eq (Ev.bind (rfind_ev l (rest t) hm) (Ev.now _)) ?_))
     simp [h3, h4]
    ·refine Ev.neg h4 (Ev.eq (Ev.now _) ?_)
     rw [beq_eq_false_iff_ne.mpr h4]; simp
   ·refine Ev.neg (by omega) (Ev.eq (Ev.now _) ?_)
    simp [h3]
def fieldS (l : List S43) (ahead : List S48) (a b : ByteArray) : Int := if wordB a = true then (if 0 ≤ findR (fnameIs a) ahead then 6 else if isS l b = true then 0 else 7) else 1
theorem field_ev (l : List S43) (ahead : List S48) (a b : ByteArray) (ha : a.size ≤ 9223372036854775807) : Ev (fun k => kind_field.f k l ahead a b) (fieldS l ahead a b) := by
 refine Ev.bind (isWord_ev a ha) ?_
 unfold fieldS
 cases wordB a with
 | false => exact Ev.neg (by decide) (Ev.now _)
 | true =>
  refine Ev.pos rfl ?_
  rw [if_pos rfl]
  by_cases h : 0 ≤ findR (fnameIs a) ahead
  ·rw [if_pos h]; exact Ev.pos h (Ev.now _)
  ·rw [if_neg h]
   refine Ev.neg h (Ev.bind (is_ev l b) ?_)
   cases isS l b with
   | true => exact Ev.pos rfl (Ev.now _)
   | false => exact Ev.neg (by decide) (Ev.now _)
def fieldsD (l : List S43) (fs : List S48) : Nat → Nat → Int
 | 0, _ => 0
 | d + 1, j => if fieldS l (fs.take j) (fs.getD j z48).f0 (fs.getD j z48).f1 = 0 then fieldsD l fs d (j + 1) else fieldS l (fs.take j) (fs.getD j z48).f0 (fs.getD j z48).f1
def oneS (l : List S43) (i : Nat) : Int :=
 if wordB (l.getD i z43).f0 = true then (if findR (nameIs (l.getD i z43).f0) l < (i : Int) then 6 else if (l.getD i z43).f1.length > 8 then 4 else fieldsD l (l.getD i z43).f1 (l.getD i z43).f1.length 0) else 1
def checkD (l : List S43) : Nat → Nat → Int × Int
 | 0, _ => (0, 0)
 | d + 1, i => if oneS l i = 0 then checkD l d (i + 1) else ((i : Int), oneS l i)
def checkS (l : List S43) : Int × Int := if l.length > 12 then (0, 4) else checkD l l.length 0
/-- The sizes that came in. -/
structure Sz (l : List S43) : Prop where
 len : l.length ≤ 4398046511104
 fields : ∀ j : Nat, j < l.length → (l.getD j z43).f1.length ≤ 4398046511104
 names : ∀ j : Nat, j < l.length → (l.getD j z43).f0.size ≤ 140737488351232
 fnames : ∀ j q : Nat, j < l.length → q < (l.getD j z43).f1.length → ((l.getD j z43).f1.getD q z48).f0.size ≤ 140737488351232
 types : ∀ j q : Nat, j < l.length → q < (l.getD j z43).f1.length → ((l.getD j z43).f1.getD q z48).f1.size ≤ 140737488351232
theorem one_ev (l : List S43) (hl : Sz l) (i : Nat) (hi : i < l.length) : Ev (fun k => kind_one.f k l (i : Int)) (oneS l i) := by
 obtain ⟨x, hx⟩ : ∃ x, x = l.getD i z43 := ⟨_, rfl⟩
 have rx : rd_T43 l (i : Int) = x := by rw [hx]; rfl
 have hn := hl.names i hi
 have hf := hl.fields i hi
 have hfn := fun q => hl.fnames i q hi
 rw [← hx] at hn hf hfn
 refine Ev.pos (by omega) (Ev.pos (by omega) ?_)
 rw [rx]
 refine Ev.bind (isWord_ev x.f0 (by omega)) ?_
 unfold oneS
 rw [← hx]
 cases wordB x.f0 with
 | false => exact Ev.neg (by decide) (Ev.now _)
 | true =>
  refine Ev.pos rfl (Ev.one (a := kind_Find.f l x.f0) (b := placeOf (findR (nameIs x.f0) l)) rfl ?_)
  rw [if_pos rfl]
  have hp : 0 ≤ findR (nameIs x.f0) l ∧ (placeOf (findR (nameIs x.f0) l)).1 = findR (nameIs x.f0) l := by
   have hlt : l.findIdx (nameIs x.f0) < l.length := List.findIdx_lt_length_of_exists ⟨l[i], List.getElem_mem hi, by rw [← getD_at l z43 hi, ← hx]; unfold nameIs; simp⟩
   have h0 : 0 ≤ findR (nameIs x.f0) l := by unfold findR; rw [if_pos hlt]; omega
   exact ⟨h0, by unfold placeOf; rw [if_neg (by omega)]⟩
  rw [hp.2]
  by_cases h1 : findR (nameIs x.f0) l < (i : Int)
  ·rw [if_pos h1]; exact Ev.pos h1 (Ev.now _)
  ·rw [if_neg h1]
   refine Ev.neg h1 ?_
   by_cases h2 : x.f1.length > 8
   ·rw [if_pos h2]; exact Ev.pos (by omega) (Ev.now _)
   ·rw [if_neg h2]
    refine Ev.neg (by omega) ?_
    have key : ∀ (d j : Nat), j ≤ x.f1.length → x.f1.length - j = d → Ev (fun k => kind_one.l0 k l x.f1 (x.f1.length : Int) (j : Int) x.f0 x.f1) (fieldsD l x.f1 d j) := by
     intro d
     induction d with
     | zero => exact fun j h0 hd => Ev.step (fun k => rfl) (Ev.neg (by omega) (Ev.now _))
     | succ d ih =>
      intro j h0 hd
      refine Ev.step (fun k => rfl) (Ev.pos (by omega) (Ev.pos (by omega) (Ev.pos (by omega) (Ev.pos (by omega) ?_))))
      have rf : rd_T48 x.f1 (j : Int) = x.f1.getD j z48 := rfl
      rw [rf, Int.toNat_natCast]
      refine Ev.bind (field_ev l _ _ _ (by have := hfn j (by omega); omega)) ?_
      unfold fieldsD
      by_cases h3 : fieldS l (x.f1.take j) (x.f1.getD j z48).f0 (x.f1.getD j z48).f1 = 0
      ·rw [if_pos h3, wrap_succ (by omega) (by omega)]
       exact Ev.pos h3 (ih (j + 1) (by omega) (by omega))
      ·rw [if_neg h3]
       exact Ev.neg h3 (Ev.now _)
    exact key x.f1.length 0 (by omega) (by omega)
theorem check_ev (l : List S43) (hl : Sz l) : Ev (fun k => kind_Check.f k l) (checkS l) := by
 unfold checkS
 by_cases h : l.length > 12
 ·rw [if_pos h]; exact Ev.pos (by omega) (Ev.now _)
 ·rw [if_neg h]
  refine Ev.neg (by omega) ?_
  have key : ∀ (d i : Nat), i ≤ l.length → l.length - i = d → Ev (fun k => kind_Check.l0 k l (l.length : Int) (i : Int)) (checkD l d i) := by
   intro d
   induction d with
   | zero => exact fun i h0 hd => Ev.step (fun k => rfl) (Ev.neg (by omega) (Ev.now _))
   | succ d ih =>
    intro i h0 hd
    refine Ev.step (fun k => rfl) (Ev.pos (by omega) (Ev.bind (one_ev l hl i (by omega)) ?_))
    unfold checkD
    by_cases h3 : oneS l i = 0
    ·rw [if_pos h3, wrap_succ (by omega) (by omega)]
     exact Ev.pos h3 (ih (i + 1) (by omega) (by omega))
    ·rw [if_neg h3]
     exact Ev.neg h3 (Ev.now _)
  exact key l.length 0 (by omega) (by omega)
theorem findR_take_iff {α : Type} {p : α → Bool} {l : List α} {z : α} {k : Nat} (hk : k ≤ l.length) : 0 ≤ findR p (l.take k) ↔ ∃ j : Nat, j < k ∧ p (l.getD j z) = true := by
 unfold findR
 have hl : (l.take k).length = k := by rw [List.length_take]; omega
 constructor
 ·intro h
  split at h
  ·rename_i hlt
   have := List.findIdx_getElem (w := hlt)
   rw [List.getElem_take] at this
   exact ⟨(l.take k).findIdx p, by omega, by rw [getD_at l z (by omega)]; exact this⟩
  ·omega
 ·rintro ⟨j, hj, hp⟩
  have hlt : (l.take k).findIdx p < (l.take k).length := List.findIdx_lt_length_of_exists ⟨(l.take k)[j]'(by omega), List.getElem_mem _, by rw [List.getElem_take, ← getD_at l z (by omega)]; exact hp⟩
  rw [if_pos hlt]; omega
theorem rcheck_ev (l : List S43) (hl : Sz l) : Ev (fun k => truantref03_Check.f k l) (checkS l) := by
 unfold checkS
 have hll := hl.len
 by_cases h : l.length > 12
 ·rw [if_pos h]; exact Ev.pos (by omega) (Ev.now _)
 ·rw [if_neg h]
  refine Ev.neg (by omega) ?_
  have key : ∀ (d i : Nat), i ≤ l.length → l.length - i = d → Ev (fun k => truantref03_Check.l0 k l (i : Int)) (checkD l d i) := by
   intro d
   induction d with
   | zero => exact fun i h0 hd => Ev.step (fun k => rfl) (Ev.neg (by omega) (Ev.now _))
   | succ d ih =>
    intro i h0 hd
    obtain ⟨x, hx⟩ : ∃ x, x = l.getD i z43 := ⟨_, rfl⟩
    have rx : rd_T43 l (i : Int) = x := by rw [hx]; rfl
    have hf := hl.fields i (by omega)
    rw [← hx] at hf
    refine Ev.step (fun k => rfl) (Ev.pos (by omega) (Ev.pos (by omega) ?_))
    rw [rx]
    refine Ev.bind (rword_ev x.f0) ?_
    unfold checkD oneS
    rw [← hx]
    cases wordB x.f0 with
    | false => exact Ev.neg (by decide) (Ev.now _)
    | true =>
     refine Ev.pos rfl (Ev.bind (rfind_ev l x.f0 (by omega)) ?_)
     rw [if_pos rfl]
     by_cases h1 : findR (nameIs x.f0) l < (i : Int)
     ·rw [if_pos h1]; exact Ev.pos h1 (Ev.now _)
     ·rw [if_neg h1]
      refine Ev.neg h1 ?_
      by_cases h2 : x.f1.length > 8
      ·rw [if_pos h2]; exact Ev.pos (by omega) (Ev.now _)
      ·rw [if_neg h2]
       refine Ev.neg (by omega) ?_
       have hnext := ih (i + 1) (by omega) (by omega)
       have fk : ∀ (d2 j : Nat), j ≤ x.f1.length → x.f1.length - j = d2 → Ev (fun k => truantref03_Check.l1 k l (i : Int) (j : Int) x.f0 x.f1) (if fieldsD l x.f1 d2 j = 0 then checkD l d (i + 1) else ((i : Int), fieldsD l x.f1 d2 j)) := by
        intro d2
        induction d2 with
        | zero =>
         intro j hj hd2
         refine Ev.step (fun k => rfl) (Ev.neg (by omega) ?_)
         rw [wrap_succ (by omega) (by omega)]
         exact hnext
        | succ d2 ih2 =>
         intro j hj hd2
         have rf : rd_T48 x.f1 (j : Int) = x.f1.getD j z48 := rfl
         refine Ev.step (fun k => rfl) (Ev.pos (by omega) (Ev.pos (by omega) ?_))
         rw [rf]
         refine Ev.bind (rword_ev _) ?_
         unfold fieldsD fieldS
         cases wordB (x.f1.getD j z48).f0 with
         | false => exact Ev.neg (by decide) (Ev.eq (Ev.now _) (by simp))
         | true =>
          refine Ev.pos rfl ?_
          rw [if_pos rfl]
          have ek : ∀ (d3 m : Nat), m ≤ j → j - m = d3 → (∀ q : Nat, q < m → fnameIs (x.f1.getD j z48).f0 (x.f1.getD q z48) = false) → Ev (fun k => truantref03_Check.l2 k l (i : Int) (j : Int) (m : Int) x.f0 x.f1)
            (if (if 0 ≤ findR (fnameIs (x.f1.getD j z48).f0) (x.f1.take j) then (6 : Int) else if isS l (x.f1.getD j z48).f1 = true then 0 else 7) = 0 then (if fieldsD l x.f1 d2 (j + 1) = 0 then checkD l d (i + 1) else ((i : Int), fieldsD l x.f1 d2 (j + 1))) else ((i : Int), (if 0 ≤ findR (fnameIs (x.f1.getD j z48).f0) (x.f1.take j) then (6 : Int) else if isS l (x.f1.getD j z48).f1 = true then 0 else 7))) := by
           intro d3
           induction d3 with
           | zero =>
            intro m hm hd3 hall
            have hno : ¬ 0 ≤ findR (fnameIs (x.f1.getD j z48).f0) (x.f1.take j) := fun hh => by
             obtain ⟨q, hq, hp⟩ := (findR_take_iff (z := z48) (by omega)).mp hh
             rw [hall q (by omega)] at hp; cases hp
            rw [if_neg hno]
            refine Ev.step (fun k => rfl) (Ev.neg (by omega) (Ev.pos (by omega) (Ev.pos (by omega) ?_)))
            rw [rf]
            refine Ev.bind (ris_ev l _ (by omega)) ?_
            cases isS l (x.f1.getD j z48).f1 with
            | true =>
             refine Ev.pos rfl ?_
             rw [wrap_succ (by omega) (by omega)]
             exact ih2 (j + 1) (by omega) (by omega)
            | false => exact Ev.neg (by decide) (Ev.now _)
           | succ d3 ih3 =>
            intro m hm hd3 hall
            have rm : rd_T48 x.f1 (m : Int) = x.f1.getD m z48 := rfl
            refine Ev.step (fun k => rfl) (Ev.pos (by omega) (Ev.pos (by omega) (Ev.pos (by omega) (Ev.pos (by omega) (Ev.pos (by omega) ?_)))))
            rw [rf, rm]
            by_cases he : fnameIs (x.f1.getD j z48).f0 (x.f1.getD m z48) = true
            ·have hyes : 0 ≤ findR (fnameIs (x.f1.getD j z48).f0) (x.f1.take j) := (findR_take_iff (z := z48) (by omega)).mpr ⟨m, by omega, he⟩
             rw [if_pos hyes]
             exact Ev.pos (beq_iff_eq.mp he) (Ev.now _)
            ·refine Ev.neg (fun q => he (beq_iff_eq.mpr q)) ?_
             rw [wrap_succ (by omega) (by omega)]
             exact ih3 (m + 1) (by omega) (by omega) (all_succ (P := fun q => fnameIs (x.f1.getD j z48).f0 (x.f1.getD q z48) = false) hall (by simpa using he))
          have e0 := ek j 0 (by omega) (by omega) (fun q hq => absurd hq (by omega))
          refine Ev.eq e0 ?_
          generalize (if 0 ≤ findR (fnameIs (x.f1.getD j z48).f0) (x.f1.take j) then (6 : Int) else if isS l (x.f1.getD j z48).f1 = true then 0 else 7) = F
          by_cases hF : F = 0
          ·rw [if_pos hF, if_pos hF]
          ·rw [if_neg hF, if_neg hF, if_neg hF]
       exact fk x.f1.length 0 (by omega) (by omega)
  exact key l.length 0 (by omega) (by omega)
end Go.Proofs.Ythpglaekdadehaa.Q

/- Layer 3, kind: the anchor, the sizes. -/
-- USES_WF

namespace Go.Proofs.Ythpglaekdadehaa.Q
open Go.RowKit Go.Proofs.YthpglaekdadehaaW.PrintWords Go.Proofs.YthpglaekdadehaaW.PrintLast Go.Proofs.YthpglaekdadehaaW.PrintMore
set_option linter.unusedVariables false
set_option linter.unusedSimpArgs false
theorem kindAwake_ev : Ev (fun k => truantlaw03_awake.f k) true := Ev.of truantlaw03_awake.mono (k := 60) (by kernel_rfl)
theorem kindGreat_ev (l : List S43) (hm : l.length ≤ 9223372036854775807) (hf : ∀ j : Nat, j < l.length → (l.getD j z43).f1.length ≤ 9223372036854775807) :
  ∃ b, Ev (fun k => truantlaw03_great.f k l) b ∧ (b = false → l.length ≤ 16 ∧ ∀ j : Nat, j < l.length → (l.getD j z43).f0.size ≤ 100 ∧ (l.getD j z43).f1.length ≤ 12 ∧ ∀ q : Nat, q < (l.getD j z43).f1.length → ((l.getD j z43).f1.getD q z48).f0.size ≤ 100 ∧ ((l.getD j z43).f1.getD q z48).f1.size ≤ 100) := by
 by_cases hl : l.length ≤ 16
 case neg => exact ⟨true, Ev.pos (by omega) (Ev.now _), fun h => by cases h⟩
 have key : ∀ (d i : Nat), i ≤ l.length → l.length - i = d → ∃ b, Ev (fun k => truantlaw03_great.l0 k l (i : Int)) b ∧ (b = false → ∀ j : Nat, i ≤ j → j < l.length → (l.getD j z43).f0.size ≤ 100 ∧ (l.getD j z43).f1.length ≤ 12 ∧ ∀ q : Nat, q < (l.getD j z43).f1.length → ((l.getD j z43).f1.getD q z48).f0.size ≤ 100 ∧ ((l.getD j z43).f1.getD q z48).f1.size ≤ 100) := by
  intro d
  induction d with
  | zero =>
   intro i h0 hd
   exact ⟨false, Ev.step (fun k => rfl) (Ev.neg (by omega) (Ev.now _)), fun _ j hj hj2 => absurd hj2 (by omega)⟩
  | succ d ih =>
   intro i h0 hd
   obtain ⟨x, hx⟩ : ∃ x, x = l.getD i z43 := ⟨_, rfl⟩
   have rx : rd_T43 l (i : Int) = x := by rw [hx]; rfl
   have hfx := hf i (by omega)
   rw [← hx] at hfx
   have jt : Ev (fun k => truantlaw03_great.j1 k l (i : Int) true) true := Ev.step (f := fun _ => some true) (fun k => rfl) (Ev.now _)
   by_cases h1 : x.f0.size ≤ 100
   case neg =>
    refine ⟨true, Ev.step (fun k => rfl) (Ev.pos (by omega) (Ev.pos (by omega) ?_)), fun h => by cases h⟩
    rw [rx]
    exact Ev.pos (by omega) jt
   by_cases h2 : x.f1.length ≤ 12
   case neg =>
    refine ⟨true, Ev.step (fun k => rfl) (Ev.pos (by omega) (Ev.pos (by omega) ?_)), fun h => by cases h⟩
    rw [rx]
    refine Ev.neg (by omega) ?_
    rw [decide_eq_true (by omega)]
    exact jt
   obtain ⟨b, hb, hall⟩ := ih (i + 1) (by omega) (by omega)
   have inner : ∀ (d2 q : Nat), q ≤ x.f1.length → x.f1.length - q = d2 → ∃ b', Ev (fun k => truantlaw03_great.l1 k l (i : Int) (q : Int)) b' ∧ (b' = false → b = false ∧ ∀ m : Nat, q ≤ m → m < x.f1.length → (x.f1.getD m z48).f0.size ≤ 100 ∧ (x.f1.getD m z48).f1.size ≤ 100) := by
    intro d2
    induction d2 with
    | zero =>
     intro q hq hd2
     refine ⟨b, Ev.step (fun k => rfl) (Ev.pos (by omega) (Ev.pos (by omega) ?_)), fun h => ⟨h, fun m hm1 hm2 => absurd hm2 (by omega)⟩⟩
     rw [rx]
     refine Ev.neg (by omega) ?_
     rw [wrap_succ (by omega) (by omega)]
     exact hb
    | succ d2 ih2 =>
     intro q hq hd2
     obtain ⟨b', hb', hall'⟩ := ih2 (q + 1) (by omega) (by omega)
     have rf : rd_T48 x.f1 (q : Int) = x.f1.getD q z48 := rfl
     by_cases h3 : (x.f1.getD q z48).f0.size ≤ 100 ∧ (x.f1.getD q z48).f1.size ≤ 100
     ·refine ⟨b', Ev.step (fun k => rfl) (Ev.pos (by omega) (Ev.pos (by omega) ?_)), fun h => ⟨(hall' h).1, fun m hm1 hm2 => ?_⟩⟩
      ·rw [rx]
       refine Ev.pos (by omega) (Ev.pos (by omega) ?_)
       rw [rf]
       refine Ev.neg (by omega) (Ev.neg (by omega) ?_)
       rw [wrap_succ (by omega) (by omega)]
       exact hb'
      ·by_cases e : m = q
       ·subst e; exact h3
       ·exact (hall' h).2 m (by omega) hm2
     ·refine ⟨true, Ev.step (fun k => rfl) (Ev.pos (by omega) (Ev.pos (by omega) ?_)), fun h => by cases h⟩
      rw [rx]
      refine Ev.pos (by omega) (Ev.pos (by omega) ?_)
      rw [rf]
      by_cases h4 : (x.f1.getD q z48).f0.size ≤ 100
      ·exact Ev.neg (by omega) (Ev.pos (by omega) (Ev.now _))
      ·exact Ev.pos (by omega) (Ev.now _)
   obtain ⟨b', hb', hall'⟩ := inner x.f1.length 0 (by omega) (by omega)
   refine ⟨b', Ev.step (fun k => rfl) (Ev.pos (by omega) (Ev.pos (by omega) ?_)), fun h j hj hj2 => ?_⟩
   ·rw [rx]
    refine Ev.neg (by omega) ?_
    rw [decide_eq_false (by omega)]
    exact Ev.step (f := fun k => truantlaw03_great.l1 k l (i : Int) 0) (fun k => rfl) hb'
   ·by_cases e : j = i
    ·subst e
     rw [← hx]
     exact ⟨h1, h2, fun q hq => (hall' h).2 q (by omega) hq⟩
    ·exact hall (hall' h).1 j (by omega) hj2
 obtain ⟨b, hb, hall⟩ := key l.length 0 (by omega) (by omega)
 exact ⟨b, Ev.neg (by omega) hb, fun h => ⟨hl, fun j hj => hall h j (by omega) hj⟩⟩
theorem getD_wf {l : List S43} (h : ∀ x ∈ l, WF43 x) {j : Nat} (hj : j < l.length) : WF43 (l.getD j z43) := by
 rw [getD_at l _ hj]; exact h _ (List.getElem_mem hj)
theorem getF_wf {l : List S48} (h : ∀ x ∈ l, WF48 x) {j : Nat} (hj : j < l.length) : WF48 (l.getD j z48) := by
 rw [getD_at l _ hj]; exact h _ (List.getElem_mem hj)
theorem word_ne {s : ByteArray} (h : wordB s = true) : ¬ s.toList = [] := by
 intro e
 have := tl_len s
 rw [e] at this
 unfold wordB nameB at h
 simp at h this
 have := h.1.1.1
 omega
theorem elem_none {t : ByteArray} : (elemS t).1.toList = [] ↔ ¬ (elemS t).2 = true := by
 unfold elemS
 by_cases h : ptrB t = true
 ·rw [if_pos h]
  simp only [not_true_eq_false, iff_false]
  unfold ptrB at h
  rw [Bool.and_eq_true] at h
  exact word_ne h.2
 ·rw [if_neg h]
  simp only [Bool.false_eq_true, not_false_eq_true, iff_true]
  rw [ByteArray.toList_eq]
end Go.Proofs.Ythpglaekdadehaa.Q

/- Layer 3, kind: what a check that is passed tells; who is in the answer of Reach. -/

namespace Go.Proofs.Ythpglaekdadehaa.Q
open Go.RowKit Go.Proofs.YthpglaekdadehaaW.PrintWords Go.Proofs.YthpglaekdadehaaW.PrintLast Go.Proofs.YthpglaekdadehaaW.PrintMore
set_option linter.unusedVariables false
set_option linter.unusedSimpArgs false
theorem checkD_ok {l : List S43} : ∀ {d i : Nat}, (checkD l d i).2 = 0 → ∀ j : Nat, i ≤ j → j < i + d → oneS l j = 0
 | 0, i, _, j, h1, h2 => absurd h2 (by omega)
 | d + 1, i, h, j, h1, h2 => by
  unfold checkD at h
  by_cases h0 : oneS l i = 0
  ·rw [if_pos h0] at h
   by_cases e : j = i
   ·subst e; exact h0
   ·exact checkD_ok h j (by omega) (by omega)
  ·rw [if_neg h0] at h
   exact absurd h h0
theorem check_ok {l : List S43} (h : (checkS l).2 = 0) : ∀ j : Nat, j < l.length → oneS l j = 0 := by
 unfold checkS at h
 split at h
 ·simp at h
 ·exact fun j hj => checkD_ok h j (by omega) (by omega)
theorem fieldsD_ok {l : List S43} {fs : List S48} : ∀ {d i : Nat}, fieldsD l fs d i = 0 → ∀ j : Nat, i ≤ j → j < i + d → fieldS l (fs.take j) (fs.getD j z48).f0 (fs.getD j z48).f1 = 0
 | 0, i, _, j, h1, h2 => absurd h2 (by omega)
 | d + 1, i, h, j, h1, h2 => by
  unfold fieldsD at h
  by_cases h0 : fieldS l (fs.take i) (fs.getD i z48).f0 (fs.getD i z48).f1 = 0
  ·rw [if_pos h0] at h
   by_cases e : j = i
   ·subst e; exact h0
   ·exact fieldsD_ok h j (by omega) (by omega)
  ·rw [if_neg h0] at h
   exact absurd h h0
theorem one_ok {l : List S43} {i : Nat} (h : oneS l i = 0) : wordB (l.getD i z43).f0 = true ∧ (i : Int) ≤ findR (nameIs (l.getD i z43).f0) l ∧ ∀ j : Nat, j < (l.getD i z43).f1.length → isS l ((l.getD i z43).f1.getD j z48).f1 = true := by
 unfold oneS at h
 by_cases h1 : wordB (l.getD i z43).f0 = true
 ·rw [if_pos h1] at h
  by_cases h2 : findR (nameIs (l.getD i z43).f0) l < (i : Int)
  ·rw [if_pos h2] at h; simp at h
  ·rw [if_neg h2] at h
   by_cases h3 : (l.getD i z43).f1.length > 8
   ·rw [if_pos h3] at h; simp at h
   ·rw [if_neg h3] at h
    refine ⟨h1, by omega, fun j hj => ?_⟩
    have := fieldsD_ok h j (by omega) (by omega)
    unfold fieldS at this
    split at this
    ·split at this
     ·simp at this
     ·split at this
      ·assumption
      ·simp at this
    ·simp at this
 ·rw [if_neg h1] at h; simp at h
theorem word_size {s : ByteArray} (h : wordB s = true) : s.size ≤ 12 := by
 unfold wordB at h
 simp at h
 exact h.2.1
/-- '*' and a name. -/
def ptrOf (n : ByteArray) : ByteArray := (⟨#[42]⟩ : ByteArray) ++ n
theorem ptr_size (n : ByteArray) : (ptrOf n).size = 1 + n.size := by unfold ptrOf; rw [ByteArray.size_append]; rfl
theorem ptr_list (n : ByteArray) : (ptrOf n).data.toList = 42 :: n.data.toList := by
 unfold ptrOf
 rw [ByteArray.data_append]
 simp
theorem ptr_rest (n : ByteArray) : rest (ptrOf n) = n := by
 apply bytes_eq
 unfold rest
 rw [Lib.extract_toList, ptr_list, ByteArray.toList_eq]
 have : n.data.toList.length = n.size := by rw [Array.length_toList]; rfl
 rw [ptr_size]
 show List.take (1 + n.size - 1) n.data.toList = n.data.toList
 exact List.take_of_length_le (by omega)
theorem star_iff {t : ByteArray} : starB t = true ↔ ∃ r, t.data.toList = 42 :: r := by
 obtain ⟨⟨l⟩⟩ := t
 cases l with
 | nil =>
  constructor
  ·intro h; simp [starB, ByteArray.size] at h
  ·rintro ⟨r, h⟩; simp at h
 | cons x l =>
  have hsz : 0 < (ByteArray.size ⟨⟨x :: l⟩⟩) := by simp [ByteArray.size]
  have e4 : bt ⟨⟨x :: l⟩⟩ 0 = (x.toNat : Int) := (bt_at ⟨⟨x :: l⟩⟩ 0 (by simpa using hsz)).symm
  unfold starB
  rw [e4]
  simp only [hsz, decide_true, Bool.true_and]
  have e42 : (42 : UInt8).toNat = 42 := rfl
  constructor
  ·intro h
   have h := beq_iff_eq.mp h
   have : x = 42 := UInt8.toNat_inj.mp (by omega)
   exact ⟨l, by rw [this]⟩
  ·rintro ⟨r, h⟩
   have : x = 42 := by injection h
   rw [this]; rfl
theorem ptr_elem {n : ByteArray} (h : wordB n = true) : elemS (ptrOf n) = (n, true) := by
 unfold elemS ptrB
 rw [star_iff.mpr ⟨_, ptr_list n⟩, ptr_rest, h]
 rfl
theorem ptr_is {l : List S43} {n : ByteArray} (h : 0 ≤ findR (nameIs n) l) : isS l (ptrOf n) = true := by
 unfold isS
 rw [star_iff.mpr ⟨_, ptr_list n⟩, ptr_rest, decide_eq_true h]
 simp
theorem is_found {l : List S43} {t : ByteArray} (h : isS l t = true) (he : (elemS t).2 = true) : 0 ≤ findR (nameIs (elemS t).1) l := by
 have hp : ptrB t = true := by
  unfold elemS at he
  split at he
  ·assumption
  ·simp at he
 have hs : starB t = true := by unfold ptrB at hp; rw [Bool.and_eq_true] at hp; exact hp.1
 obtain ⟨r, hr⟩ := star_iff.mp hs
 unfold isS at h
 rw [ByteArray.toList_eq, hr] at h
 have h1 : ((42 :: r : List UInt8) == [105, 110, 116]) = false := by simp
 have h2 : ((42 :: r : List UInt8) == [98, 111, 111, 108]) = false := by simp
 rw [h1, h2, hs] at h
 simp at h
 unfold elemS
 rw [if_pos hp]
 exact h
theorem out_mem {l : List S43} {t s : ByteArray} : s ∈ outS l t ↔ Rc l t s := by
 unfold outS
 rw [List.mem_map]
 constructor
 ·rintro ⟨i, hi, rfl⟩
  have := (List.mem_filter.mp hi).2
  by_cases h : Rc l t (l.getD i z43).f0 ∧ findR (nameIs (l.getD i z43).f0) l = (i : Int)
  ·exact h.1
  ·rw [decB_false h] at this; cases this
 ·intro h
  have hf : 0 ≤ findR (nameIs s) l := by cases h <;> assumption
  obtain ⟨m, hm⟩ : ∃ m : Nat, findR (nameIs s) l = m := ⟨(findR (nameIs s) l).toNat, by omega⟩
  have hn := find_name hm
  have hml := find_lt hm
  refine ⟨m, List.mem_filter.mpr ⟨by simpa using hml, decB_true ?_⟩, hn⟩
  rw [hn]
  exact ⟨h, hm⟩
theorem out_len {l : List S43} {t : ByteArray} : (outS l t).length ≤ l.length := by
 unfold outS
 rw [List.length_map]
 exact Nat.le_trans (List.length_filter_le _ _) (by simp)
theorem has_ev (r : List ByteArray) (n : ByteArray) (hr : r.length ≤ 9223372036854775807) : Ev (fun k => truantlaw03_has.f k r n) (hasB n r) := by
 have key : ∀ (d i : Nat), i ≤ r.length → r.length - i = d → (∀ j : Nat, j < i → ((r.getD j ByteArray.empty).toList == n.toList) = false) → Ev (fun k => truantlaw03_has.l0 k r n (i : Int)) (hasB n r) := by
  intro d
  induction d with
  | zero =>
   intro i h0 hd h
   refine Ev.step (fun k => rfl) (Ev.neg (by omega) (Ev.eq (Ev.now _) ?_))
   symm
   unfold hasB
   rw [List.any_eq_false]
   intro x hx
   obtain ⟨j, hj, rfl⟩ := List.mem_iff_getElem.mp hx
   have := h j (by omega)
   rw [getD_at r _ hj] at this
   simp [this]
  | succ d ih =>
   intro i h0 hd h
   refine Ev.step (fun k => rfl) (Ev.pos (by omega) (Ev.pos (by omega) ?_))
   have rr : rdOf ByteArray.empty r (i : Int) = r.getD i ByteArray.empty := rfl
   rw [rr]
   by_cases e : (r.getD i ByteArray.empty).toList = n.toList
   ·refine Ev.pos e (Ev.eq (Ev.now _) ?_)
    symm
    unfold hasB
    rw [List.any_eq_true]
    exact ⟨r.getD i ByteArray.empty, by rw [getD_at r _ (by omega)]; exact List.getElem_mem _, beq_iff_eq.mpr e⟩
   ·refine Ev.neg e ?_
    rw [wrap_succ (by omega) (by omega)]
    exact ih (i + 1) (by omega) (by omega) (all_succ (P := fun j => ((r.getD j ByteArray.empty).toList == n.toList) = false) h (beq_eq_false_iff_ne.mpr e))
 exact key r.length 0 (by omega) (by omega) (fun j hj => absurd hj (by omega))
theorem wf_sz {l : List S43} (h1 : l.length * 40 ≤ 140737488351232) (h2 : ∀ x ∈ l, WF43 x) : Sz l where
 len := by omega
 fields := fun j hj => by have := (getD_wf h2 hj).2.1; omega
 names := fun j hj => (getD_wf h2 hj).1
 fnames := fun j q hj hq => (getF_wf (getD_wf h2 hj).2.2 hq).1
 types := fun j q hj hq => (getF_wf (getD_wf h2 hj).2.2 hq).2
theorem pointer_eq {n : ByteArray} (h : n.size ≤ 140737488351232) : kind_Pointer.f n = some (ptrOf n) := by unfold kind_Pointer.f; rw [if_pos (by omega)]; rfl
end Go.Proofs.Ythpglaekdadehaa.Q

/- The plain law of KindMore. -/

namespace Go.Proofs.Ythpglaekdadehaa.Q
open Go.RowKit Go.Proofs.YthpglaekdadehaaW.PrintWords Go.Proofs.YthpglaekdadehaaW.PrintLast Go.Proofs.YthpglaekdadehaaW.PrintMore
set_option linter.unusedVariables false
set_option linter.unusedSimpArgs false
theorem findR_app {α : Type} (p : α → Bool) (l : List α) (z : α) : findR p (l ++ [z]) = if 0 ≤ findR p l then findR p l else if p z = true then (l.length : Int) else -1 := by
 unfold findR
 rw [List.findIdx_append]
 by_cases h : l.findIdx p < l.length
 ·rw [if_pos h, if_pos h, if_pos (by simp; omega), if_pos (by omega)]
 ·have e2 : (l ++ [z]).length = l.length + 1 := by simp
  rw [if_neg h, if_neg h, if_neg (show ¬ (0 : Int) ≤ -1 by omega), e2]
  by_cases hz : p z = true
  ·have e : [z].findIdx p = 0 := by simp [List.findIdx_cons, hz]
   rw [if_pos hz, e, if_pos (by omega)]; omega
  ·have e : [z].findIdx p = 1 := by simp [List.findIdx_cons, hz]
   rw [if_neg hz, e, if_neg (by omega)]
theorem rc_found {l : List S43} {t s : ByteArray} (h : Rc l t s) : 0 ≤ findR (nameIs s) l := by cases h <;> assumption
def zzN : ByteArray := ⟨#[90, 122, 57]⟩
def zzP : ByteArray := ⟨#[42, 90, 122, 57]⟩
theorem zz_ptr : zzP = ptrOf zzN := rfl
theorem zz_word : wordB zzN = true := by decide +kernel
section
variable {l : List S43} {z : S43} {t : ByteArray}
theorem app_lt {i : Nat} (hi : i < l.length) : (l ++ [z]).getD i z43 = l.getD i z43 := by
 rw [getD_at _ _ (by simp; omega), getD_at _ _ hi, List.getElem_append_left hi]
theorem app_at : (l ++ [z]).getD l.length z43 = z := by
 rw [getD_at _ _ (by simp)]
 simp
variable (hz : z.f0 = zzN)
include hz
theorem find_app_iff {n : ByteArray} (hn : n ≠ zzN) : findR (nameIs n) (l ++ [z]) = if 0 ≤ findR (nameIs n) l then findR (nameIs n) l else -1 := by
 rw [findR_app, if_neg (c := nameIs n z = true)]
 intro h
 have := nameIs_iff.mp h
 exact hn (by rw [← this, hz])
theorem rc_app (hok : ∀ j : Nat, j < l.length → wordB (l.getD j z43).f0 = true ∧ (j : Int) ≤ findR (nameIs (l.getD j z43).f0) l ∧ ∀ q : Nat, q < (l.getD j z43).f1.length → isS l ((l.getD j z43).f1.getD q z48).f1 = true)
  (ht : ¬ t.toList = [42, 90, 122, 57]) (s : ByteArray) : Rc (l ++ [z]) t s ↔ Rc l t s := by
 have hfa : ∀ {n : ByteArray} {m : Nat}, findR (nameIs n) l = (m : Int) → findR (nameIs n) (l ++ [z]) = (m : Int) := fun {n m} h => by
  rw [findR_app, if_pos (by omega)]; exact h
 constructor
 ·intro h
  induction h with
  | root h1 h2 =>
   refine Rc.root h1 ?_
   by_cases e : (elemS t).1 = zzN
   ·exfalso
    apply ht
    have hp : ptrB t = true := by
     unfold elemS at h1
     split at h1
     ·assumption
     ·simp at h1
    have hr : rest t = zzN := by unfold elemS at e; rw [if_pos hp] at e; exact e
    have hs : starB t = true := by unfold ptrB at hp; rw [Bool.and_eq_true] at hp; exact hp.1
    obtain ⟨r, hr2⟩ := star_iff.mp hs
    have e2 : r = [90, 122, 57] := by
     have e3 := congrArg (fun b : ByteArray => b.data.toList) hr
     unfold rest at e3
     rw [Lib.extract_data, hr2] at e3
     have hsz : t.size = (42 :: r).length := by rw [← hr2, Array.length_toList]; rfl
     rw [hsz] at e3
     have e4 : List.take ((42 :: r).length - 1) (List.drop 1 (42 :: r)) = r := List.take_of_length_le (by simp)
     rw [e4] at e3
     exact e3
    rw [ByteArray.toList_eq, hr2, e2]
   ·have := find_app_iff (l := l) hz e
    rw [this] at h2
    split at h2 <;> omega
  | link h0 h1 h2 h3 h4 ih =>
   rename_i a m j
   have hf : 0 ≤ findR (nameIs a) l := by cases ih <;> assumption
   obtain ⟨m', hm'⟩ : ∃ m' : Nat, findR (nameIs a) l = m' := ⟨(findR (nameIs a) l).toNat, by omega⟩
   have hml := find_lt hm'
   have em : m = m' := by have := hfa hm'; rw [this] at h1; omega
   subst em
   rw [app_lt hml] at h2 h3 ⊢
   exact Rc.link ih hm' h2 h3 (is_found ((hok _ hml).2.2 _ h2) h3)
 ·intro h
  induction h with
  | root h1 h2 =>
   refine Rc.root h1 ?_
   rw [findR_app, if_pos h2]; exact h2
  | link h0 h1 h2 h3 h4 ih =>
   rename_i a m j
   have hml := find_lt h1
   rw [← app_lt (z := z) hml] at h2 h3 h4 ⊢
   exact Rc.link ih (hfa h1) h2 h3 (by rw [findR_app, if_pos h4]; exact h4)
theorem out_app (hno : findR (nameIs zzN) l < 0) (hok : ∀ j : Nat, j < l.length → wordB (l.getD j z43).f0 = true ∧ (j : Int) ≤ findR (nameIs (l.getD j z43).f0) l ∧ ∀ q : Nat, q < (l.getD j z43).f1.length → isS l ((l.getD j z43).f1.getD q z48).f1 = true)
  (ht : ¬ t.toList = [42, 90, 122, 57]) : outS (l ++ [z]) t = outS l t := by
 have hrc := rc_app hz hok ht
 unfold outS
 have e1 : (l ++ [z]).length = l.length + 1 := by simp
 rw [e1, List.range_succ, List.filter_append, List.map_append]
 have e2 : ([l.length].filter fun i => decB (Rc (l ++ [z]) t ((l ++ [z]).getD i z43).f0 ∧ findR (nameIs ((l ++ [z]).getD i z43).f0) (l ++ [z]) = (i : Int))) = [] := by
  rw [List.filter_cons, decB_false, if_neg (by decide)]
  ·rfl
  ·rintro ⟨h1, _⟩
   rw [app_at, hz] at h1
   have h2 := (hrc _).mp h1
   have := rc_found h2
   omega
 rw [e2, List.map_nil, List.append_nil]
 have e3 : ((List.range l.length).filter fun i => decB (Rc (l ++ [z]) t ((l ++ [z]).getD i z43).f0 ∧ findR (nameIs ((l ++ [z]).getD i z43).f0) (l ++ [z]) = (i : Int))) = (List.range l.length).filter fun i => decB (Rc l t (l.getD i z43).f0 ∧ findR (nameIs (l.getD i z43).f0) l = (i : Int)) := by
  apply List.filter_congr
  intro i hi
  have hi : i < l.length := by simpa using hi
  rw [app_lt hi, hrc]
  obtain ⟨m, hm, _⟩ := find_has (l := l) hi rfl
  rw [findR_app, if_pos (by omega)]
 rw [e3]
 apply List.map_congr_left
 intro i hi
 have hi : i < l.length := by simpa using (List.mem_filter.mp hi).1
 rw [app_lt hi]
end
theorem KindMore_pure : KindMore.Pure := by
 intro l fs t hl hf ht
 obtain ⟨hl1, hl2⟩ := hl
 obtain ⟨hf1, hf2⟩ := hf
 have ht : t.size ≤ 140737488351232 := ht
 have sz := wf_sz hl1 hl2
 obtain ⟨z, hzz⟩ : ∃ z : S43, z = ⟨zzN, fs⟩ := ⟨_, rfl⟩
 have hz : z.f0 = zzN := by rw [hzz]
 have hzf : z.f1 = fs := by rw [hzz]
 have sz' : Sz (l ++ [z]) := by
  have hcase : ∀ j : Nat, j < (l ++ [z]).length → j < l.length ∨ j = l.length := fun j hj => by simp at hj; omega
  have hlen := sz.len
  refine ⟨by simp; omega, fun j hj => ?_, fun j hj => ?_, fun j q hj => ?_, fun j q hj => ?_⟩
  ·rcases hcase j hj with h | rfl
   ·rw [app_lt h]; exact sz.fields j h
   ·rw [app_at, hzf]; omega
  ·rcases hcase j hj with h | rfl
   ·rw [app_lt h]; exact sz.names j h
   ·rw [app_at, hz]; decide
  ·rcases hcase j hj with h | rfl
   ·rw [app_lt h]; exact sz.fnames j q h
   ·rw [app_at, hzf]; exact fun hq => (getF_wf hf2 hq).1
  ·rcases hcase j hj with h | rfl
   ·rw [app_lt h]; exact sz.types j q h
   ·rw [app_at, hzf]; exact fun hq => (getF_wf hf2 hq).2
 have hlen' := sz'.len
 obtain ⟨b, hg, hgf⟩ := kindGreat_ev (l ++ [z]) (by omega) (fun j hj => by have := sz'.fields j hj; omega)
 refine Ev.rounds (g := fun k => truantlaw03_KindMore.f k l fs t) (Ev.bind kindAwake_ev (Ev.pos rfl (Ev.one (b := []) rfl (Ev.pos (by simp; omega) (Ev.one (b := l) (by simp) (Ev.pos (by omega) (Ev.one (b := l ++ [z]) (by rw [hzz]; rfl) (Ev.bind hg ?_))))))))
 cases b with
 | true => exact Ev.pos rfl (Ev.now _)
 | false =>
 refine Ev.neg (by decide) ?_
 by_cases h1 : (t.size : Int) > 100
 ·exact Ev.pos h1 (Ev.now _)
 refine Ev.neg h1 ?_
 by_cases h2 : t.toList = [42, 90, 122, 57]
 ·exact Ev.pos h2 (Ev.now _)
 refine Ev.neg h2 (Ev.bind (check_ev l sz) ?_)
 by_cases h3 : (checkS l).2 = 0
 case neg => exact Ev.neg h3 (Ev.now _)
 refine Ev.pos h3 (Ev.bind (check_ev _ sz') ?_)
 by_cases h4 : (checkS (l ++ [z])).2 = 0
 case neg => exact Ev.neg h4 (Ev.now _)
 refine Ev.pos h4 ?_
 have hok := fun j hj => one_ok (check_ok h3 j hj)
 have hok' := one_ok (check_ok h4 l.length (by simp))
 rw [app_at, hz] at hok'
 have hno : findR (nameIs zzN) l < 0 := by
  have := hok'.2.1
  rw [findR_app] at this
  by_cases h : 0 ≤ findR (nameIs zzN) l
  ·rw [if_pos h] at this
   obtain ⟨m, hm⟩ : ∃ m : Nat, findR (nameIs zzN) l = m := ⟨(findR (nameIs zzN) l).toNat, by omega⟩
   have := find_lt hm
   omega
  ·omega
 obtain ⟨g1, g2⟩ := hgf rfl
 have wf' : WFL (l ++ [z]) := ⟨g1, fun j hj => (g2 j hj).2.1, fun j hj => (g2 j hj).1, fun j q hj hq => ((g2 j hj).2.2 q hq).2⟩
 have hll : l.length + 1 ≤ 16 := by simpa using g1
 have hin : ∀ j : Nat, j < l.length → j < (l ++ [z]).length := fun j hj => by simp; omega
 have wf : WFL l := ⟨by omega, fun j hj => by have := wf'.fields j (hin j hj); rwa [app_lt hj] at this, fun j hj => by have := wf'.names j (hin j hj); rwa [app_lt hj] at this, fun j q hj => by have := wf'.types j q (hin j hj); rwa [app_lt hj] at this⟩
 have hout := out_app hz hno hok h2
 have hreach := reach_ev _ wf' t (by omega)
 rw [hout] at hreach
 have hfz : findR (nameIs zzN) (l ++ [z]) = (l.length : Int) := by
  rw [findR_app, if_neg (by omega), if_pos (nameIs_iff.mpr hz)]
 refine Ev.bind (reach_ev l wf t (by omega)) (Ev.bind hreach (Ev.pos rfl (Ev.bind (reach_ev _ wf' zzP (by decide)) (Ev.bind (has_ev _ zzN (by have := out_len (l := l ++ [z]) (t := zzP); omega)) ?_))))
 have hroot : Rc (l ++ [z]) zzP zzN := by
  rw [zz_ptr]
  have h := Rc.root (l := l ++ [z]) (t := ptrOf zzN) (by rw [ptr_elem zz_word]) (by rw [ptr_elem zz_word]; show 0 ≤ findR (nameIs zzN) (l ++ [z]); rw [hfz]; omega)
  rwa [ptr_elem zz_word] at h
 rw [hasB_mem.mpr (out_mem.mpr hroot)]
 refine Ev.pos rfl ?_
 have hol : (outS l t).length ≤ 16 := Nat.le_trans out_len (by omega)
 generalize outS l t = o at hol
 have key : ∀ (d i : Nat), i ≤ o.length → o.length - i = d → Ev (fun k => truantlaw03_KindMore.l0 k l (l ++ [z]) o o (i : Int)) true := by
  intro d
  induction d with
  | zero =>
   intro i h0 hd
   refine Ev.step (fun k => rfl) (Ev.neg (by omega) (Ev.bind (is_ev _ zzP) ?_))
   rw [zz_ptr, ptr_is (by rw [hfz]; omega)]
   refine Ev.pos rfl (Ev.one (a := kind_Same.f l (l ++ [z])) (b := sameS l (l ++ [z])) rfl (Ev.eq (Ev.now _) ?_))
   have : sameS l (l ++ [z]) = false := by
    rw [sameS_dec]
    refine decB_false (fun e => ?_)
    have := congrArg List.length e
    simp at this
   rw [this]; rfl
  | succ d ih =>
   intro i h0 hd
   refine Ev.step (fun k => rfl) (Ev.pos (by omega) (Ev.pos (by omega) (Ev.pos (by omega) (Ev.pos rfl ?_))))
   rw [wrap_succ (by omega) (by omega)]
   exact ih (i + 1) (by omega) (by omega)
 exact key o.length 0 (by omega) (by omega)
end Go.Proofs.Ythpglaekdadehaa.Q
