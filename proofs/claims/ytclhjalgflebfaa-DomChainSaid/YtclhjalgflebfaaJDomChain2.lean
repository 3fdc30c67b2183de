/- What the row of DomChain rests on, part 2: contracts of the functions that it reaches, and the plain law. -/
import Derived.Test.YtclhjalgflebfaaJDomChain1
namespace Go.Proofs.Ytclhjalgflebfaa.Q
open Go.RowKit Go.Proofs.YtclhjalgflebfaaW.PrintWords Go.Proofs.YtclhjalgflebfaaW.PrintLast Go.Proofs.YtclhjalgflebfaaW.PrintMore
attribute [local go_sem] max2_int min2_int max_two min_two max_three min_three max_four min_four   -- for this text's walks alone
set_option linter.unusedVariables false
set_option linter.unusedSimpArgs false

/-! ### truantlaw10_DomChain: function 12 -/
mutual
def truantlaw10_DomChain.l0 : Nat → List Int → List (List Int) → List Bool → List (List Int) → Int → ByteArray → List ByteArray → ByteArray → List ByteArray → List (S58) → List (S40) → Option (Bool)
 | 0, _, _, _, _, _, _, _, _, _, _, _ => none
 | k + 1, x3, x4, x5, x6, x7, x436000, x436001, x436002, x436003, x436004, x436005 => if x7 < (x3.length : Int) then (if 0 ≤ x7 then (if x7 < (x5.length : Int) then (if rdOf false x5 x7 = true then ((dom_Is.f x436000 x436001 x436002 x436003 x436004 x436005 0 x7).bind fun t454 => (if t454 = true then ((dom_Is.f x436000 x436001 x436002 x436003 x436004 x436005 x7 x7).bind fun t455 => (if t455 = true then (truantlaw10_DomChain.j1 k x3 x4 x5 x6 x7 (((rd x3 x7) == (-1)) != (x7 == 0)) x436000 x436001 x436002 x436003 x436004 x436005) else (truantlaw10_DomChain.j1 k x3 x4 x5 x6 x7 true x436000 x436001 x436002 x436003 x436004 x436005))) else (truantlaw10_DomChain.j1 k x3 x4 x5 x6 x7 true x436000 x436001 x436002 x436003 x436004 x436005))) else (if (rd x3 x7) = (-1) then (if x7 < (x4.length : Int) then (if ((rd_L2 x4 x7).length : Int) > 0 then (none) else ((dom_Is.f x436000 x436001 x436002 x436003 x436004 x436005 x7 x7).bind fun t453 => (if t453 = true then (none) else (truantlaw10_DomChain.l0 k x3 x4 x5 x6 (wrap64 (x7 + 1)) x436000 x436001 x436002 x436003 x436004 x436005)))) else (none)) else (none))) else (none)) else (none)) else (some true)
def truantlaw10_DomChain.j1 : Nat → List Int → List (List Int) → List Bool → List (List Int) → Int → Bool → ByteArray → List ByteArray → ByteArray → List ByteArray → List (S58) → List (S40) → Option (Bool)
 | 0, _, _, _, _, _, _, _, _, _, _, _, _ => none
 | k + 1, x3, x4, x5, x6, x7, x75, x436000, x436001, x436002, x436003, x436004, x436005 => if x75 = true then (none) else (truantlaw10_DomChain.l1 k x3 x4 x5 x6 x7 0 0 x436000 x436001 x436002 x436003 x436004 x436005)
def truantlaw10_DomChain.l1 : Nat → List Int → List (List Int) → List Bool → List (List Int) → Int → Int → Int → ByteArray → List ByteArray → ByteArray → List ByteArray → List (S58) → List (S40) → Option (Bool)
 | 0, _, _, _, _, _, _, _, _, _, _, _, _, _ => none
 | k + 1, x3, x4, x5, x6, x7, x8, x9, x436000, x436001, x436002, x436003, x436004, x436005 => if x9 < (x3.length : Int) then ((dom_Is.f x436000 x436001 x436002 x436003 x436004 x436005 x9 x7).bind fun t457 => (if t457 = true then (if x9 = x7 then (truantlaw10_DomChain.l1 k x3 x4 x5 x6 x7 (wrap64 (x8 + 1)) (wrap64 (x9 + 1)) x436000 x436001 x436002 x436003 x436004 x436005) else (if 0 ≤ x7 then (if x7 < (x3.length : Int) then ((dom_Is.f x436000 x436001 x436002 x436003 x436004 x436005 x9 (rd x3 x7)).bind fun t459 => (if t459 = true then (truantlaw10_DomChain.l1 k x3 x4 x5 x6 x7 (wrap64 (x8 + 1)) (wrap64 (x9 + 1)) x436000 x436001 x436002 x436003 x436004 x436005) else (none))) else (none)) else (none))) else (truantlaw10_DomChain.l1 k x3 x4 x5 x6 x7 x8 (wrap64 (x9 + 1)) x436000 x436001 x436002 x436003 x436004 x436005))) else (truantlaw10_DomChain.l2 k x3 x4 x5 x6 x7 x8 1 x7 x436000 x436001 x436002 x436003 x436004 x436005)
def truantlaw10_DomChain.j4 : Nat → List Int → List (List Int) → List Bool → List (List Int) → Int → Int → Int → ByteArray → List ByteArray → ByteArray → List ByteArray → List (S58) → List (S40) → Option (Bool)
 | 0, _, _, _, _, _, _, _, _, _, _, _, _, _ => none
 | k + 1, x3, x4, x5, x6, x7, x8, x10, x436000, x436001, x436002, x436003, x436004, x436005 => if x10 = x8 then (truantlaw10_DomChain.l3 k x3 x4 x5 x6 x7 0 x436000 x436001 x436002 x436003 x436004 x436005) else (none)
def truantlaw10_DomChain.l3 : Nat → List Int → List (List Int) → List Bool → List (List Int) → Int → Int → ByteArray → List ByteArray → ByteArray → List ByteArray → List (S58) → List (S40) → Option (Bool)
 | 0, _, _, _, _, _, _, _, _, _, _, _, _ => none
 | k + 1, x3, x4, x5, x6, x7, x12, x436000, x436001, x436002, x436003, x436004, x436005 => if 0 ≤ x7 then (if x7 < (x4.length : Int) then (if x12 < ((rd_L2 x4 x7).length : Int) then (if 0 ≤ x12 then (if (rd (rd_L2 x4 x7) x12) = x7 then (truantlaw10_DomChain.l3 k x3 x4 x5 x6 x7 (wrap64 (x12 + 1)) x436000 x436001 x436002 x436003 x436004 x436005) else ((dom_Is.f x436000 x436001 x436002 x436003 x436004 x436005 x7 (rd (rd_L2 x4 x7) x12)).bind fun t467 => (if t467 = true then (none) else (truantlaw10_DomChain.l3 k x3 x4 x5 x6 x7 (wrap64 (x12 + 1)) x436000 x436001 x436002 x436003 x436004 x436005)))) else (none)) else (if x7 = 0 then (truantlaw10_DomChain.l0 k x3 x4 x5 x6 (wrap64 (x7 + 1)) x436000 x436001 x436002 x436003 x436004 x436005) else (if x7 < (x6.length : Int) then (if ((rd_L2 x6 x7).length : Int) = 1 then (if x7 < (x3.length : Int) then (if 0 < ((rd_L2 x6 x7).length : Int) then (if (rd x3 x7) = (rd (rd_L2 x6 x7) 0) then (truantlaw10_DomChain.l0 k x3 x4 x5 x6 (wrap64 (x7 + 1)) x436000 x436001 x436002 x436003 x436004 x436005) else (none)) else (none)) else (none)) else (truantlaw10_DomChain.l0 k x3 x4 x5 x6 (wrap64 (x7 + 1)) x436000 x436001 x436002 x436003 x436004 x436005)) else (none)))) else (none)) else (none)
def truantlaw10_DomChain.l2 : Nat → List Int → List (List Int) → List Bool → List (List Int) → Int → Int → Int → Int → ByteArray → List ByteArray → ByteArray → List ByteArray → List (S58) → List (S40) → Option (Bool)
 | 0, _, _, _, _, _, _, _, _, _, _, _, _, _, _ => none
 | k + 1, x3, x4, x5, x6, x7, x8, x10, x11, x436000, x436001, x436002, x436003, x436004, x436005 => if 0 ≤ x11 then (if x11 < (x3.length : Int) then (if (rd x3 x11) ≥ 0 then (if x10 ≤ (x3.length : Int) then (truantlaw10_DomChain.l2 k x3 x4 x5 x6 x7 x8 (wrap64 (x10 + 1)) (rd x3 x11) x436000 x436001 x436002 x436003 x436004 x436005) else (truantlaw10_DomChain.j4 k x3 x4 x5 x6 x7 x8 x10 x436000 x436001 x436002 x436003 x436004 x436005)) else (truantlaw10_DomChain.j4 k x3 x4 x5 x6 x7 x8 x10 x436000 x436001 x436002 x436003 x436004 x436005)) else (none)) else (none)
end
def truantlaw10_DomChain.f (k : Nat) (a0_0 : ByteArray) (l0_1 : List ByteArray) (a0_2 : ByteArray) (l0_3 : List ByteArray) (l0_4 : List (S58)) (l0_5 : List (S40)) : Option (Bool) := (truantlaw10_awake.f k).bind fun t436 => (if t436 = true then ((truantlaw10_wide.f a0_0 l0_1 a0_2 l0_3 l0_4 l0_5).bind fun t437 => (if t437 = true then (some true) else ((dom_Nearest.f a0_0 l0_1 a0_2 l0_3 l0_4 l0_5).bind fun t438 => ((dom_Front.f a0_0 l0_1 a0_2 l0_3 l0_4 l0_5).bind fun t441 => ((flow_Reached.f a0_0 l0_1 a0_2 l0_3 l0_4 l0_5).bind fun t444 => ((flow_Ahead.f k a0_0 l0_1 a0_2 l0_3 l0_4 l0_5).bind fun t447 => (truantlaw10_DomChain.l0 k t438 t441 t444 t447 0 a0_0 l0_1 a0_2 l0_3 l0_4 l0_5))))))) else (none))
theorem truantlaw10_DomChain.mono_l : ∀ k, (∀ y0 y1 y2 y3 y4 y5 y6 y7 y8 y9 y10, LeO (truantlaw10_DomChain.l0 k y0 y1 y2 y3 y4 y5 y6 y7 y8 y9 y10) (truantlaw10_DomChain.l0 (k + 1) y0 y1 y2 y3 y4 y5 y6 y7 y8 y9 y10)) ∧ (∀ y0 y1 y2 y3 y4 y5 y6 y7 y8 y9 y10 y11, LeO (truantlaw10_DomChain.j1 k y0 y1 y2 y3 y4 y5 y6 y7 y8 y9 y10 y11) (truantlaw10_DomChain.j1 (k + 1) y0 y1 y2 y3 y4 y5 y6 y7 y8 y9 y10 y11)) ∧ (∀ y0 y1 y2 y3 y4 y5 y6 y7 y8 y9 y10 y11 y12, LeO (truantlaw10_DomChain.l1 k y0 y1 y2 y3 y4 y5 y6 y7 y8 y9 y10 y11 y12) (truantlaw10_DomChain.l1 (k + 1) y0 y1 y2 y3 y4 y5 y6 y7 y8 y9 y10 y11 y12)) ∧ (∀ y0 y1 y2 y3 y4 y5 y6 y7 y8 y9 y10 y11 y12, LeO (truantlaw10_DomChain.j4 k y0 y1 y2 y3 y4 y5 y6 y7 y8 y9 y10 y11 y12) (truantlaw10_DomChain.j4 (k + 1) y0 y1 y2 y3 y4 y5 y6 y7 y8 y9 y10 y11 y12)) ∧ (∀ y0 y1 y2 y3 y4 y5 y6 y7 y8 y9 y10 y11, LeO (truantlaw10_DomChain.l3 k y0 y1 y2 y3 y4 y5 y6 y7 y8 y9 y10 y11) (truantlaw10_DomChain.l3 (k + 1) y0 y1 y2 y3 y4 y5 y6 y7 y8 y9 y10 y11)) ∧ (∀ y0 y1 y2 y3 y4 y5 y6 y7 y8 y9 y10 y11 y12 y13, LeO (truantlaw10_DomChain.l2 k y0 y1 y2 y3 y4 y5 y6 y7 y8 y9 y10 y11 y12 y13) (truantlaw10_DomChain.l2 (k + 1) y0 y1 y2 y3 y4 y5 y6 y7 y8 y9 y10 y11 y12 y13))
 | 0 => ⟨fun _ _ _ _ _ _ _ _ _ _ _ r h => by simp [truantlaw10_DomChain.l0] at h, fun _ _ _ _ _ _ _ _ _ _ _ _ r h => by simp [truantlaw10_DomChain.j1] at h, fun _ _ _ _ _ _ _ _ _ _ _ _ _ r h => by simp [truantlaw10_DomChain.l1] at h, fun _ _ _ _ _ _ _ _ _ _ _ _ _ r h => by simp [truantlaw10_DomChain.j4] at h, fun _ _ _ _ _ _ _ _ _ _ _ _ r h => by simp [truantlaw10_DomChain.l3] at h, fun _ _ _ _ _ _ _ _ _ _ _ _ _ _ r h => by simp [truantlaw10_DomChain.l2] at h⟩
 | k + 1 => by
  obtain ⟨ih0, ih1, ih2, ih3, ih4, ih5⟩ := truantlaw10_DomChain.mono_l k
  refine ⟨?_, ?_, ?_, ?_, ?_, ?_⟩
  ·intro y0 y1 y2 y3 y4 y5 y6 y7 y8 y9 y10
   unfold truantlaw10_DomChain.l0
   repeat' first
   | (with_reducible exact ih0 _ _ _ _ _ _ _ _ _ _ _)
   | (with_reducible exact ih1 _ _ _ _ _ _ _ _ _ _ _ _)
   | (with_reducible exact ih2 _ _ _ _ _ _ _ _ _ _ _ _ _)
   | (with_reducible exact ih3 _ _ _ _ _ _ _ _ _ _ _ _ _)
   | (with_reducible exact ih4 _ _ _ _ _ _ _ _ _ _ _ _)
   | (with_reducible exact ih5 _ _ _ _ _ _ _ _ _ _ _ _ _ _)
   | (with_reducible exact flow_Ahead.mono _ _ _ _ _ _ _)
   | (with_reducible exact truantlaw10_awake.mono _)
   | (with_reducible exact LeO.refl _)
   | (with_reducible exact LeO.none _)
   | (with_reducible refine LeO.ite ?_ ?_)
   | (with_reducible refine LeO.bind ?_ (fun _ => ?_))
   | exact ih0 _ _ _ _ _ _ _ _ _ _ _
   | exact ih1 _ _ _ _ _ _ _ _ _ _ _ _
   | exact ih2 _ _ _ _ _ _ _ _ _ _ _ _ _
   | exact ih3 _ _ _ _ _ _ _ _ _ _ _ _ _
   | exact ih4 _ _ _ _ _ _ _ _ _ _ _ _
   | exact ih5 _ _ _ _ _ _ _ _ _ _ _ _ _ _
   | exact flow_Ahead.mono _ _ _ _ _ _ _
   | exact truantlaw10_awake.mono _
   | exact LeO.none _
   | refine LeO.ite ?_ ?_
   | refine LeO.bind ?_ (fun _ => ?_)
  ·intro y0 y1 y2 y3 y4 y5 y6 y7 y8 y9 y10 y11
   unfold truantlaw10_DomChain.j1
   repeat' first
   | (with_reducible exact ih0 _ _ _ _ _ _ _ _ _ _ _)
   | (with_reducible exact ih1 _ _ _ _ _ _ _ _ _ _ _ _)
   | (with_reducible exact ih2 _ _ _ _ _ _ _ _ _ _ _ _ _)
   | (with_reducible exact ih3 _ _ _ _ _ _ _ _ _ _ _ _ _)
   | (with_reducible exact ih4 _ _ _ _ _ _ _ _ _ _ _ _)
   | (with_reducible exact ih5 _ _ _ _ _ _ _ _ _ _ _ _ _ _)
   | (with_reducible exact flow_Ahead.mono _ _ _ _ _ _ _)
   | (with_reducible exact truantlaw10_awake.mono _)
   | (with_reducible exact LeO.refl _)
   | (with_reducible exact LeO.none _)
   | (with_reducible refine LeO.ite ?_ ?_)
   | (with_reducible refine LeO.bind ?_ (fun _ => ?_))
   | exact ih0 _ _ _ _ _ _ _ _ _ _ _
   | exact ih1 _ _ _ _ _ _ _ _ _ _ _ _
   | exact ih2 _ _ _ _ _ _ _ _ _ _ _ _ _
   | exact ih3 _ _ _ _ _ _ _ _ _ _ _ _ _
   | exact ih4 _ _ _ _ _ _ _ _ _ _ _ _
   | exact ih5 _ _ _ _ _ _ _ _ _ _ _ _ _ _
   | exact flow_Ahead.mono _ _ _ _ _ _ _
   | exact truantlaw10_awake.mono _
   | exact LeO.none _
   | refine LeO.ite ?_ ?_
   | refine LeO.bind ?_ (fun _ => ?_)
  ·intro y0 y1 y2 y3 y4 y5 y6 y7 y8 y9 y10 y11 y12
   unfold truantlaw10_DomChain.l1
   repeat' first
   | (with_reducible exact ih0 _ _ _ _ _ _ _ _ _ _ _)
   | (with_reducible exact ih1 _ _ _ _ _ _ _ _ _ _ _ _)
   | (with_reducible exact ih2 _ _ _ _ _ _ _ _ _ _ _ _ _)
   | (with_reducible exact ih3 _ _ _ _ _ _ _ _ _ _ _ _ _)
   | (with_reducible exact ih4 _ _ _ _ _ _ _ _ _ _ _ _)
   | (with_reducible exact ih5 _ _ _ _ _ _ _ _ _ _ _ _ _ _)
   | (with_reducible exact flow_Ahead.mono _ _ _ _ _ _ _)
   | (with_reducible exact truantlaw10_awake.mono _)
   | (with_reducible exact LeO.refl _)
   | (with_reducible exact LeO.none _)
   | (with_reducible refine LeO.ite ?_ ?_)
   | (with_reducible refine LeO.bind ?_ (fun _ => ?_))
   | exact ih0 _ _ _ _ _ _ _ _ _ _ _
   | exact ih1 _ _ _ _ _ _ _ _ _ _ _ _
   | exact ih2 _ _ _ _ _ _ _ _ _ _ _ _ _
   | exact ih3 _ _ _ _ _ _ _ _ _ _ _ _ _
   | exact ih4 _ _ _ _ _ _ _ _ _ _ _ _
   | exact ih5 _ _ _ _ _ _ _ _ _ _ _ _ _ _
   | exact flow_Ahead.mono _ _ _ _ _ _ _
   | exact truantlaw10_awake.mono _
   | exact LeO.none _
   | refine LeO.ite ?_ ?_
   | refine LeO.bind ?_ (fun _ => ?_)
  ·intro y0 y1 y2 y3 y4 y5 y6 y7 y8 y9 y10 y11 y12
   unfold truantlaw10_DomChain.j4
   repeat' first
   | (with_reducible exact ih0 _ _ _ _ _ _ _ _ _ _ _)
   | (with_reducible exact ih1 _ _ _ _ _ _ _ _ _ _ _ _)
   | (with_reducible exact ih2 _ _ _ _ _ _ _ _ _ _ _ _ _)
   | (with_reducible exact ih3 _ _ _ _ _ _ _ _ _ _ _ _ _)
   | (with_reducible exact ih4 _ _ _ _ _ _ _ _ _ _ _ _)
   | (with_reducible exact ih5 _ _ _ _ _ _ _ _ _ _ _ _ _ _)
   | (with_reducible exact flow_Ahead.mono _ _ _ _ _ _ _)
   | (with_reducible exact truantlaw10_awake.mono _)
   | (with_reducible exact LeO.refl _)
   | (with_reducible exact LeO.none _)
   | (with_reducible refine LeO.ite ?_ ?_)
   | (with_reducible refine LeO.bind ?_ (fun _ => ?_))
   | exact ih0 _ _ _ _ _ _ _ _ _ _ _
   | exact ih1 _ _ _ _ _ _ _ _ _ _ _ _
   | exact ih2 _ _ _ _ _ _ _ _ _ _ _ _ _
   | exact ih3 _ _ _ _ _ _ _ _ _ _ _ _ _
   | exact ih4 _ _ _ _ _ _ _ _ _ _ _ _
   | exact ih5 _ _ _ _ _ _ _ _ _ _ _ _ _ _
   | exact flow_Ahead.mono _ _ _ _ _ _ _
   | exact truantlaw10_awake.mono _
   | exact LeO.none _
   | refine LeO.ite ?_ ?_
   | refine LeO.bind ?_ (fun _ => ?_)
  ·intro y0 y1 y2 y3 y4 y5 y6 y7 y8 y9 y10 y11
   unfold truantlaw10_DomChain.l3
   repeat' first
   | (with_reducible exact ih0 _ _ _ _ _ _ _ _ _ _ _)
   | (with_reducible exact ih1 _ _ _ _ _ _ _ _ _ _ _ _)
   | (with_reducible exact ih2 _ _ _ _ _ _ _ _ _ _ _ _ _)
   | (with_reducible exact ih3 _ _ _ _ _ _ _ _ _ _ _ _ _)
   | (with_reducible exact ih4 _ _ _ _ _ _ _ _ _ _ _ _)
   | (with_reducible exact ih5 _ _ _ _ _ _ _ _ _ _ _ _ _ _)
   | (with_reducible exact flow_Ahead.mono _ _ _ _ _ _ _)
   | (with_reducible exact truantlaw10_awake.mono _)
   | (with_reducible exact LeO.refl _)
   | (with_reducible exact LeO.none _)
   | (with_reducible refine LeO.ite ?_ ?_)
   | (with_reducible refine LeO.bind ?_ (fun _ => ?_))
   | exact ih0 _ _ _ _ _ _ _ _ _ _ _
   | exact ih1 _ _ _ _ _ _ _ _ _ _ _ _
   | exact ih2 _ _ _ _ _ _ _ _ _ _ _ _ _
   | exact ih3 _ _ _ _ _ _ _ _ _ _ _ _ _
   | exact ih4 _ _ _ _ _ _ _ _ _ _ _ _
   | exact ih5 _ _ _ _ _ _ _ _ _ _ _ _ _ _
   | exact flow_Ahead.mono _ _ _ _ _ _ _
   | exact truantlaw10_awake.mono _
   | exact LeO.none _
   | refine LeO.ite ?_ ?_
   | refine LeO.bind ?_ (fun _ => ?_)
  ·intro y0 y1 y2 y3 y4 y5 y6 y7 y8 y9 y10 y11 y12 y13
   unfold truantlaw10_DomChain.l2
   repeat' first
   | (with_reducible exact ih0 _ _ _ _ _ _ _ _ _ _ _)
   | (with_reducible exact ih1 _ _ _ _ _ _ _ _ _ _ _ _)
   | (with_reducible exact ih2 _ _ _ _ _ _ _ _ _ _ _ _ _)
   | (with_reducible exact ih3 _ _ _ _ _ _ _ _ _ _ _ _ _)
   | (with_reducible exact ih4 _ _ _ _ _ _ _ _ _ _ _ _)
   | (with_reducible exact ih5 _ _ _ _ _ _ _ _ _ _ _ _ _ _)
   | (with_reducible exact flow_Ahead.mono _ _ _ _ _ _ _)
   | (with_reducible exact truantlaw10_awake.mono _)
   | (with_reducible exact LeO.refl _)
   | (with_reducible exact LeO.none _)
   | (with_reducible refine LeO.ite ?_ ?_)
   | (with_reducible refine LeO.bind ?_ (fun _ => ?_))
   | exact ih0 _ _ _ _ _ _ _ _ _ _ _
   | exact ih1 _ _ _ _ _ _ _ _ _ _ _ _
   | exact ih2 _ _ _ _ _ _ _ _ _ _ _ _ _
   | exact ih3 _ _ _ _ _ _ _ _ _ _ _ _ _
   | exact ih4 _ _ _ _ _ _ _ _ _ _ _ _
   | exact ih5 _ _ _ _ _ _ _ _ _ _ _ _ _ _
   | exact flow_Ahead.mono _ _ _ _ _ _ _
   | exact truantlaw10_awake.mono _
   | exact LeO.none _
   | refine LeO.ite ?_ ?_
   | refine LeO.bind ?_ (fun _ => ?_)
theorem truantlaw10_DomChain.mono : ∀ a0 a1 a2 a3 a4 a5 k, LeO (truantlaw10_DomChain.f k a0 a1 a2 a3 a4 a5) (truantlaw10_DomChain.f (k + 1) a0 a1 a2 a3 a4 a5) := by
 intro a0 a1 a2 a3 a4 a5 k
 obtain ⟨ih0, ih1, ih2, ih3, ih4, ih5⟩ := truantlaw10_DomChain.mono_l k
 unfold truantlaw10_DomChain.f
 repeat' first
   | (with_reducible exact ih0 _ _ _ _ _ _ _ _ _ _ _)
   | (with_reducible exact ih1 _ _ _ _ _ _ _ _ _ _ _ _)
   | (with_reducible exact ih2 _ _ _ _ _ _ _ _ _ _ _ _ _)
   | (with_reducible exact ih3 _ _ _ _ _ _ _ _ _ _ _ _ _)
   | (with_reducible exact ih4 _ _ _ _ _ _ _ _ _ _ _ _)
   | (with_reducible exact ih5 _ _ _ _ _ _ _ _ _ _ _ _ _ _)
   | (with_reducible exact flow_Ahead.mono _ _ _ _ _ _ _)
   | (with_reducible exact truantlaw10_awake.mono _)
   | (with_reducible exact LeO.refl _)
   | (with_reducible exact LeO.none _)
   | (with_reducible refine LeO.ite ?_ ?_)
   | (with_reducible refine LeO.bind ?_ (fun _ => ?_))
   | exact ih0 _ _ _ _ _ _ _ _ _ _ _
   | exact ih1 _ _ _ _ _ _ _ _ _ _ _ _
   | exact ih2 _ _ _ _ _ _ _ _ _ _ _ _ _
   | exact ih3 _ _ _ _ _ _ _ _ _ _ _ _ _
   | exact ih4 _ _ _ _ _ _ _ _ _ _ _ _
   | exact ih5 _ _ _ _ _ _ _ _ _ _ _ _ _ _
   | exact flow_Ahead.mono _ _ _ _ _ _ _
   | exact truantlaw10_awake.mono _
   | exact LeO.none _
   | refine LeO.ite ?_ ?_
   | refine LeO.bind ?_ (fun _ => ?_)
def truantlaw10_DomChain.T23 : Bool × List (List Nat × List Nat) := (true, [([], []), ([], []), ([0, 1], [0, 1]), ([2], [2]), ([3], [3]), ([3], [3]), ([3], [3]), ([3], [3]), ([6, 7, 3], [3, 6, 7]), ([8, 3], [3, 8]), ([4, 5, 9, 3, 3], [3, 4, 5, 9]), ([10, 3], [3, 10]), ([3, 11], [3, 11])])
def truantlaw10_DomChain.B23 : List Nat := [0, 0, 3, 7, 15, 15, 15, 15, 207, 463, 1023, 2047, 4095]
theorem truantlaw10_DomChain.tab23 : rtab .any (opsOf Try.f12 23) = truantlaw10_DomChain.T23 := by kernel_rfl
theorem truantlaw10_DomChain.bits23 : waitsOk truantlaw10_DomChain.T23.2 truantlaw10_DomChain.B23 = true := by kernel_rfl
def truantlaw10_DomChain.T35 : Bool × List (List Nat × List Nat) := (true, [([], []), ([], []), ([0, 1], [0, 1]), ([2], [2]), ([], []), ([3, 4], [3, 4]), ([5], [5]), ([], []), ([6, 7], [6, 7]), ([8], [8]), ([9], [9]), ([9], [9]), ([9], [9]), ([9], [9]), ([12, 13, 9], [9, 12, 13]), ([14, 9], [9, 14]), ([9], [9]), ([15, 16, 9], [9, 15, 16]), ([17, 9], [9, 17]), ([10, 11, 18, 9, 9], [9, 10, 11, 18]), ([9, 19], [9, 19])])
def truantlaw10_DomChain.B35 : List Nat := [0, 0, 3, 7, 0, 31, 63, 0, 255, 511, 1023, 1023, 1023, 1023, 13311, 29695, 1023, 127999, 259071, 524287, 1048575]
theorem truantlaw10_DomChain.tab35 : rtab .any (opsOf Try.f12 35) = truantlaw10_DomChain.T35 := by kernel_rfl
theorem truantlaw10_DomChain.bits35 : waitsOk truantlaw10_DomChain.T35.2 truantlaw10_DomChain.B35 = true := by kernel_rfl
def truantlaw10_DomChain.T37 : Bool × List (List Nat × List Nat) := (true, [([], []), ([0], [0]), ([1], [1]), ([2], [2]), ([2], [2]), ([3, 4, 2], [2, 3, 4]), ([5, 2], [2, 5]), ([6, 2], [2, 6]), ([7, 2], [2, 7]), ([2, 8], [2, 8]), ([9, 2], [9]), ([10], [10]), ([10], [10]), ([11, 12, 10], [10, 11, 12]), ([13, 10], [10, 13]), ([10], [10]), ([10], [10]), ([15, 16, 10], [10, 15, 16]), ([17, 10], [10, 17]), ([18, 10], [10, 18]), ([19, 10], [10, 19]), ([14, 20, 10], [10, 14, 20]), ([10, 21], [10, 21])])
def truantlaw10_DomChain.B37 : List Nat := [0, 1, 3, 7, 7, 31, 63, 127, 255, 511, 1023, 2047, 2047, 8191, 16383, 2047, 2047, 100351, 231423, 493567, 1017855, 2097151, 4194303]
theorem truantlaw10_DomChain.tab37 : rtab .any (opsOf Try.f12 37) = truantlaw10_DomChain.T37 := by kernel_rfl
theorem truantlaw10_DomChain.bits37 : waitsOk truantlaw10_DomChain.T37.2 truantlaw10_DomChain.B37 = true := by kernel_rfl
set_option maxHeartbeats 8000000 in
set_option maxRecDepth 100000 in
theorem truantlaw10_DomChain.calls (k : Nat) (a0_0 : ByteArray) (A0_1 : Option Addr) (c0_1 : Nat) (l0_1 : List ByteArray) (a0_2 : ByteArray) (A0_3 : Option Addr) (c0_3 : Nat) (l0_3 : List ByteArray) (A0_4 : Option Addr) (c0_4 : Nat) (l0_4 : List (S58)) (A0_5 : Option Addr) (c0_5 : Nat) (l0_5 : List (S40)) (r : Bool) (w : World) (hr0_1 : Kd.C Kd.string w A0_1 l0_1.length l0_1) (hc0_1 : l0_1.length ≤ c0_1) (hr0_3 : Kd.C Kd.string w A0_3 l0_3.length l0_3) (hc0_3 : l0_3.length ≤ c0_3) (hr0_4 : Kd.C k58 w A0_4 l0_4.length l0_4) (hc0_4 : l0_4.length ≤ c0_4) (hr0_5 : Kd.C k40 w A0_5 l0_5.length l0_5) (hc0_5 : l0_5.length ≤ c0_5) (h : truantlaw10_DomChain.f k a0_0 l0_1 a0_2 l0_3 l0_4 l0_5 = some r) :
  Calls Try.prog 12 #[.agg #[.string a0_0, .slice A0_1 l0_1.length c0_1, .string a0_2, .slice A0_3 l0_3.length c0_3, .slice A0_4 l0_4.length c0_4, .slice A0_5 l0_5.length c0_5]] w fun e w' => e = .returned (.bool r) ∧ Below w.heap.size w w' := by
 have hu26 := Try.underlying26
 have HR0_1 := Aside0.mk hr0_1
 have HC0_1 := Aside0.mk hc0_1
 clear hr0_1 hc0_1
 have HR0_3 := Aside0.mk hr0_3
 have HC0_3 := Aside0.mk hc0_3
 clear hr0_3 hc0_3
 have HR0_4 := Aside0.mk hr0_4
 have HC0_4 := Aside0.mk hc0_4
 clear hr0_4 hc0_4
 have HR0_5 := Aside0.mk hr0_5
 have HC0_5 := Aside0.mk hc0_5
 clear hr0_5 hc0_5
 have HB := Aside0.mk (Below.refl w.heap.size w)
 have H : ((truantlaw10_awake.f k).bind fun t436 => (if t436 = true then ((truantlaw10_wide.f a0_0 l0_1 a0_2 l0_3 l0_4 l0_5).bind fun t437 => (if t437 = true then (some true) else ((dom_Nearest.f a0_0 l0_1 a0_2 l0_3 l0_4 l0_5).bind fun t438 => ((dom_Front.f a0_0 l0_1 a0_2 l0_3 l0_4 l0_5).bind fun t441 => ((flow_Reached.f a0_0 l0_1 a0_2 l0_3 l0_4 l0_5).bind fun t444 => ((flow_Ahead.f k a0_0 l0_1 a0_2 l0_3 l0_4 l0_5).bind fun t447 => (truantlaw10_DomChain.l0 k t438 t441 t444 t447 0 a0_0 l0_1 a0_2 l0_3 l0_4 l0_5))))))) else (none))) = some r := h
 clear h
 replace H := Option.bind_eq_some_iff.mp H
 obtain ⟨t436, A20, H⟩ := H
 replace H : (if t436 = true then ((truantlaw10_wide.f a0_0 l0_1 a0_2 l0_3 l0_4 l0_5).bind fun t437 => (if t437 = true then (some true) else ((dom_Nearest.f a0_0 l0_1 a0_2 l0_3 l0_4 l0_5).bind fun t438 => ((dom_Front.f a0_0 l0_1 a0_2 l0_3 l0_4 l0_5).bind fun t441 => ((flow_Reached.f a0_0 l0_1 a0_2 l0_3 l0_4 l0_5).bind fun t444 => ((flow_Ahead.f k a0_0 l0_1 a0_2 l0_3 l0_4 l0_5).bind fun t447 => (truantlaw10_DomChain.l0 k t438 t441 t444 t447 0 a0_0 l0_1 a0_2 l0_3 l0_4 l0_5))))))) else (none)) = some r := H
 have A2 := Aside0.mk A20
 clear A20
 by_cases c3 : t436 = true
 rotate_left
 ·replace c3 := Bool.eq_false_iff.mpr c3
  subst c3
  have H1 : (none) = some r := by rw [if_neg (show ¬ (false = true) by decide)] at H; exact H
  clear H
  have H := H1
  clear H1
  exact absurd H (by simp)
 subst c3
 have H1 : ((truantlaw10_wide.f a0_0 l0_1 a0_2 l0_3 l0_4 l0_5).bind fun t437 => (if t437 = true then (some true) else ((dom_Nearest.f a0_0 l0_1 a0_2 l0_3 l0_4 l0_5).bind fun t438 => ((dom_Front.f a0_0 l0_1 a0_2 l0_3 l0_4 l0_5).bind fun t441 => ((flow_Reached.f a0_0 l0_1 a0_2 l0_3 l0_4 l0_5).bind fun t444 => ((flow_Ahead.f k a0_0 l0_1 a0_2 l0_3 l0_4 l0_5).bind fun t447 => (truantlaw10_DomChain.l0 k t438 t441 t444 t447 0 a0_0 l0_1 a0_2 l0_3 l0_4 l0_5))))))) = some r := by rw [if_pos rfl] at H; exact H
 clear H
 have H := H1
 clear H1
 replace H := Option.bind_eq_some_iff.mp H
 obtain ⟨t437, A40, H⟩ := H
 replace H : (if t437 = true then (some true) else ((dom_Nearest.f a0_0 l0_1 a0_2 l0_3 l0_4 l0_5).bind fun t438 => ((dom_Front.f a0_0 l0_1 a0_2 l0_3 l0_4 l0_5).bind fun t441 => ((flow_Reached.f a0_0 l0_1 a0_2 l0_3 l0_4 l0_5).bind fun t444 => ((flow_Ahead.f k a0_0 l0_1 a0_2 l0_3 l0_4 l0_5).bind fun t447 => (truantlaw10_DomChain.l0 k t438 t441 t444 t447 0 a0_0 l0_1 a0_2 l0_3 l0_4 l0_5)))))) = some r := H
 have A4 := Aside0.mk A40
 clear A40
 by_cases c5 : t437 = true
 ·subst c5
  have H1 : (some true) = some r := by rw [if_pos rfl] at H; exact H
  clear H
  have H := H1
  clear H1
  obtain rfl := Option.some.inj H
  go_enter Try.func12, Try.ntmps12
  go_wp2_with (first | ((with_reducible refine gate_dst (N := 1) rfl ?_); (try (refine gate_guard (by rfl) ?_; dsimp only)); refine box_event ?hg (N := 1) ?hd (cs := #[.string a0_0, .slice A0_1 l0_1.length c0_1, .string a0_2, .slice A0_3 l0_3.length c0_3, .slice A0_4 l0_4.length c0_4, .slice A0_5 l0_5.length c0_5]) (t := 26) ?hr ?_; (case hd => rfl); (case hg => rfl); (case hr => first | (go_simp; done) | (go_simp; rfl)); intro gb435 hg w6 hbox hb; have n0_ := Aside0.mk (below_step (by repeat (first | (with_reducible first | exact HB.out | apply below_alloc | apply pw_below_drewN | apply below_drew1) | exact HB.out)) hb); have n1_ := Aside0.mk (hbox); have n2_ := Aside0.mk ((by rw [hg]; exact (below_size (by repeat (first | (with_reducible first | exact HB.out | apply below_alloc | apply pw_below_drewN | apply below_drew1) | exact HB.out))) : w.heap.size ≤ gb435)); have n3_ := Aside0.mk ((by rw [hg]; exact (below_size (by repeat (first | (with_reducible first | exact HB.out | apply below_alloc | apply pw_below_drewN | apply below_drew1) | exact HB.out))) : w.heap.size ≤ gb435)); clear HB; have HB := n0_; have BK435 := n1_; have GW435 := n2_; have GE435 := n3_; clear n0_ n1_ n2_ n3_; clear hb hbox hg) | ((with_reducible refine gate_callee (f := 38) rfl ?_); refine goesL_ (some 13) rfl rfl Try.func38 (by kernel_rfl) rfl #[] rfl (by (try simp only [List.map_toArray, List.map_cons, List.map_nil]); first | done | rfl | (simp only [List.length_drop, List.length_take]; rfl)) ?_; (with_reducible refine (truantlaw10_awake.calls k  true _ A2.out).mono ?_); rintro e w7 ⟨rfl, hb⟩; refine ⟨_, rfl, ?_⟩; have n0_ := Aside0.mk (blk_below (g := gb435) (o := .cells #[.string a0_0, .slice A0_1 l0_1.length c0_1, .string a0_2, .slice A0_3 l0_3.length c0_3, .slice A0_4 l0_4.length c0_4, .slice A0_5 l0_5.length c0_5] 26 (0, 0)) (by (with_reducible repeat (first | refine blk_drewN ?_ _ | refine blk_drew ?_ | refine blk_alloc ?_ _)); exact BK435.out) hb); have n1_ := Aside0.mk (below_step (by repeat (first | (with_reducible first | exact HB.out | apply below_alloc | apply pw_below_drewN | apply below_drew1 | refine below_set ?_ GE435.out) | exact HB.out)) hb); clear BK435; clear HB; have BK435 := n0_; have HB := n1_; clear n0_ n1_; (try clear hb); (try clear hb2); (try clear hk); (try clear hi); have hcz8_0 : w7.cell? ⟨gb435, 0, none⟩ = some (.string a0_0) := (blk_cell BK435.out 0).trans rfl; have hcz8_1 : w7.cell? ⟨gb435, 1, none⟩ = some (.slice A0_1 l0_1.length c0_1) := (blk_cell BK435.out 1).trans rfl; have hcz8_2 : w7.cell? ⟨gb435, 2, none⟩ = some (.string a0_2) := (blk_cell BK435.out 2).trans rfl; have hcz8_3 : w7.cell? ⟨gb435, 3, none⟩ = some (.slice A0_3 l0_3.length c0_3) := (blk_cell BK435.out 3).trans rfl; have hcz8_4 : w7.cell? ⟨gb435, 4, none⟩ = some (.slice A0_4 l0_4.length c0_4) := (blk_cell BK435.out 4).trans rfl; have hcz8_5 : w7.cell? ⟨gb435, 5, none⟩ = some (.slice A0_5 l0_5.length c0_5) := (blk_cell BK435.out 5).trans rfl; have hfz8_0 := blk_frozen BK435.out 0; have hfz8_1 := blk_frozen BK435.out 1; have hfz8_2 := blk_frozen BK435.out 2; have hfz8_3 := blk_frozen BK435.out 3; have hfz8_4 := blk_frozen BK435.out 4; have hfz8_5 := blk_frozen BK435.out 5) | ((with_reducible refine gate_callee (f := 39) rfl ?_); refine goesL_ (some 16) rfl rfl Try.func39 (by kernel_rfl) rfl #[.agg #[.string a0_0, .slice A0_1 l0_1.length c0_1, .string a0_2, .slice A0_3 l0_3.length c0_3, .slice A0_4 l0_4.length c0_4, .slice A0_5 l0_5.length c0_5]] rfl (by (try simp only [List.map_toArray, List.map_cons, List.map_nil]); first | done | rfl | (simp only [List.length_drop, List.length_take]; rfl)) ?_; (with_reducible refine (truantlaw10_wide.calls a0_0 _ _ l0_1 a0_2 _ _ l0_3 _ _ l0_4 _ _ l0_5 true _ ?side1 ?side2 ?side3 ?side4 ?side5 ?side6 ?side7 ?side8 A4.out).mono ?_); (case side1 => repeat (first | exact (Kd.C_below HR0_1.out HB.out) | (with_reducible refine Kd.C_alloc ?_ _) | (with_reducible refine Kd.C_drewN ?_ _) | (with_reducible refine Kd.C_drew ?_))); (case side2 => exact HC0_1.out); (case side3 => repeat (first | exact (Kd.C_below HR0_3.out HB.out) | (with_reducible refine Kd.C_alloc ?_ _) | (with_reducible refine Kd.C_drewN ?_ _) | (with_reducible refine Kd.C_drew ?_))); (case side4 => exact HC0_3.out); (case side5 => repeat (first | exact (Kd.C_below HR0_4.out HB.out) | (with_reducible refine Kd.C_alloc ?_ _) | (with_reducible refine Kd.C_drewN ?_ _) | (with_reducible refine Kd.C_drew ?_))); (case side6 => exact HC0_4.out); (case side7 => repeat (first | exact (Kd.C_below HR0_5.out HB.out) | (with_reducible refine Kd.C_alloc ?_ _) | (with_reducible refine Kd.C_drewN ?_ _) | (with_reducible refine Kd.C_drew ?_))); (case side8 => exact HC0_5.out); rintro e w9 ⟨rfl, hb⟩; refine ⟨_, rfl, ?_⟩; have n0_ := Aside0.mk (blk_below (g := gb435) (o := .cells #[.string a0_0, .slice A0_1 l0_1.length c0_1, .string a0_2, .slice A0_3 l0_3.length c0_3, .slice A0_4 l0_4.length c0_4, .slice A0_5 l0_5.length c0_5] 26 (0, 0)) (by (with_reducible repeat (first | refine blk_drewN ?_ _ | refine blk_drew ?_ | refine blk_alloc ?_ _)); exact BK435.out) hb); have n1_ := Aside0.mk (below_step (by repeat (first | (with_reducible first | exact HB.out | apply below_alloc | apply pw_below_drewN | apply below_drew1 | refine below_set ?_ GE435.out) | exact HB.out)) hb); clear BK435; clear HB; have BK435 := n0_; have HB := n1_; clear n0_ n1_; (try clear hb); (try clear hb2); (try clear hk); (try clear hi)))
  go_ret
  exact ⟨by first | rfl | (simp [errW_none, errW_some] <;> rfl) | (simp [*, errW_none, errW_some] <;> rfl), by repeat (first | (with_reducible first | exact HB.out | apply below_alloc | apply pw_below_drewN | apply below_drew1 | refine below_set ?_ GE435.out) | exact HB.out)⟩
 replace c5 := Bool.eq_false_iff.mpr c5
 subst c5
 have H1 : ((dom_Nearest.f a0_0 l0_1 a0_2 l0_3 l0_4 l0_5).bind fun t438 => ((dom_Front.f a0_0 l0_1 a0_2 l0_3 l0_4 l0_5).bind fun t441 => ((flow_Reached.f a0_0 l0_1 a0_2 l0_3 l0_4 l0_5).bind fun t444 => ((flow_Ahead.f k a0_0 l0_1 a0_2 l0_3 l0_4 l0_5).bind fun t447 => (truantlaw10_DomChain.l0 k t438 t441 t444 t447 0 a0_0 l0_1 a0_2 l0_3 l0_4 l0_5))))) = some r := by rw [if_neg (show ¬ (false = true) by decide)] at H; exact H
 clear H
 have H := H1
 clear H1
 replace H := Option.bind_eq_some_iff.mp H
 obtain ⟨t438, A100, H⟩ := H
 replace H : ((dom_Front.f a0_0 l0_1 a0_2 l0_3 l0_4 l0_5).bind fun t441 => ((flow_Reached.f a0_0 l0_1 a0_2 l0_3 l0_4 l0_5).bind fun t444 => ((flow_Ahead.f k a0_0 l0_1 a0_2 l0_3 l0_4 l0_5).bind fun t447 => (truantlaw10_DomChain.l0 k t438 t441 t444 t447 0 a0_0 l0_1 a0_2 l0_3 l0_4 l0_5)))) = some r := H
 have A10 := Aside0.mk A100
 clear A100
 replace H := Option.bind_eq_some_iff.mp H
 obtain ⟨t441, A110, H⟩ := H
 replace H : ((flow_Reached.f a0_0 l0_1 a0_2 l0_3 l0_4 l0_5).bind fun t444 => ((flow_Ahead.f k a0_0 l0_1 a0_2 l0_3 l0_4 l0_5).bind fun t447 => (truantlaw10_DomChain.l0 k t438 t441 t444 t447 0 a0_0 l0_1 a0_2 l0_3 l0_4 l0_5))) = some r := H
 have A11 := Aside0.mk A110
 clear A110
 replace H := Option.bind_eq_some_iff.mp H
 obtain ⟨t444, A120, H⟩ := H
 replace H : ((flow_Ahead.f k a0_0 l0_1 a0_2 l0_3 l0_4 l0_5).bind fun t447 => (truantlaw10_DomChain.l0 k t438 t441 t444 t447 0 a0_0 l0_1 a0_2 l0_3 l0_4 l0_5)) = some r := H
 have A12 := Aside0.mk A120
 clear A120
 replace H := Option.bind_eq_some_iff.mp H
 obtain ⟨t447, A130, H⟩ := H
 replace H : (truantlaw10_DomChain.l0 k t438 t441 t444 t447 0 a0_0 l0_1 a0_2 l0_3 l0_4 l0_5) = some r := H
 have A13 := Aside0.mk A130
 clear A130
 have H' := Aside0.mk H
 clear H
 go_enter Try.func12, Try.ntmps12
 go_wp2_with (first | ((with_reducible refine gate_dst (N := 1) rfl ?_); (try (refine gate_guard (by rfl) ?_; dsimp only)); refine box_event ?hg (N := 1) ?hd (cs := #[.string a0_0, .slice A0_1 l0_1.length c0_1, .string a0_2, .slice A0_3 l0_3.length c0_3, .slice A0_4 l0_4.length c0_4, .slice A0_5 l0_5.length c0_5]) (t := 26) ?hr ?_; (case hd => rfl); (case hg => rfl); (case hr => first | (go_simp; done) | (go_simp; rfl)); intro gb435 hg w14 hbox hb; have n0_ := Aside0.mk (below_step (by repeat (first | (with_reducible first | exact HB.out | apply below_alloc | apply pw_below_drewN | apply below_drew1) | exact HB.out)) hb); have n1_ := Aside0.mk (hbox); have n2_ := Aside0.mk ((by rw [hg]; exact (below_size (by repeat (first | (with_reducible first | exact HB.out | apply below_alloc | apply pw_below_drewN | apply below_drew1) | exact HB.out))) : w.heap.size ≤ gb435)); have n3_ := Aside0.mk ((by rw [hg]; exact (below_size (by repeat (first | (with_reducible first | exact HB.out | apply below_alloc | apply pw_below_drewN | apply below_drew1) | exact HB.out))) : w.heap.size ≤ gb435)); clear HB; have HB := n0_; have BK435 := n1_; have GW435 := n2_; have GE435 := n3_; clear n0_ n1_ n2_ n3_; clear hb hbox hg) | ((with_reducible refine gate_callee (f := 38) rfl ?_); refine goesL_ (some 13) rfl rfl Try.func38 (by kernel_rfl) rfl #[] rfl (by (try simp only [List.map_toArray, List.map_cons, List.map_nil]); first | done | rfl | (simp only [List.length_drop, List.length_take]; rfl)) ?_; (with_reducible refine (truantlaw10_awake.calls k  true _ A2.out).mono ?_); rintro e w15 ⟨rfl, hb⟩; refine ⟨_, rfl, ?_⟩; have n0_ := Aside0.mk (blk_below (g := gb435) (o := .cells #[.string a0_0, .slice A0_1 l0_1.length c0_1, .string a0_2, .slice A0_3 l0_3.length c0_3, .slice A0_4 l0_4.length c0_4, .slice A0_5 l0_5.length c0_5] 26 (0, 0)) (by (with_reducible repeat (first | refine blk_drewN ?_ _ | refine blk_drew ?_ | refine blk_alloc ?_ _)); exact BK435.out) hb); have n1_ := Aside0.mk (below_step (by repeat (first | (with_reducible first | exact HB.out | apply below_alloc | apply pw_below_drewN | apply below_drew1 | refine below_set ?_ GE435.out) | exact HB.out)) hb); clear BK435; clear HB; have BK435 := n0_; have HB := n1_; clear n0_ n1_; (try clear hb); (try clear hb2); (try clear hk); (try clear hi); have hcz16_0 : w15.cell? ⟨gb435, 0, none⟩ = some (.string a0_0) := (blk_cell BK435.out 0).trans rfl; have hcz16_1 : w15.cell? ⟨gb435, 1, none⟩ = some (.slice A0_1 l0_1.length c0_1) := (blk_cell BK435.out 1).trans rfl; have hcz16_2 : w15.cell? ⟨gb435, 2, none⟩ = some (.string a0_2) := (blk_cell BK435.out 2).trans rfl; have hcz16_3 : w15.cell? ⟨gb435, 3, none⟩ = some (.slice A0_3 l0_3.length c0_3) := (blk_cell BK435.out 3).trans rfl; have hcz16_4 : w15.cell? ⟨gb435, 4, none⟩ = some (.slice A0_4 l0_4.length c0_4) := (blk_cell BK435.out 4).trans rfl; have hcz16_5 : w15.cell? ⟨gb435, 5, none⟩ = some (.slice A0_5 l0_5.length c0_5) := (blk_cell BK435.out 5).trans rfl; have hfz16_0 := blk_frozen BK435.out 0; have hfz16_1 := blk_frozen BK435.out 1; have hfz16_2 := blk_frozen BK435.out 2; have hfz16_3 := blk_frozen BK435.out 3; have hfz16_4 := blk_frozen BK435.out 4; have hfz16_5 := blk_frozen BK435.out 5) | ((with_reducible refine gate_callee (f := 39) rfl ?_); refine goesL_ (some 16) rfl rfl Try.func39 (by kernel_rfl) rfl #[.agg #[.string a0_0, .slice A0_1 l0_1.length c0_1, .string a0_2, .slice A0_3 l0_3.length c0_3, .slice A0_4 l0_4.length c0_4, .slice A0_5 l0_5.length c0_5]] rfl (by (try simp only [List.map_toArray, List.map_cons, List.map_nil]); first | done | rfl | (simp only [List.length_drop, List.length_take]; rfl)) ?_; (with_reducible refine (truantlaw10_wide.calls a0_0 _ _ l0_1 a0_2 _ _ l0_3 _ _ l0_4 _ _ l0_5 false _ ?side1 ?side2 ?side3 ?side4 ?side5 ?side6 ?side7 ?side8 A4.out).mono ?_); (case side1 => repeat (first | exact (Kd.C_below HR0_1.out HB.out) | (with_reducible refine Kd.C_alloc ?_ _) | (with_reducible refine Kd.C_drewN ?_ _) | (with_reducible refine Kd.C_drew ?_))); (case side2 => exact HC0_1.out); (case side3 => repeat (first | exact (Kd.C_below HR0_3.out HB.out) | (with_reducible refine Kd.C_alloc ?_ _) | (with_reducible refine Kd.C_drewN ?_ _) | (with_reducible refine Kd.C_drew ?_))); (case side4 => exact HC0_3.out); (case side5 => repeat (first | exact (Kd.C_below HR0_4.out HB.out) | (with_reducible refine Kd.C_alloc ?_ _) | (with_reducible refine Kd.C_drewN ?_ _) | (with_reducible refine Kd.C_drew ?_))); (case side6 => exact HC0_4.out); (case side7 => repeat (first | exact (Kd.C_below HR0_5.out HB.out) | (with_reducible refine Kd.C_alloc ?_ _) | (with_reducible refine Kd.C_drewN ?_ _) | (with_reducible refine Kd.C_drew ?_))); (case side8 => exact HC0_5.out); rintro e w17 ⟨rfl, hb⟩; refine ⟨_, rfl, ?_⟩; have n0_ := Aside0.mk (blk_below (g := gb435) (o := .cells #[.string a0_0, .slice A0_1 l0_1.length c0_1, .string a0_2, .slice A0_3 l0_3.length c0_3, .slice A0_4 l0_4.length c0_4, .slice A0_5 l0_5.length c0_5] 26 (0, 0)) (by (with_reducible repeat (first | refine blk_drewN ?_ _ | refine blk_drew ?_ | refine blk_alloc ?_ _)); exact BK435.out) hb); have n1_ := Aside0.mk (below_step (by repeat (first | (with_reducible first | exact HB.out | apply below_alloc | apply pw_below_drewN | apply below_drew1 | refine below_set ?_ GE435.out) | exact HB.out)) hb); clear BK435; clear HB; have BK435 := n0_; have HB := n1_; clear n0_ n1_; (try clear hb); (try clear hb2); (try clear hk); (try clear hi); have hcz18_0 : w17.cell? ⟨gb435, 0, none⟩ = some (.string a0_0) := (blk_cell BK435.out 0).trans rfl; have hcz18_1 : w17.cell? ⟨gb435, 1, none⟩ = some (.slice A0_1 l0_1.length c0_1) := (blk_cell BK435.out 1).trans rfl; have hcz18_2 : w17.cell? ⟨gb435, 2, none⟩ = some (.string a0_2) := (blk_cell BK435.out 2).trans rfl; have hcz18_3 : w17.cell? ⟨gb435, 3, none⟩ = some (.slice A0_3 l0_3.length c0_3) := (blk_cell BK435.out 3).trans rfl; have hcz18_4 : w17.cell? ⟨gb435, 4, none⟩ = some (.slice A0_4 l0_4.length c0_4) := (blk_cell BK435.out 4).trans rfl; have hcz18_5 : w17.cell? ⟨gb435, 5, none⟩ = some (.slice A0_5 l0_5.length c0_5) := (blk_cell BK435.out 5).trans rfl; have hfz18_0 := blk_frozen BK435.out 0; have hfz18_1 := blk_frozen BK435.out 1; have hfz18_2 := blk_frozen BK435.out 2; have hfz18_3 := blk_frozen BK435.out 3; have hfz18_4 := blk_frozen BK435.out 4; have hfz18_5 := blk_frozen BK435.out 5) | ((with_reducible refine gate_callee (f := 40) rfl ?_); refine goesL_ (some 18) rfl rfl Try.func40 (by kernel_rfl) rfl #[.agg #[.string a0_0, .slice A0_1 l0_1.length c0_1, .string a0_2, .slice A0_3 l0_3.length c0_3, .slice A0_4 l0_4.length c0_4, .slice A0_5 l0_5.length c0_5]] rfl (by (try simp only [List.map_toArray, List.map_cons, List.map_nil]); first | done | rfl | (simp only [List.length_drop, List.length_take]; rfl)) ?_; (with_reducible refine (dom_Nearest.calls a0_0 _ _ l0_1 a0_2 _ _ l0_3 _ _ l0_4 _ _ l0_5 t438 _ ?side1 ?side2 ?side3 ?side4 ?side5 ?side6 ?side7 ?side8 A10.out).mono ?_); (case side1 => repeat (first | exact (Kd.C_below HR0_1.out HB.out) | (with_reducible refine Kd.C_alloc ?_ _) | (with_reducible refine Kd.C_drewN ?_ _) | (with_reducible refine Kd.C_drew ?_))); (case side2 => exact HC0_1.out); (case side3 => repeat (first | exact (Kd.C_below HR0_3.out HB.out) | (with_reducible refine Kd.C_alloc ?_ _) | (with_reducible refine Kd.C_drewN ?_ _) | (with_reducible refine Kd.C_drew ?_))); (case side4 => exact HC0_3.out); (case side5 => repeat (first | exact (Kd.C_below HR0_4.out HB.out) | (with_reducible refine Kd.C_alloc ?_ _) | (with_reducible refine Kd.C_drewN ?_ _) | (with_reducible refine Kd.C_drew ?_))); (case side6 => exact HC0_4.out); (case side7 => repeat (first | exact (Kd.C_below HR0_5.out HB.out) | (with_reducible refine Kd.C_alloc ?_ _) | (with_reducible refine Kd.C_drewN ?_ _) | (with_reducible refine Kd.C_drew ?_))); (case side8 => exact HC0_5.out); rintro e w19 ⟨v439, rfl, ho0, hb⟩; refine ⟨_, rfl, ?_⟩; have n0_ := Aside0.mk (Kd.R_lower ho0 (below_size (by repeat (first | (with_reducible first | exact HB.out | apply below_alloc | apply pw_below_drewN | apply below_drew1 | refine below_set ?_ GE435.out) | exact HB.out)))); have n1_ := Aside0.mk (blk_below (g := gb435) (o := .cells #[.string a0_0, .slice A0_1 l0_1.length c0_1, .string a0_2, .slice A0_3 l0_3.length c0_3, .slice A0_4 l0_4.length c0_4, .slice A0_5 l0_5.length c0_5] 26 (0, 0)) (by (with_reducible repeat (first | refine blk_drewN ?_ _ | refine blk_drew ?_ | refine blk_alloc ?_ _)); exact BK435.out) hb); have n2_ := Aside0.mk (below_step (by repeat (first | (with_reducible first | exact HB.out | apply below_alloc | apply pw_below_drewN | apply below_drew1 | refine below_set ?_ GE435.out) | exact HB.out)) hb); clear BK435; clear HB; have HO440 := n0_; have BK435 := n1_; have HB := n2_; clear n0_ n1_ n2_; (try clear hb); (try clear hb2); (try clear hk); (try clear hi); (try clear ho0); have hcz20_0 : w19.cell? ⟨gb435, 0, none⟩ = some (.string a0_0) := (blk_cell BK435.out 0).trans rfl; have hcz20_1 : w19.cell? ⟨gb435, 1, none⟩ = some (.slice A0_1 l0_1.length c0_1) := (blk_cell BK435.out 1).trans rfl; have hcz20_2 : w19.cell? ⟨gb435, 2, none⟩ = some (.string a0_2) := (blk_cell BK435.out 2).trans rfl; have hcz20_3 : w19.cell? ⟨gb435, 3, none⟩ = some (.slice A0_3 l0_3.length c0_3) := (blk_cell BK435.out 3).trans rfl; have hcz20_4 : w19.cell? ⟨gb435, 4, none⟩ = some (.slice A0_4 l0_4.length c0_4) := (blk_cell BK435.out 4).trans rfl; have hcz20_5 : w19.cell? ⟨gb435, 5, none⟩ = some (.slice A0_5 l0_5.length c0_5) := (blk_cell BK435.out 5).trans rfl; have hfz20_0 := blk_frozen BK435.out 0; have hfz20_1 := blk_frozen BK435.out 1; have hfz20_2 := blk_frozen BK435.out 2; have hfz20_3 := blk_frozen BK435.out 3; have hfz20_4 := blk_frozen BK435.out 4; have hfz20_5 := blk_frozen BK435.out 5) | ((with_reducible refine gate_callee (f := 45) rfl ?_); refine goesL_ (some 20) rfl rfl Try.func45 (by kernel_rfl) rfl #[.agg #[.string a0_0, .slice A0_1 l0_1.length c0_1, .string a0_2, .slice A0_3 l0_3.length c0_3, .slice A0_4 l0_4.length c0_4, .slice A0_5 l0_5.length c0_5]] rfl (by (try simp only [List.map_toArray, List.map_cons, List.map_nil]); first | done | rfl | (simp only [List.length_drop, List.length_take]; rfl)) ?_; (with_reducible refine (dom_Front.calls a0_0 _ _ l0_1 a0_2 _ _ l0_3 _ _ l0_4 _ _ l0_5 t441 _ ?side1 ?side2 ?side3 ?side4 ?side5 ?side6 ?side7 ?side8 A11.out).mono ?_); (case side1 => repeat (first | exact (Kd.C_below HR0_1.out HB.out) | (with_reducible refine Kd.C_alloc ?_ _) | (with_reducible refine Kd.C_drewN ?_ _) | (with_reducible refine Kd.C_drew ?_))); (case side2 => exact HC0_1.out); (case side3 => repeat (first | exact (Kd.C_below HR0_3.out HB.out) | (with_reducible refine Kd.C_alloc ?_ _) | (with_reducible refine Kd.C_drewN ?_ _) | (with_reducible refine Kd.C_drew ?_))); (case side4 => exact HC0_3.out); (case side5 => repeat (first | exact (Kd.C_below HR0_4.out HB.out) | (with_reducible refine Kd.C_alloc ?_ _) | (with_reducible refine Kd.C_drewN ?_ _) | (with_reducible refine Kd.C_drew ?_))); (case side6 => exact HC0_4.out); (case side7 => repeat (first | exact (Kd.C_below HR0_5.out HB.out) | (with_reducible refine Kd.C_alloc ?_ _) | (with_reducible refine Kd.C_drewN ?_ _) | (with_reducible refine Kd.C_drew ?_))); (case side8 => exact HC0_5.out); rintro e w21 ⟨v442, rfl, ho0, hb⟩; refine ⟨_, rfl, ?_⟩; have n0_ := Aside0.mk (Kd.R_below (by (with_reducible repeat (first | apply Kd.R_alloc | apply Kd.R_drewN | apply Kd.R_drew)); exact HO440.out) hb); have n1_ := Aside0.mk (Kd.S_lower (Kd.S_new' ho0 (Kd.R_lt (by (with_reducible repeat (first | apply Kd.R_alloc | apply Kd.R_drewN | apply Kd.R_drew)); exact HO440.out))) (below_size (by repeat (first | (with_reducible first | exact HB.out | apply below_alloc | apply pw_below_drewN | apply below_drew1 | refine below_set ?_ GE435.out) | exact HB.out)))); have n2_ := Aside0.mk (blk_below (g := gb435) (o := .cells #[.string a0_0, .slice A0_1 l0_1.length c0_1, .string a0_2, .slice A0_3 l0_3.length c0_3, .slice A0_4 l0_4.length c0_4, .slice A0_5 l0_5.length c0_5] 26 (0, 0)) (by (with_reducible repeat (first | refine blk_drewN ?_ _ | refine blk_drew ?_ | refine blk_alloc ?_ _)); exact BK435.out) hb); have n3_ := Aside0.mk (below_step (by repeat (first | (with_reducible first | exact HB.out | apply below_alloc | apply pw_below_drewN | apply below_drew1 | refine below_set ?_ GE435.out) | exact HB.out)) hb); clear HO440; clear BK435; clear HB; have HO440 := n0_; have HO443 := n1_; have BK435 := n2_; have HB := n3_; clear n0_ n1_ n2_ n3_; (try clear hb); (try clear hb2); (try clear hk); (try clear hi); (try clear ho0); have hcz22_0 : w21.cell? ⟨gb435, 0, none⟩ = some (.string a0_0) := (blk_cell BK435.out 0).trans rfl; have hcz22_1 : w21.cell? ⟨gb435, 1, none⟩ = some (.slice A0_1 l0_1.length c0_1) := (blk_cell BK435.out 1).trans rfl; have hcz22_2 : w21.cell? ⟨gb435, 2, none⟩ = some (.string a0_2) := (blk_cell BK435.out 2).trans rfl; have hcz22_3 : w21.cell? ⟨gb435, 3, none⟩ = some (.slice A0_3 l0_3.length c0_3) := (blk_cell BK435.out 3).trans rfl; have hcz22_4 : w21.cell? ⟨gb435, 4, none⟩ = some (.slice A0_4 l0_4.length c0_4) := (blk_cell BK435.out 4).trans rfl; have hcz22_5 : w21.cell? ⟨gb435, 5, none⟩ = some (.slice A0_5 l0_5.length c0_5) := (blk_cell BK435.out 5).trans rfl; have hfz22_0 := blk_frozen BK435.out 0; have hfz22_1 := blk_frozen BK435.out 1; have hfz22_2 := blk_frozen BK435.out 2; have hfz22_3 := blk_frozen BK435.out 3; have hfz22_4 := blk_frozen BK435.out 4; have hfz22_5 := blk_frozen BK435.out 5) | ((with_reducible refine gate_callee (f := 17) rfl ?_); refine goesL_ (some 22) rfl rfl Try.func17 (by kernel_rfl) rfl #[.agg #[.string a0_0, .slice A0_1 l0_1.length c0_1, .string a0_2, .slice A0_3 l0_3.length c0_3, .slice A0_4 l0_4.length c0_4, .slice A0_5 l0_5.length c0_5]] rfl (by (try simp only [List.map_toArray, List.map_cons, List.map_nil]); first | done | rfl | (simp only [List.length_drop, List.length_take]; rfl)) ?_; (with_reducible refine (flow_Reached.calls a0_0 _ _ l0_1 a0_2 _ _ l0_3 _ _ l0_4 _ _ l0_5 t444 _ ?side1 ?side2 ?side3 ?side4 ?side5 ?side6 ?side7 ?side8 A12.out).mono ?_); (case side1 => repeat (first | exact (Kd.C_below HR0_1.out HB.out) | (with_reducible refine Kd.C_alloc ?_ _) | (with_reducible refine Kd.C_drewN ?_ _) | (with_reducible refine Kd.C_drew ?_))); (case side2 => exact HC0_1.out); (case side3 => repeat (first | exact (Kd.C_below HR0_3.out HB.out) | (with_reducible refine Kd.C_alloc ?_ _) | (with_reducible refine Kd.C_drewN ?_ _) | (with_reducible refine Kd.C_drew ?_))); (case side4 => exact HC0_3.out); (case side5 => repeat (first | exact (Kd.C_below HR0_4.out HB.out) | (with_reducible refine Kd.C_alloc ?_ _) | (with_reducible refine Kd.C_drewN ?_ _) | (with_reducible refine Kd.C_drew ?_))); (case side6 => exact HC0_4.out); (case side7 => repeat (first | exact (Kd.C_below HR0_5.out HB.out) | (with_reducible refine Kd.C_alloc ?_ _) | (with_reducible refine Kd.C_drewN ?_ _) | (with_reducible refine Kd.C_drew ?_))); (case side8 => exact HC0_5.out); rintro e w23 ⟨v445, rfl, ho0, hb⟩; refine ⟨_, rfl, ?_⟩; have n0_ := Aside0.mk (Kd.R_below (by (with_reducible repeat (first | apply Kd.R_alloc | apply Kd.R_drewN | apply Kd.R_drew)); exact HO440.out) hb); have n1_ := Aside0.mk (Kd.S_below (by (with_reducible repeat (first | apply Kd.S_alloc | apply Kd.S_drewN | apply Kd.S_drew)); exact HO443.out) hb); have n2_ := Aside0.mk (Kd.R_lower ho0 (below_size (by repeat (first | (with_reducible first | exact HB.out | apply below_alloc | apply pw_below_drewN | apply below_drew1 | refine below_set ?_ GE435.out) | exact HB.out)))); have n3_ := Aside0.mk (blk_below (g := gb435) (o := .cells #[.string a0_0, .slice A0_1 l0_1.length c0_1, .string a0_2, .slice A0_3 l0_3.length c0_3, .slice A0_4 l0_4.length c0_4, .slice A0_5 l0_5.length c0_5] 26 (0, 0)) (by (with_reducible repeat (first | refine blk_drewN ?_ _ | refine blk_drew ?_ | refine blk_alloc ?_ _)); exact BK435.out) hb); have n4_ := Aside0.mk (below_step (by repeat (first | (with_reducible first | exact HB.out | apply below_alloc | apply pw_below_drewN | apply below_drew1 | refine below_set ?_ GE435.out) | exact HB.out)) hb); clear HO440; clear HO443; clear BK435; clear HB; have HO440 := n0_; have HO443 := n1_; have HO446 := n2_; have BK435 := n3_; have HB := n4_; clear n0_ n1_ n2_ n3_ n4_; (try clear hb); (try clear hb2); (try clear hk); (try clear hi); (try clear ho0); have hcz24_0 : w23.cell? ⟨gb435, 0, none⟩ = some (.string a0_0) := (blk_cell BK435.out 0).trans rfl; have hcz24_1 : w23.cell? ⟨gb435, 1, none⟩ = some (.slice A0_1 l0_1.length c0_1) := (blk_cell BK435.out 1).trans rfl; have hcz24_2 : w23.cell? ⟨gb435, 2, none⟩ = some (.string a0_2) := (blk_cell BK435.out 2).trans rfl; have hcz24_3 : w23.cell? ⟨gb435, 3, none⟩ = some (.slice A0_3 l0_3.length c0_3) := (blk_cell BK435.out 3).trans rfl; have hcz24_4 : w23.cell? ⟨gb435, 4, none⟩ = some (.slice A0_4 l0_4.length c0_4) := (blk_cell BK435.out 4).trans rfl; have hcz24_5 : w23.cell? ⟨gb435, 5, none⟩ = some (.slice A0_5 l0_5.length c0_5) := (blk_cell BK435.out 5).trans rfl; have hfz24_0 := blk_frozen BK435.out 0; have hfz24_1 := blk_frozen BK435.out 1; have hfz24_2 := blk_frozen BK435.out 2; have hfz24_3 := blk_frozen BK435.out 3; have hfz24_4 := blk_frozen BK435.out 4; have hfz24_5 := blk_frozen BK435.out 5) | ((with_reducible refine gate_callee (f := 16) rfl ?_); refine goesL_ (some 24) rfl rfl Try.func16 (by kernel_rfl) rfl #[.agg #[.string a0_0, .slice A0_1 l0_1.length c0_1, .string a0_2, .slice A0_3 l0_3.length c0_3, .slice A0_4 l0_4.length c0_4, .slice A0_5 l0_5.length c0_5]] rfl (by (try simp only [List.map_toArray, List.map_cons, List.map_nil]); first | done | rfl | (simp only [List.length_drop, List.length_take]; rfl)) ?_; (with_reducible refine (flow_Ahead.calls k a0_0 _ _ l0_1 a0_2 _ _ l0_3 _ _ l0_4 _ _ l0_5 t447 _ ?side1 ?side2 ?side3 ?side4 ?side5 ?side6 ?side7 ?side8 A13.out).mono ?_); (case side1 => repeat (first | exact (Kd.C_below HR0_1.out HB.out) | (with_reducible refine Kd.C_alloc ?_ _) | (with_reducible refine Kd.C_drewN ?_ _) | (with_reducible refine Kd.C_drew ?_))); (case side2 => exact HC0_1.out); (case side3 => repeat (first | exact (Kd.C_below HR0_3.out HB.out) | (with_reducible refine Kd.C_alloc ?_ _) | (with_reducible refine Kd.C_drewN ?_ _) | (with_reducible refine Kd.C_drew ?_))); (case side4 => exact HC0_3.out); (case side5 => repeat (first | exact (Kd.C_below HR0_4.out HB.out) | (with_reducible refine Kd.C_alloc ?_ _) | (with_reducible refine Kd.C_drewN ?_ _) | (with_reducible refine Kd.C_drew ?_))); (case side6 => exact HC0_4.out); (case side7 => repeat (first | exact (Kd.C_below HR0_5.out HB.out) | (with_reducible refine Kd.C_alloc ?_ _) | (with_reducible refine Kd.C_drewN ?_ _) | (with_reducible refine Kd.C_drew ?_))); (case side8 => exact HC0_5.out); rintro e w25 ⟨v448, rfl, ho0, hb⟩; refine ⟨_, rfl, ?_⟩; have n0_ := Aside0.mk (Kd.R_below (by (with_reducible repeat (first | apply Kd.R_alloc | apply Kd.R_drewN | apply Kd.R_drew)); exact HO440.out) hb); have n1_ := Aside0.mk (Kd.S_elder' (by (with_reducible repeat (first | apply Kd.S_alloc | apply Kd.S_drewN | apply Kd.S_drew)); exact HO443.out) (Kd.S_base ho0) hb); have n2_ := Aside0.mk (Kd.R_below (by (with_reducible repeat (first | apply Kd.R_alloc | apply Kd.R_drewN | apply Kd.R_drew)); exact HO446.out) hb); have n3_ := Aside0.mk (Kd.S_lower (Kd.S_new' (Kd.S_new' ho0 (Kd.R_lt (by (with_reducible repeat (first | apply Kd.R_alloc | apply Kd.R_drewN | apply Kd.R_drew)); exact HO440.out))) (Kd.S_lt (by (with_reducible repeat (first | apply Kd.S_alloc | apply Kd.S_drewN | apply Kd.S_drew)); exact HO443.out))) (below_size (by repeat (first | (with_reducible first | exact HB.out | apply below_alloc | apply pw_below_drewN | apply below_drew1 | refine below_set ?_ GE435.out) | exact HB.out)))); have n4_ := Aside0.mk (blk_below (g := gb435) (o := .cells #[.string a0_0, .slice A0_1 l0_1.length c0_1, .string a0_2, .slice A0_3 l0_3.length c0_3, .slice A0_4 l0_4.length c0_4, .slice A0_5 l0_5.length c0_5] 26 (0, 0)) (by (with_reducible repeat (first | refine blk_drewN ?_ _ | refine blk_drew ?_ | refine blk_alloc ?_ _)); exact BK435.out) hb); have n5_ := Aside0.mk (below_step (by repeat (first | (with_reducible first | exact HB.out | apply below_alloc | apply pw_below_drewN | apply below_drew1 | refine below_set ?_ GE435.out) | exact HB.out)) hb); clear HO440; clear HO443; clear HO446; clear BK435; clear HB; have HO440 := n0_; have HO443 := n1_; have HO446 := n2_; have HO449 := n3_; have BK435 := n4_; have HB := n5_; clear n0_ n1_ n2_ n3_ n4_ n5_; (try clear hb); (try clear hb2); (try clear hk); (try clear hi); (try clear ho0)))
 go_loopg [7] k (fun kq v7 w' => ∃ (x7_1 : Int), v7 = .int .i64 x7_1 ∧ Aside0 (truantlaw10_DomChain.l0 kq t438 t441 t444 t447 x7_1 a0_0 l0_1 a0_2 l0_3 l0_4 l0_5 = some r) ∧ Aside0 (kq ≤ k) ∧ Aside0 (Kd.R (Kd.int .i64) 3 w' w.heap.size (fun _ => True) v439 t438) ∧ Aside0 (Kd.S (Kd.slice 3 (Kd.int .i64)) 34 w' w.heap.size (fun k_ => some k_ ≠ (v439 : Value).ownBlock ∧ some k_ ≠ (v448 : Value).ownBlock) v442 t441) ∧ Aside0 (Kd.R Kd.bool 4 w' w.heap.size (fun _ => True) v445 t444) ∧ Aside0 (Kd.S (Kd.slice 3 (Kd.int .i64)) 34 w' w.heap.size (fun k_ => some k_ ≠ (v439 : Value).ownBlock ∧ some k_ ≠ (v442 : Value).ownBlock) v448 t447) ∧ Aside0 (w'.heap[gb435]? = some (.cells #[.string a0_0, (.slice A0_1 l0_1.length c0_1), .string a0_2, (.slice A0_3 l0_3.length c0_3), (.slice A0_4 l0_4.length c0_4), (.slice A0_5 l0_5.length c0_5)] 26 (0, 0))) ∧ Aside0 (Below w.heap.size w w'))
 case atStart => exact ⟨(0), (by first | rfl | (simp; done) | (simp [*]; done)), H', ⟨Nat.le_refl _⟩, ⟨by (with_reducible repeat (first | apply Kd.R_alloc | apply Kd.R_drewN | apply Kd.R_drew)); exact HO440.out⟩, ⟨by (with_reducible repeat (first | apply Kd.S_alloc | apply Kd.S_drewN | apply Kd.S_drew)); exact Kd.S_mono HO443.out (fun _ hk => ⟨hk.1.2, hk.2⟩)⟩, ⟨by (with_reducible repeat (first | apply Kd.R_alloc | apply Kd.R_drewN | apply Kd.R_drew)); exact HO446.out⟩, ⟨by (with_reducible repeat (first | apply Kd.S_alloc | apply Kd.S_drewN | apply Kd.S_drew)); exact Kd.S_mono HO449.out (fun _ hk => ⟨hk.1.2, hk.2⟩)⟩, ⟨by (with_reducible repeat (first | refine blk_drewN ?_ _ | refine blk_drew ?_ | refine blk_alloc ?_ _)); exact BK435.out⟩, ⟨by repeat (first | (with_reducible first | exact HB.out | apply below_alloc | apply pw_below_drewN | apply below_drew1 | refine below_set ?_ GE435.out) | exact HB.out)⟩⟩
 case round =>
  clear H'
  try clear c1
  try clear p2
  try clear c3
  try clear c4
  try clear c5
  try clear c12
  try clear c16
  try clear c17
  try clear hcz16_0
  try clear hcz16_1
  try clear hcz16_2
  try clear hcz16_3
  try clear hcz16_4
  try clear hcz16_5
  try clear hcz18_0
  try clear hcz18_1
  try clear hcz18_2
  try clear hcz18_3
  try clear hcz18_4
  try clear hcz18_5
  try clear hcz20_0
  try clear hcz20_1
  try clear hcz20_2
  try clear hcz20_3
  try clear hcz20_4
  try clear hcz20_5
  try clear hcz22_0
  try clear hcz22_1
  try clear hcz22_2
  try clear hcz22_3
  try clear hcz22_4
  try clear hcz22_5
  try clear hcz24_0
  try clear hcz24_1
  try clear hcz24_2
  try clear hcz24_3
  try clear hcz24_4
  try clear hcz24_5
  try clear hcz8_0
  try clear hcz8_1
  try clear hcz8_2
  try clear hcz8_3
  try clear hcz8_4
  try clear hcz8_5
  try clear hfz16_0
  try clear hfz16_1
  try clear hfz16_2
  try clear hfz16_3
  try clear hfz16_4
  try clear hfz16_5
  try clear hfz18_0
  try clear hfz18_1
  try clear hfz18_2
  try clear hfz18_3
  try clear hfz18_4
  try clear hfz18_5
  try clear hfz20_0
  try clear hfz20_1
  try clear hfz20_2
  try clear hfz20_3
  try clear hfz20_4
  try clear hfz20_5
  try clear hfz22_0
  try clear hfz22_1
  try clear hfz22_2
  try clear hfz22_3
  try clear hfz22_4
  try clear hfz22_5
  try clear hfz24_0
  try clear hfz24_1
  try clear hfz24_2
  try clear hfz24_3
  try clear hfz24_4
  try clear hfz24_5
  try clear hfz8_0
  try clear hfz8_1
  try clear hfz8_2
  try clear hfz8_3
  try clear hfz8_4
  try clear hfz8_5
  obtain ⟨x7_1, rfl, HA, HK1, HO_3, HO_4, HO_5, HO_6, BK435, HB⟩ := hrel
  cases gk with
  | zero => exact absurd HA.out (by simp [truantlaw10_DomChain.l0])
  | succ k1 =>
   have H := HA.out
   clear HA
   simp only [truantlaw10_DomChain.l0] at H
   by_cases c26 : x7_1 < (t438.length : Int)
   rotate_left
   ·rw [if_neg c26] at H
    have c26b0 : decide (x7_1 < (t438.length : Int)) = false := decide_eq_false c26
    clear c26
    obtain rfl := Option.some.inj H
    obtain ⟨Ao108, co108, eo108⟩ := Kd.R_slice HO_3.out
    subst eo108
    go_wp2
    go_ret
    exact ⟨by first | rfl | (simp [errW_none, errW_some] <;> rfl) | (simp [*, errW_none, errW_some] <;> rfl), by repeat (first | (with_reducible first | exact HB.out | apply below_alloc | apply pw_below_drewN | apply below_drew1 | refine below_set ?_ GE435.out) | exact HB.out)⟩
   rw [if_pos c26] at H
   have c26b0 : decide (x7_1 < (t438.length : Int)) = true := decide_eq_true c26
   clear c26
   by_cases c27 : 0 ≤ x7_1
   rotate_left
   ·rw [if_neg c27] at H
    exact absurd H (by simp)
   rw [if_pos c27] at H
   have c27b0 : decide (0 ≤ x7_1) = true := decide_eq_true c27
   clear c27
   by_cases c28 : x7_1 < (t444.length : Int)
   rotate_left
   ·rw [if_neg c28] at H
    exact absurd H (by simp)
   rw [if_pos c28] at H
   have c28b0 : decide (x7_1 < (t444.length : Int)) = true := decide_eq_true c28
   clear c28
   obtain ⟨bq29, hbq29⟩ : ∃ b_ : Bool, b_ = (rdOf false t444 x7_1) := ⟨_, rfl⟩
   replace H : (if bq29 = true then ((dom_Is.f a0_0 l0_1 a0_2 l0_3 l0_4 l0_5 0 x7_1).bind fun t454 => (if t454 = true then ((dom_Is.f a0_0 l0_1 a0_2 l0_3 l0_4 l0_5 x7_1 x7_1).bind fun t455 => (if t455 = true then (truantlaw10_DomChain.j1 k1 t438 t441 t444 t447 x7_1 (((rd t438 x7_1) == (-1)) != (x7_1 == 0)) a0_0 l0_1 a0_2 l0_3 l0_4 l0_5) else (truantlaw10_DomChain.j1 k1 t438 t441 t444 t447 x7_1 true a0_0 l0_1 a0_2 l0_3 l0_4 l0_5))) else (truantlaw10_DomChain.j1 k1 t438 t441 t444 t447 x7_1 true a0_0 l0_1 a0_2 l0_3 l0_4 l0_5))) else (if (rd t438 x7_1) = (-1) then (if x7_1 < (t441.length : Int) then (if ((rd_L2 t441 x7_1).length : Int) > 0 then (none) else ((dom_Is.f a0_0 l0_1 a0_2 l0_3 l0_4 l0_5 x7_1 x7_1).bind fun t453 => (if t453 = true then (none) else (truantlaw10_DomChain.l0 k1 t438 t441 t444 t447 (wrap64 (x7_1 + 1)) a0_0 l0_1 a0_2 l0_3 l0_4 l0_5)))) else (none)) else (none))) = some r := by rw [← hbq29] at H; exact H
   have Nbq29 := Aside0.mk hbq29
   clear hbq29
   by_cases c30 : bq29 = true
   rotate_left
   ·replace c30 := Bool.eq_false_iff.mpr c30
    subst c30
    have H1 : (if (rd t438 x7_1) = (-1) then (if x7_1 < (t441.length : Int) then (if ((rd_L2 t441 x7_1).length : Int) > 0 then (none) else ((dom_Is.f a0_0 l0_1 a0_2 l0_3 l0_4 l0_5 x7_1 x7_1).bind fun t453 => (if t453 = true then (none) else (truantlaw10_DomChain.l0 k1 t438 t441 t444 t447 (wrap64 (x7_1 + 1)) a0_0 l0_1 a0_2 l0_3 l0_4 l0_5)))) else (none)) else (none)) = some r := by rw [if_neg (show ¬ (false = true) by decide)] at H; exact H
    clear H
    have H := H1
    clear H1
    by_cases c98 : (rd t438 x7_1) = (-1)
    rotate_left
    ·rw [if_neg c98] at H
     exact absurd H (by simp)
    rw [if_pos c98] at H
    have c98b0 : ((rd t438 x7_1) == (-1)) = true := beq_iff_eq.mpr c98
    have c98b1 : ((rd t438 x7_1) != (-1)) = false := bne_eq_false_iff_eq.mpr c98
    clear c98
    by_cases c99 : x7_1 < (t441.length : Int)
    rotate_left
    ·rw [if_neg c99] at H
     exact absurd H (by simp)
    rw [if_pos c99] at H
    have c99b0 : decide (x7_1 < (t441.length : Int)) = true := decide_eq_true c99
    clear c99
    by_cases c100 : ((rd_L2 t441 x7_1).length : Int) > 0
    ·rw [if_pos c100] at H
     exact absurd H (by simp)
    rw [if_neg c100] at H
    have c100b0 : decide (0 < ((rd_L2 t441 x7_1).length : Int)) = false := decide_eq_false c100
    have c100b1 : decide (0 < (rd_L2 t441 x7_1).length) = false := decide_eq_false (by omega)
    clear c100
    replace H := Option.bind_eq_some_iff.mp H
    obtain ⟨t453, A1010, H⟩ := H
    replace H : (if t453 = true then (none) else (truantlaw10_DomChain.l0 k1 t438 t441 t444 t447 (wrap64 (x7_1 + 1)) a0_0 l0_1 a0_2 l0_3 l0_4 l0_5)) = some r := H
    have A101 := Aside0.mk A1010
    clear A1010
    by_cases c102 : t453 = true
    ·subst c102
     have H1 : (none) = some r := by rw [if_pos rfl] at H; exact H
     clear H
     have H := H1
     clear H1
     exact absurd H (by simp)
    replace c102 := Bool.eq_false_iff.mpr c102
    subst c102
    have H1 : (truantlaw10_DomChain.l0 k1 t438 t441 t444 t447 (wrap64 (x7_1 + 1)) a0_0 l0_1 a0_2 l0_3 l0_4 l0_5) = some r := by rw [if_neg (show ¬ (false = true) by decide)] at H; exact H
    clear H
    have H := H1
    clear H1
    have H' := Aside0.mk H
    clear H
    obtain ⟨Ao103, co103, eo103⟩ := Kd.R_slice HO_3.out
    subst eo103
    obtain ⟨Ao104, co104, eo104⟩ := Kd.R_slice HO_5.out
    subst eo104
    have p450 : 0 ≤ (x7_1 : Int) := of_decide_eq_true (by first | (with_reducible assumption) | assumption)
    have q450 : x7_1 < (t444.length : Int) := of_decide_eq_true (by first | (with_reducible assumption) | assumption)
    obtain ⟨ad450, e450, hx450_0⟩ := Kd.at_bool (Kd.R_reads' HO_5.out).2.2 x7_1 p450 q450
    (try rw [← Nbq29.out] at hx450_0)
    cases e450
    replace p450 := eq_true p450
    replace q450 := eq_true q450
    have p451 : 0 ≤ (x7_1 : Int) := of_decide_eq_true (by first | (with_reducible assumption) | assumption)
    have q451 : x7_1 < (t438.length : Int) := of_decide_eq_true (by first | (with_reducible assumption) | assumption)
    obtain ⟨ad451, e451, hx451_0⟩ := Kd.at_int (Kd.R_reads' HO_3.out).2.2 x7_1 p451 q451
    cases e451
    replace p451 := eq_true p451
    replace q451 := eq_true q451
    obtain ⟨Ao105, co105, eo105⟩ := Kd.S_slice HO_4.out
    subst eo105
    have p452 : 0 ≤ (x7_1 : Int) := of_decide_eq_true (by first | (with_reducible assumption) | assumption)
    have q452 : x7_1 < (t441.length : Int) := of_decide_eq_true (by first | (with_reducible assumption) | assumption)
    obtain ⟨ad452, A452_0, c452_0, e452, hx452_0, hl452_0, hi452_0⟩ := at_L2 (Kd.S_reads' HO_4.out).2.2 x7_1 p452 q452
    cases e452
    obtain ⟨ce452, hce452, hMe452, hcc452⟩ := Kd.S_get HO_4.out [] x7_1 p452 (by first | exact q452 | exact of_decide_eq_true (by first | (with_reducible assumption) | assumption) | (have e_ := (Kd.S_reads' HO_4.out).1; omega))
    obtain ⟨ve452_0, rfl, ge452_0⟩ := hMe452
    have hv452_0 := hcc452 0 _ rfl
    rw [Nat.add_zero, show ((Kd.slice 3 (Kd.int .i64))).sz = 1 from rfl, Nat.mul_one] at hv452_0
    replace hv452_0 := Option.some.inj (hv452_0.symm.trans hx452_0)
    rw [hv452_0] at ge452_0
    have HL452_0 := Aside0.mk (show Kd.R (Kd.int .i64) 3 _ _ _ _ (rd_L2 t441 x7_1) from ge452_0)
    clear hv452_0 ge452_0
    clear hcc452 hce452
    have HR452_0 := Aside0.mk hi452_0
    have HC452_0 := Aside0.mk hl452_0
    clear hi452_0 hl452_0
    replace p452 := eq_true p452
    replace q452 := eq_true q452
    have hcz106_0 : wr.cell? ⟨gb435, 0, none⟩ = some (.string a0_0) := (blk_cell BK435.out 0).trans rfl
    have hcz106_1 : wr.cell? ⟨gb435, 1, none⟩ = some (.slice A0_1 l0_1.length c0_1) := (blk_cell BK435.out 1).trans rfl
    have hcz106_2 : wr.cell? ⟨gb435, 2, none⟩ = some (.string a0_2) := (blk_cell BK435.out 2).trans rfl
    have hcz106_3 : wr.cell? ⟨gb435, 3, none⟩ = some (.slice A0_3 l0_3.length c0_3) := (blk_cell BK435.out 3).trans rfl
    have hcz106_4 : wr.cell? ⟨gb435, 4, none⟩ = some (.slice A0_4 l0_4.length c0_4) := (blk_cell BK435.out 4).trans rfl
    have hcz106_5 : wr.cell? ⟨gb435, 5, none⟩ = some (.slice A0_5 l0_5.length c0_5) := (blk_cell BK435.out 5).trans rfl
    have hfz106_0 := blk_frozen BK435.out 0
    have hfz106_1 := blk_frozen BK435.out 1
    have hfz106_2 := blk_frozen BK435.out 2
    have hfz106_3 := blk_frozen BK435.out 3
    have hfz106_4 := blk_frozen BK435.out 4
    have hfz106_5 := blk_frozen BK435.out 5
    go_wp2_with (first | (go_at_call 43; (with_reducible refine (dom_Is.calls a0_0 _ _ l0_1 a0_2 _ _ l0_3 _ _ l0_4 _ _ l0_5 x7_1 x7_1 false _ ?side1 ?side2 ?side3 ?side4 ?side5 ?side6 ?side7 ?side8 A101.out).mono ?_); (case side1 => repeat (first | exact (Kd.C_below HR0_1.out HB.out) | (with_reducible refine Kd.C_alloc ?_ _) | (with_reducible refine Kd.C_drewN ?_ _) | (with_reducible refine Kd.C_drew ?_))); (case side2 => exact HC0_1.out); (case side3 => repeat (first | exact (Kd.C_below HR0_3.out HB.out) | (with_reducible refine Kd.C_alloc ?_ _) | (with_reducible refine Kd.C_drewN ?_ _) | (with_reducible refine Kd.C_drew ?_))); (case side4 => exact HC0_3.out); (case side5 => repeat (first | exact (Kd.C_below HR0_4.out HB.out) | (with_reducible refine Kd.C_alloc ?_ _) | (with_reducible refine Kd.C_drewN ?_ _) | (with_reducible refine Kd.C_drew ?_))); (case side6 => exact HC0_4.out); (case side7 => repeat (first | exact (Kd.C_below HR0_5.out HB.out) | (with_reducible refine Kd.C_alloc ?_ _) | (with_reducible refine Kd.C_drewN ?_ _) | (with_reducible refine Kd.C_drew ?_))); (case side8 => exact HC0_5.out); rintro e w107 ⟨rfl, hb⟩; have n0_ := Aside0.mk (Kd.R_below (by (with_reducible repeat (first | apply Kd.R_alloc | apply Kd.R_drewN | apply Kd.R_drew)); exact HO_3.out) hb); have n1_ := Aside0.mk (Kd.S_below (by (with_reducible repeat (first | apply Kd.S_alloc | apply Kd.S_drewN | apply Kd.S_drew)); exact HO_4.out) hb); have n2_ := Aside0.mk (Kd.R_below (by (with_reducible repeat (first | apply Kd.R_alloc | apply Kd.R_drewN | apply Kd.R_drew)); exact HO_5.out) hb); have n3_ := Aside0.mk (Kd.S_below (by (with_reducible repeat (first | apply Kd.S_alloc | apply Kd.S_drewN | apply Kd.S_drew)); exact HO_6.out) hb); have n4_ := Aside0.mk (Kd.R_below (by (with_reducible repeat (first | apply Kd.R_alloc | apply Kd.R_drewN | apply Kd.R_drew)); exact HL452_0.out) hb); have n5_ := Aside0.mk (blk_below (g := gb435) (o := .cells #[.string a0_0, .slice A0_1 l0_1.length c0_1, .string a0_2, .slice A0_3 l0_3.length c0_3, .slice A0_4 l0_4.length c0_4, .slice A0_5 l0_5.length c0_5] 26 (0, 0)) (by (with_reducible repeat (first | refine blk_drewN ?_ _ | refine blk_drew ?_ | refine blk_alloc ?_ _)); exact BK435.out) hb); have n6_ := Aside0.mk (Kd.C_below (by repeat (first | (with_reducible exact HR452_0.out) | (with_reducible refine Kd.C_alloc ?_ _) | (with_reducible refine Kd.C_drewN ?_ _) | (with_reducible refine Kd.C_drew ?_) | exact HR452_0.out)) hb); have n7_ := Aside0.mk (below_step (by repeat (first | (with_reducible first | exact HB.out | apply below_alloc | apply pw_below_drewN | apply below_drew1 | refine below_set ?_ GE435.out) | exact HB.out)) hb); clear HO_3; clear HO_4; clear HO_5; clear HO_6; clear HL452_0; clear BK435; clear HR452_0; clear HB; have HO_3 := n0_; have HO_4 := n1_; have HO_5 := n2_; have HO_6 := n3_; have HL452_0 := n4_; have BK435 := n5_; have HR452_0 := n6_; have HB := n7_; clear n0_ n1_ n2_ n3_ n4_ n5_ n6_ n7_; (try clear hb); (try clear hb2); (try clear hk); (try clear hi)))
    go_roundg k1
    case measure => have := HK1.out; omega
    case rel => exact ⟨(wrap64 (x7_1 + 1)), (by first | rfl | (simp; done) | (simp [*]; done)), H', ⟨by have := HK1.out; omega⟩, ⟨by (with_reducible repeat (first | apply Kd.R_alloc | apply Kd.R_drewN | apply Kd.R_drew)); exact HO_3.out⟩, ⟨by (with_reducible repeat (first | apply Kd.S_alloc | apply Kd.S_drewN | apply Kd.S_drew)); exact HO_4.out⟩, ⟨by (with_reducible repeat (first | apply Kd.R_alloc | apply Kd.R_drewN | apply Kd.R_drew)); exact HO_5.out⟩, ⟨by (with_reducible repeat (first | apply Kd.S_alloc | apply Kd.S_drewN | apply Kd.S_drew)); exact HO_6.out⟩, ⟨by (with_reducible repeat (first | refine blk_drewN ?_ _ | refine blk_drew ?_ | refine blk_alloc ?_ _)); exact BK435.out⟩, ⟨by repeat (first | (with_reducible first | exact HB.out | apply below_alloc | apply pw_below_drewN | apply below_drew1 | refine below_set ?_ GE435.out) | exact HB.out)⟩⟩
   subst c30
   have H1 : ((dom_Is.f a0_0 l0_1 a0_2 l0_3 l0_4 l0_5 0 x7_1).bind fun t454 => (if t454 = true then ((dom_Is.f a0_0 l0_1 a0_2 l0_3 l0_4 l0_5 x7_1 x7_1).bind fun t455 => (if t455 = true then (truantlaw10_DomChain.j1 k1 t438 t441 t444 t447 x7_1 (((rd t438 x7_1) == (-1)) != (x7_1 == 0)) a0_0 l0_1 a0_2 l0_3 l0_4 l0_5) else (truantlaw10_DomChain.j1 k1 t438 t441 t444 t447 x7_1 true a0_0 l0_1 a0_2 l0_3 l0_4 l0_5))) else (truantlaw10_DomChain.j1 k1 t438 t441 t444 t447 x7_1 true a0_0 l0_1 a0_2 l0_3 l0_4 l0_5))) = some r := by rw [if_pos rfl] at H; exact H
   clear H
   have H := H1
   clear H1
   have HC31 := Aside0.mk H
   clear H
   obtain ⟨Ao32, co32, eo32⟩ := Kd.R_slice HO_3.out
   subst eo32
   obtain ⟨Ao33, co33, eo33⟩ := Kd.R_slice HO_5.out
   subst eo33
   have p450 : 0 ≤ (x7_1 : Int) := of_decide_eq_true (by first | (with_reducible assumption) | assumption)
   have q450 : x7_1 < (t444.length : Int) := of_decide_eq_true (by first | (with_reducible assumption) | assumption)
   obtain ⟨ad450, e450, hx450_0⟩ := Kd.at_bool (Kd.R_reads' HO_5.out).2.2 x7_1 p450 q450
   (try rw [← Nbq29.out] at hx450_0)
   cases e450
   replace p450 := eq_true p450
   replace q450 := eq_true q450
   go_upto_region 15 with (fail)
   go_cut [75] (fun v75 wc => ∃ (kq : Nat) (x75_30 : Bool), v75 = .bool x75_30 ∧ Aside0 (truantlaw10_DomChain.j1 kq t438 t441 t444 t447 x7_1 x75_30 a0_0 l0_1 a0_2 l0_3 l0_4 l0_5 = some r) ∧ Aside0 (kq ≤ k1) ∧ Aside0 (Kd.R (Kd.int .i64) 3 wc w.heap.size (fun _ => True) (.slice Ao32 t438.length co32) t438) ∧ Aside0 (Kd.S (Kd.slice 3 (Kd.int .i64)) 34 wc w.heap.size (fun k_ => some k_ ≠ ((.slice Ao32 t438.length co32) : Value).ownBlock ∧ some k_ ≠ (v448 : Value).ownBlock) v442 t441) ∧ Aside0 (Kd.R Kd.bool 4 wc w.heap.size (fun _ => True) (.slice (some ad450) t444.length co33) t444) ∧ Aside0 (Kd.S (Kd.slice 3 (Kd.int .i64)) 34 wc w.heap.size (fun k_ => some k_ ≠ ((.slice Ao32 t438.length co32) : Value).ownBlock ∧ some k_ ≠ (v442 : Value).ownBlock) v448 t447) ∧ Aside0 (wc.heap[gb435]? = some (.cells #[.string a0_0, (.slice A0_1 l0_1.length c0_1), .string a0_2, (.slice A0_3 l0_3.length c0_3), (.slice A0_4 l0_4.length c0_4), (.slice A0_5 l0_5.length c0_5)] 26 (0, 0))) ∧ Aside0 (Below w.heap.size w wc))
   case first =>
    have H := HC31.out
    clear HC31
    replace H := Option.bind_eq_some_iff.mp H
    obtain ⟨t454, A340, H⟩ := H
    replace H : (if t454 = true then ((dom_Is.f a0_0 l0_1 a0_2 l0_3 l0_4 l0_5 x7_1 x7_1).bind fun t455 => (if t455 = true then (truantlaw10_DomChain.j1 k1 t438 t441 t444 t447 x7_1 (((rd t438 x7_1) == (-1)) != (x7_1 == 0)) a0_0 l0_1 a0_2 l0_3 l0_4 l0_5) else (truantlaw10_DomChain.j1 k1 t438 t441 t444 t447 x7_1 true a0_0 l0_1 a0_2 l0_3 l0_4 l0_5))) else (truantlaw10_DomChain.j1 k1 t438 t441 t444 t447 x7_1 true a0_0 l0_1 a0_2 l0_3 l0_4 l0_5)) = some r := H
    have A34 := Aside0.mk A340
    clear A340
    by_cases c35 : t454 = true
    rotate_left
    ·replace c35 := Bool.eq_false_iff.mpr c35
     subst c35
     have H1 : (truantlaw10_DomChain.j1 k1 t438 t441 t444 t447 x7_1 true a0_0 l0_1 a0_2 l0_3 l0_4 l0_5) = some r := by rw [if_neg (show ¬ (false = true) by decide)] at H; exact H
     clear H
     have H := H1
     clear H1
     have H' := Aside0.mk H
     clear H
     have hcz46_0 : wr.cell? ⟨gb435, 0, none⟩ = some (.string a0_0) := (blk_cell BK435.out 0).trans rfl
     have hcz46_1 : wr.cell? ⟨gb435, 1, none⟩ = some (.slice A0_1 l0_1.length c0_1) := (blk_cell BK435.out 1).trans rfl
     have hcz46_2 : wr.cell? ⟨gb435, 2, none⟩ = some (.string a0_2) := (blk_cell BK435.out 2).trans rfl
     have hcz46_3 : wr.cell? ⟨gb435, 3, none⟩ = some (.slice A0_3 l0_3.length c0_3) := (blk_cell BK435.out 3).trans rfl
     have hcz46_4 : wr.cell? ⟨gb435, 4, none⟩ = some (.slice A0_4 l0_4.length c0_4) := (blk_cell BK435.out 4).trans rfl
     have hcz46_5 : wr.cell? ⟨gb435, 5, none⟩ = some (.slice A0_5 l0_5.length c0_5) := (blk_cell BK435.out 5).trans rfl
     have hfz46_0 := blk_frozen BK435.out 0
     have hfz46_1 := blk_frozen BK435.out 1
     have hfz46_2 := blk_frozen BK435.out 2
     have hfz46_3 := blk_frozen BK435.out 3
     have hfz46_4 := blk_frozen BK435.out 4
     have hfz46_5 := blk_frozen BK435.out 5
     go_wp2_with (first | ((with_reducible refine gate_callee (f := 43) rfl ?_); refine goesL_ (some 57) rfl rfl Try.func43 (by kernel_rfl) rfl #[.agg #[.string a0_0, .slice A0_1 l0_1.length c0_1, .string a0_2, .slice A0_3 l0_3.length c0_3, .slice A0_4 l0_4.length c0_4, .slice A0_5 l0_5.length c0_5], .int .i64 0, .int .i64 x7_1] rfl (by (try simp only [List.map_toArray, List.map_cons, List.map_nil]); first | done | rfl | (simp only [List.length_drop, List.length_take]; rfl)) ?_; (with_reducible refine (dom_Is.calls a0_0 _ _ l0_1 a0_2 _ _ l0_3 _ _ l0_4 _ _ l0_5 0 x7_1 false _ ?side1 ?side2 ?side3 ?side4 ?side5 ?side6 ?side7 ?side8 A34.out).mono ?_); (case side1 => repeat (first | exact (Kd.C_below HR0_1.out HB.out) | (with_reducible refine Kd.C_alloc ?_ _) | (with_reducible refine Kd.C_drewN ?_ _) | (with_reducible refine Kd.C_drew ?_))); (case side2 => exact HC0_1.out); (case side3 => repeat (first | exact (Kd.C_below HR0_3.out HB.out) | (with_reducible refine Kd.C_alloc ?_ _) | (with_reducible refine Kd.C_drewN ?_ _) | (with_reducible refine Kd.C_drew ?_))); (case side4 => exact HC0_3.out); (case side5 => repeat (first | exact (Kd.C_below HR0_4.out HB.out) | (with_reducible refine Kd.C_alloc ?_ _) | (with_reducible refine Kd.C_drewN ?_ _) | (with_reducible refine Kd.C_drew ?_))); (case side6 => exact HC0_4.out); (case side7 => repeat (first | exact (Kd.C_below HR0_5.out HB.out) | (with_reducible refine Kd.C_alloc ?_ _) | (with_reducible refine Kd.C_drewN ?_ _) | (with_reducible refine Kd.C_drew ?_))); (case side8 => exact HC0_5.out); rintro e w47 ⟨rfl, hb⟩; refine ⟨_, rfl, ?_⟩; have n0_ := Aside0.mk (Kd.R_below (by (with_reducible repeat (first | apply Kd.R_alloc | apply Kd.R_drewN | apply Kd.R_drew)); exact HO_3.out) hb); have n1_ := Aside0.mk (Kd.S_below (by (with_reducible repeat (first | apply Kd.S_alloc | apply Kd.S_drewN | apply Kd.S_drew)); exact HO_4.out) hb); have n2_ := Aside0.mk (Kd.R_below (by (with_reducible repeat (first | apply Kd.R_alloc | apply Kd.R_drewN | apply Kd.R_drew)); exact HO_5.out) hb); have n3_ := Aside0.mk (Kd.S_below (by (with_reducible repeat (first | apply Kd.S_alloc | apply Kd.S_drewN | apply Kd.S_drew)); exact HO_6.out) hb); have n4_ := Aside0.mk (blk_below (g := gb435) (o := .cells #[.string a0_0, .slice A0_1 l0_1.length c0_1, .string a0_2, .slice A0_3 l0_3.length c0_3, .slice A0_4 l0_4.length c0_4, .slice A0_5 l0_5.length c0_5] 26 (0, 0)) (by (with_reducible repeat (first | refine blk_drewN ?_ _ | refine blk_drew ?_ | refine blk_alloc ?_ _)); exact BK435.out) hb); have n5_ := Aside0.mk (below_step (by repeat (first | (with_reducible first | exact HB.out | apply below_alloc | apply pw_below_drewN | apply below_drew1 | refine below_set ?_ GE435.out) | exact HB.out)) hb); clear HO_3; clear HO_4; clear HO_5; clear HO_6; clear BK435; clear HB; have HO_3 := n0_; have HO_4 := n1_; have HO_5 := n2_; have HO_6 := n3_; have BK435 := n4_; have HB := n5_; clear n0_ n1_ n2_ n3_ n4_ n5_; (try clear hb); (try clear hb2); (try clear hk); (try clear hi)))
     go_meet
     case rel => exact ⟨_, (true), (by first | rfl | (simp; done) | (simp [*]; done)), H', ⟨by have := HK1.out; first | omega | exact Nat.le_refl _⟩, ⟨by (with_reducible repeat (first | apply Kd.R_alloc | apply Kd.R_drewN | apply Kd.R_drew)); exact HO_3.out⟩, ⟨by (with_reducible repeat (first | apply Kd.S_alloc | apply Kd.S_drewN | apply Kd.S_drew)); exact HO_4.out⟩, ⟨by (with_reducible repeat (first | apply Kd.R_alloc | apply Kd.R_drewN | apply Kd.R_drew)); exact HO_5.out⟩, ⟨by (with_reducible repeat (first | apply Kd.S_alloc | apply Kd.S_drewN | apply Kd.S_drew)); exact HO_6.out⟩, ⟨by (with_reducible repeat (first | refine blk_drewN ?_ _ | refine blk_drew ?_ | refine blk_alloc ?_ _)); exact BK435.out⟩, ⟨by repeat (first | (with_reducible first | exact HB.out | apply below_alloc | apply pw_below_drewN | apply below_drew1 | refine below_set ?_ GE435.out) | exact HB.out)⟩⟩
    subst c35
    have H1 : ((dom_Is.f a0_0 l0_1 a0_2 l0_3 l0_4 l0_5 x7_1 x7_1).bind fun t455 => (if t455 = true then (truantlaw10_DomChain.j1 k1 t438 t441 t444 t447 x7_1 (((rd t438 x7_1) == (-1)) != (x7_1 == 0)) a0_0 l0_1 a0_2 l0_3 l0_4 l0_5) else (truantlaw10_DomChain.j1 k1 t438 t441 t444 t447 x7_1 true a0_0 l0_1 a0_2 l0_3 l0_4 l0_5))) = some r := by rw [if_pos rfl] at H; exact H
    clear H
    have H := H1
    clear H1
    replace H := Option.bind_eq_some_iff.mp H
    obtain ⟨t455, A360, H⟩ := H
    replace H : (if t455 = true then (truantlaw10_DomChain.j1 k1 t438 t441 t444 t447 x7_1 (((rd t438 x7_1) == (-1)) != (x7_1 == 0)) a0_0 l0_1 a0_2 l0_3 l0_4 l0_5) else (truantlaw10_DomChain.j1 k1 t438 t441 t444 t447 x7_1 true a0_0 l0_1 a0_2 l0_3 l0_4 l0_5)) = some r := H
    have A36 := Aside0.mk A360
    clear A360
    by_cases c37 : t455 = true
    rotate_left
    ·replace c37 := Bool.eq_false_iff.mpr c37
     subst c37
     have H1 : (truantlaw10_DomChain.j1 k1 t438 t441 t444 t447 x7_1 true a0_0 l0_1 a0_2 l0_3 l0_4 l0_5) = some r := by rw [if_neg (show ¬ (false = true) by decide)] at H; exact H
     clear H
     have H := H1
     clear H1
     have H' := Aside0.mk H
     clear H
     have hcz42_0 : wr.cell? ⟨gb435, 0, none⟩ = some (.string a0_0) := (blk_cell BK435.out 0).trans rfl
     have hcz42_1 : wr.cell? ⟨gb435, 1, none⟩ = some (.slice A0_1 l0_1.length c0_1) := (blk_cell BK435.out 1).trans rfl
     have hcz42_2 : wr.cell? ⟨gb435, 2, none⟩ = some (.string a0_2) := (blk_cell BK435.out 2).trans rfl
     have hcz42_3 : wr.cell? ⟨gb435, 3, none⟩ = some (.slice A0_3 l0_3.length c0_3) := (blk_cell BK435.out 3).trans rfl
     have hcz42_4 : wr.cell? ⟨gb435, 4, none⟩ = some (.slice A0_4 l0_4.length c0_4) := (blk_cell BK435.out 4).trans rfl
     have hcz42_5 : wr.cell? ⟨gb435, 5, none⟩ = some (.slice A0_5 l0_5.length c0_5) := (blk_cell BK435.out 5).trans rfl
     have hfz42_0 := blk_frozen BK435.out 0
     have hfz42_1 := blk_frozen BK435.out 1
     have hfz42_2 := blk_frozen BK435.out 2
     have hfz42_3 := blk_frozen BK435.out 3
     have hfz42_4 := blk_frozen BK435.out 4
     have hfz42_5 := blk_frozen BK435.out 5
     go_wp2_with (first | ((with_reducible refine gate_callee (f := 43) rfl ?_); refine goesL_ (some 57) rfl rfl Try.func43 (by kernel_rfl) rfl #[.agg #[.string a0_0, .slice A0_1 l0_1.length c0_1, .string a0_2, .slice A0_3 l0_3.length c0_3, .slice A0_4 l0_4.length c0_4, .slice A0_5 l0_5.length c0_5], .int .i64 0, .int .i64 x7_1] rfl (by (try simp only [List.map_toArray, List.map_cons, List.map_nil]); first | done | rfl | (simp only [List.length_drop, List.length_take]; rfl)) ?_; (with_reducible refine (dom_Is.calls a0_0 _ _ l0_1 a0_2 _ _ l0_3 _ _ l0_4 _ _ l0_5 0 x7_1 true _ ?side1 ?side2 ?side3 ?side4 ?side5 ?side6 ?side7 ?side8 A34.out).mono ?_); (case side1 => repeat (first | exact (Kd.C_below HR0_1.out HB.out) | (with_reducible refine Kd.C_alloc ?_ _) | (with_reducible refine Kd.C_drewN ?_ _) | (with_reducible refine Kd.C_drew ?_))); (case side2 => exact HC0_1.out); (case side3 => repeat (first | exact (Kd.C_below HR0_3.out HB.out) | (with_reducible refine Kd.C_alloc ?_ _) | (with_reducible refine Kd.C_drewN ?_ _) | (with_reducible refine Kd.C_drew ?_))); (case side4 => exact HC0_3.out); (case side5 => repeat (first | exact (Kd.C_below HR0_4.out HB.out) | (with_reducible refine Kd.C_alloc ?_ _) | (with_reducible refine Kd.C_drewN ?_ _) | (with_reducible refine Kd.C_drew ?_))); (case side6 => exact HC0_4.out); (case side7 => repeat (first | exact (Kd.C_below HR0_5.out HB.out) | (with_reducible refine Kd.C_alloc ?_ _) | (with_reducible refine Kd.C_drewN ?_ _) | (with_reducible refine Kd.C_drew ?_))); (case side8 => exact HC0_5.out); rintro e w43 ⟨rfl, hb⟩; refine ⟨_, rfl, ?_⟩; have n0_ := Aside0.mk (Kd.R_below (by (with_reducible repeat (first | apply Kd.R_alloc | apply Kd.R_drewN | apply Kd.R_drew)); exact HO_3.out) hb); have n1_ := Aside0.mk (Kd.S_below (by (with_reducible repeat (first | apply Kd.S_alloc | apply Kd.S_drewN | apply Kd.S_drew)); exact HO_4.out) hb); have n2_ := Aside0.mk (Kd.R_below (by (with_reducible repeat (first | apply Kd.R_alloc | apply Kd.R_drewN | apply Kd.R_drew)); exact HO_5.out) hb); have n3_ := Aside0.mk (Kd.S_below (by (with_reducible repeat (first | apply Kd.S_alloc | apply Kd.S_drewN | apply Kd.S_drew)); exact HO_6.out) hb); have n4_ := Aside0.mk (blk_below (g := gb435) (o := .cells #[.string a0_0, .slice A0_1 l0_1.length c0_1, .string a0_2, .slice A0_3 l0_3.length c0_3, .slice A0_4 l0_4.length c0_4, .slice A0_5 l0_5.length c0_5] 26 (0, 0)) (by (with_reducible repeat (first | refine blk_drewN ?_ _ | refine blk_drew ?_ | refine blk_alloc ?_ _)); exact BK435.out) hb); have n5_ := Aside0.mk (below_step (by repeat (first | (with_reducible first | exact HB.out | apply below_alloc | apply pw_below_drewN | apply below_drew1 | refine below_set ?_ GE435.out) | exact HB.out)) hb); clear HO_3; clear HO_4; clear HO_5; clear HO_6; clear BK435; clear HB; have HO_3 := n0_; have HO_4 := n1_; have HO_5 := n2_; have HO_6 := n3_; have BK435 := n4_; have HB := n5_; clear n0_ n1_ n2_ n3_ n4_ n5_; (try clear hb); (try clear hb2); (try clear hk); (try clear hi); have hcz44_0 : w43.cell? ⟨gb435, 0, none⟩ = some (.string a0_0) := (blk_cell BK435.out 0).trans rfl; have hcz44_1 : w43.cell? ⟨gb435, 1, none⟩ = some (.slice A0_1 l0_1.length c0_1) := (blk_cell BK435.out 1).trans rfl; have hcz44_2 : w43.cell? ⟨gb435, 2, none⟩ = some (.string a0_2) := (blk_cell BK435.out 2).trans rfl; have hcz44_3 : w43.cell? ⟨gb435, 3, none⟩ = some (.slice A0_3 l0_3.length c0_3) := (blk_cell BK435.out 3).trans rfl; have hcz44_4 : w43.cell? ⟨gb435, 4, none⟩ = some (.slice A0_4 l0_4.length c0_4) := (blk_cell BK435.out 4).trans rfl; have hcz44_5 : w43.cell? ⟨gb435, 5, none⟩ = some (.slice A0_5 l0_5.length c0_5) := (blk_cell BK435.out 5).trans rfl; have hfz44_0 := blk_frozen BK435.out 0; have hfz44_1 := blk_frozen BK435.out 1; have hfz44_2 := blk_frozen BK435.out 2; have hfz44_3 := blk_frozen BK435.out 3; have hfz44_4 := blk_frozen BK435.out 4; have hfz44_5 := blk_frozen BK435.out 5) | (go_at_call 43; (with_reducible refine (dom_Is.calls a0_0 _ _ l0_1 a0_2 _ _ l0_3 _ _ l0_4 _ _ l0_5 x7_1 x7_1 false _ ?side1 ?side2 ?side3 ?side4 ?side5 ?side6 ?side7 ?side8 A36.out).mono ?_); (case side1 => repeat (first | exact (Kd.C_below HR0_1.out HB.out) | (with_reducible refine Kd.C_alloc ?_ _) | (with_reducible refine Kd.C_drewN ?_ _) | (with_reducible refine Kd.C_drew ?_))); (case side2 => exact HC0_1.out); (case side3 => repeat (first | exact (Kd.C_below HR0_3.out HB.out) | (with_reducible refine Kd.C_alloc ?_ _) | (with_reducible refine Kd.C_drewN ?_ _) | (with_reducible refine Kd.C_drew ?_))); (case side4 => exact HC0_3.out); (case side5 => repeat (first | exact (Kd.C_below HR0_4.out HB.out) | (with_reducible refine Kd.C_alloc ?_ _) | (with_reducible refine Kd.C_drewN ?_ _) | (with_reducible refine Kd.C_drew ?_))); (case side6 => exact HC0_4.out); (case side7 => repeat (first | exact (Kd.C_below HR0_5.out HB.out) | (with_reducible refine Kd.C_alloc ?_ _) | (with_reducible refine Kd.C_drewN ?_ _) | (with_reducible refine Kd.C_drew ?_))); (case side8 => exact HC0_5.out); rintro e w45 ⟨rfl, hb⟩; have n0_ := Aside0.mk (Kd.R_below (by (with_reducible repeat (first | apply Kd.R_alloc | apply Kd.R_drewN | apply Kd.R_drew)); exact HO_3.out) hb); have n1_ := Aside0.mk (Kd.S_below (by (with_reducible repeat (first | apply Kd.S_alloc | apply Kd.S_drewN | apply Kd.S_drew)); exact HO_4.out) hb); have n2_ := Aside0.mk (Kd.R_below (by (with_reducible repeat (first | apply Kd.R_alloc | apply Kd.R_drewN | apply Kd.R_drew)); exact HO_5.out) hb); have n3_ := Aside0.mk (Kd.S_below (by (with_reducible repeat (first | apply Kd.S_alloc | apply Kd.S_drewN | apply Kd.S_drew)); exact HO_6.out) hb); have n4_ := Aside0.mk (blk_below (g := gb435) (o := .cells #[.string a0_0, .slice A0_1 l0_1.length c0_1, .string a0_2, .slice A0_3 l0_3.length c0_3, .slice A0_4 l0_4.length c0_4, .slice A0_5 l0_5.length c0_5] 26 (0, 0)) (by (with_reducible repeat (first | refine blk_drewN ?_ _ | refine blk_drew ?_ | refine blk_alloc ?_ _)); exact BK435.out) hb); have n5_ := Aside0.mk (below_step (by repeat (first | (with_reducible first | exact HB.out | apply below_alloc | apply pw_below_drewN | apply below_drew1 | refine below_set ?_ GE435.out) | exact HB.out)) hb); clear HO_3; clear HO_4; clear HO_5; clear HO_6; clear BK435; clear HB; have HO_3 := n0_; have HO_4 := n1_; have HO_5 := n2_; have HO_6 := n3_; have BK435 := n4_; have HB := n5_; clear n0_ n1_ n2_ n3_ n4_ n5_; (try clear hb); (try clear hb2); (try clear hk); (try clear hi)))
     go_meet
     case rel => exact ⟨_, (true), (by first | rfl | (simp; done) | (simp [*]; done)), H', ⟨by have := HK1.out; first | omega | exact Nat.le_refl _⟩, ⟨by (with_reducible repeat (first | apply Kd.R_alloc | apply Kd.R_drewN | apply Kd.R_drew)); exact HO_3.out⟩, ⟨by (with_reducible repeat (first | apply Kd.S_alloc | apply Kd.S_drewN | apply Kd.S_drew)); exact HO_4.out⟩, ⟨by (with_reducible repeat (first | apply Kd.R_alloc | apply Kd.R_drewN | apply Kd.R_drew)); exact HO_5.out⟩, ⟨by (with_reducible repeat (first | apply Kd.S_alloc | apply Kd.S_drewN | apply Kd.S_drew)); exact HO_6.out⟩, ⟨by (with_reducible repeat (first | refine blk_drewN ?_ _ | refine blk_drew ?_ | refine blk_alloc ?_ _)); exact BK435.out⟩, ⟨by repeat (first | (with_reducible first | exact HB.out | apply below_alloc | apply pw_below_drewN | apply below_drew1 | refine below_set ?_ GE435.out) | exact HB.out)⟩⟩
    subst c37
    have H1 : (truantlaw10_DomChain.j1 k1 t438 t441 t444 t447 x7_1 (((rd t438 x7_1) == (-1)) != (x7_1 == 0)) a0_0 l0_1 a0_2 l0_3 l0_4 l0_5) = some r := by rw [if_pos rfl] at H; exact H
    clear H
    have H := H1
    clear H1
    have H' := Aside0.mk H
    clear H
    have hcz38_0 : wr.cell? ⟨gb435, 0, none⟩ = some (.string a0_0) := (blk_cell BK435.out 0).trans rfl
    have hcz38_1 : wr.cell? ⟨gb435, 1, none⟩ = some (.slice A0_1 l0_1.length c0_1) := (blk_cell BK435.out 1).trans rfl
    have hcz38_2 : wr.cell? ⟨gb435, 2, none⟩ = some (.string a0_2) := (blk_cell BK435.out 2).trans rfl
    have hcz38_3 : wr.cell? ⟨gb435, 3, none⟩ = some (.slice A0_3 l0_3.length c0_3) := (blk_cell BK435.out 3).trans rfl
    have hcz38_4 : wr.cell? ⟨gb435, 4, none⟩ = some (.slice A0_4 l0_4.length c0_4) := (blk_cell BK435.out 4).trans rfl
    have hcz38_5 : wr.cell? ⟨gb435, 5, none⟩ = some (.slice A0_5 l0_5.length c0_5) := (blk_cell BK435.out 5).trans rfl
    have hfz38_0 := blk_frozen BK435.out 0
    have hfz38_1 := blk_frozen BK435.out 1
    have hfz38_2 := blk_frozen BK435.out 2
    have hfz38_3 := blk_frozen BK435.out 3
    have hfz38_4 := blk_frozen BK435.out 4
    have hfz38_5 := blk_frozen BK435.out 5
    go_wp2_with (first | ((with_reducible refine gate_callee (f := 43) rfl ?_); refine goesL_ (some 57) rfl rfl Try.func43 (by kernel_rfl) rfl #[.agg #[.string a0_0, .slice A0_1 l0_1.length c0_1, .string a0_2, .slice A0_3 l0_3.length c0_3, .slice A0_4 l0_4.length c0_4, .slice A0_5 l0_5.length c0_5], .int .i64 0, .int .i64 x7_1] rfl (by (try simp only [List.map_toArray, List.map_cons, List.map_nil]); first | done | rfl | (simp only [List.length_drop, List.length_take]; rfl)) ?_; (with_reducible refine (dom_Is.calls a0_0 _ _ l0_1 a0_2 _ _ l0_3 _ _ l0_4 _ _ l0_5 0 x7_1 true _ ?side1 ?side2 ?side3 ?side4 ?side5 ?side6 ?side7 ?side8 A34.out).mono ?_); (case side1 => repeat (first | exact (Kd.C_below HR0_1.out HB.out) | (with_reducible refine Kd.C_alloc ?_ _) | (with_reducible refine Kd.C_drewN ?_ _) | (with_reducible refine Kd.C_drew ?_))); (case side2 => exact HC0_1.out); (case side3 => repeat (first | exact (Kd.C_below HR0_3.out HB.out) | (with_reducible refine Kd.C_alloc ?_ _) | (with_reducible refine Kd.C_drewN ?_ _) | (with_reducible refine Kd.C_drew ?_))); (case side4 => exact HC0_3.out); (case side5 => repeat (first | exact (Kd.C_below HR0_4.out HB.out) | (with_reducible refine Kd.C_alloc ?_ _) | (with_reducible refine Kd.C_drewN ?_ _) | (with_reducible refine Kd.C_drew ?_))); (case side6 => exact HC0_4.out); (case side7 => repeat (first | exact (Kd.C_below HR0_5.out HB.out) | (with_reducible refine Kd.C_alloc ?_ _) | (with_reducible refine Kd.C_drewN ?_ _) | (with_reducible refine Kd.C_drew ?_))); (case side8 => exact HC0_5.out); rintro e w39 ⟨rfl, hb⟩; refine ⟨_, rfl, ?_⟩; have n0_ := Aside0.mk (Kd.R_below (by (with_reducible repeat (first | apply Kd.R_alloc | apply Kd.R_drewN | apply Kd.R_drew)); exact HO_3.out) hb); have n1_ := Aside0.mk (Kd.S_below (by (with_reducible repeat (first | apply Kd.S_alloc | apply Kd.S_drewN | apply Kd.S_drew)); exact HO_4.out) hb); have n2_ := Aside0.mk (Kd.R_below (by (with_reducible repeat (first | apply Kd.R_alloc | apply Kd.R_drewN | apply Kd.R_drew)); exact HO_5.out) hb); have n3_ := Aside0.mk (Kd.S_below (by (with_reducible repeat (first | apply Kd.S_alloc | apply Kd.S_drewN | apply Kd.S_drew)); exact HO_6.out) hb); have n4_ := Aside0.mk (blk_below (g := gb435) (o := .cells #[.string a0_0, .slice A0_1 l0_1.length c0_1, .string a0_2, .slice A0_3 l0_3.length c0_3, .slice A0_4 l0_4.length c0_4, .slice A0_5 l0_5.length c0_5] 26 (0, 0)) (by (with_reducible repeat (first | refine blk_drewN ?_ _ | refine blk_drew ?_ | refine blk_alloc ?_ _)); exact BK435.out) hb); have n5_ := Aside0.mk (below_step (by repeat (first | (with_reducible first | exact HB.out | apply below_alloc | apply pw_below_drewN | apply below_drew1 | refine below_set ?_ GE435.out) | exact HB.out)) hb); clear HO_3; clear HO_4; clear HO_5; clear HO_6; clear BK435; clear HB; have HO_3 := n0_; have HO_4 := n1_; have HO_5 := n2_; have HO_6 := n3_; have BK435 := n4_; have HB := n5_; clear n0_ n1_ n2_ n3_ n4_ n5_; (try clear hb); (try clear hb2); (try clear hk); (try clear hi); have hcz40_0 : w39.cell? ⟨gb435, 0, none⟩ = some (.string a0_0) := (blk_cell BK435.out 0).trans rfl; have hcz40_1 : w39.cell? ⟨gb435, 1, none⟩ = some (.slice A0_1 l0_1.length c0_1) := (blk_cell BK435.out 1).trans rfl; have hcz40_2 : w39.cell? ⟨gb435, 2, none⟩ = some (.string a0_2) := (blk_cell BK435.out 2).trans rfl; have hcz40_3 : w39.cell? ⟨gb435, 3, none⟩ = some (.slice A0_3 l0_3.length c0_3) := (blk_cell BK435.out 3).trans rfl; have hcz40_4 : w39.cell? ⟨gb435, 4, none⟩ = some (.slice A0_4 l0_4.length c0_4) := (blk_cell BK435.out 4).trans rfl; have hcz40_5 : w39.cell? ⟨gb435, 5, none⟩ = some (.slice A0_5 l0_5.length c0_5) := (blk_cell BK435.out 5).trans rfl; have hfz40_0 := blk_frozen BK435.out 0; have hfz40_1 := blk_frozen BK435.out 1; have hfz40_2 := blk_frozen BK435.out 2; have hfz40_3 := blk_frozen BK435.out 3; have hfz40_4 := blk_frozen BK435.out 4; have hfz40_5 := blk_frozen BK435.out 5) | (go_at_call 43; (with_reducible refine (dom_Is.calls a0_0 _ _ l0_1 a0_2 _ _ l0_3 _ _ l0_4 _ _ l0_5 x7_1 x7_1 true _ ?side1 ?side2 ?side3 ?side4 ?side5 ?side6 ?side7 ?side8 A36.out).mono ?_); (case side1 => repeat (first | exact (Kd.C_below HR0_1.out HB.out) | (with_reducible refine Kd.C_alloc ?_ _) | (with_reducible refine Kd.C_drewN ?_ _) | (with_reducible refine Kd.C_drew ?_))); (case side2 => exact HC0_1.out); (case side3 => repeat (first | exact (Kd.C_below HR0_3.out HB.out) | (with_reducible refine Kd.C_alloc ?_ _) | (with_reducible refine Kd.C_drewN ?_ _) | (with_reducible refine Kd.C_drew ?_))); (case side4 => exact HC0_3.out); (case side5 => repeat (first | exact (Kd.C_below HR0_4.out HB.out) | (with_reducible refine Kd.C_alloc ?_ _) | (with_reducible refine Kd.C_drewN ?_ _) | (with_reducible refine Kd.C_drew ?_))); (case side6 => exact HC0_4.out); (case side7 => repeat (first | exact (Kd.C_below HR0_5.out HB.out) | (with_reducible refine Kd.C_alloc ?_ _) | (with_reducible refine Kd.C_drewN ?_ _) | (with_reducible refine Kd.C_drew ?_))); (case side8 => exact HC0_5.out); rintro e w41 ⟨rfl, hb⟩; have n0_ := Aside0.mk (Kd.R_below (by (with_reducible repeat (first | apply Kd.R_alloc | apply Kd.R_drewN | apply Kd.R_drew)); exact HO_3.out) hb); have n1_ := Aside0.mk (Kd.S_below (by (with_reducible repeat (first | apply Kd.S_alloc | apply Kd.S_drewN | apply Kd.S_drew)); exact HO_4.out) hb); have n2_ := Aside0.mk (Kd.R_below (by (with_reducible repeat (first | apply Kd.R_alloc | apply Kd.R_drewN | apply Kd.R_drew)); exact HO_5.out) hb); have n3_ := Aside0.mk (Kd.S_below (by (with_reducible repeat (first | apply Kd.S_alloc | apply Kd.S_drewN | apply Kd.S_drew)); exact HO_6.out) hb); have n4_ := Aside0.mk (blk_below (g := gb435) (o := .cells #[.string a0_0, .slice A0_1 l0_1.length c0_1, .string a0_2, .slice A0_3 l0_3.length c0_3, .slice A0_4 l0_4.length c0_4, .slice A0_5 l0_5.length c0_5] 26 (0, 0)) (by (with_reducible repeat (first | refine blk_drewN ?_ _ | refine blk_drew ?_ | refine blk_alloc ?_ _)); exact BK435.out) hb); have n5_ := Aside0.mk (below_step (by repeat (first | (with_reducible first | exact HB.out | apply below_alloc | apply pw_below_drewN | apply below_drew1 | refine below_set ?_ GE435.out) | exact HB.out)) hb); clear HO_3; clear HO_4; clear HO_5; clear HO_6; clear BK435; clear HB; have HO_3 := n0_; have HO_4 := n1_; have HO_5 := n2_; have HO_6 := n3_; have BK435 := n4_; have HB := n5_; clear n0_ n1_ n2_ n3_ n4_ n5_; (try clear hb); (try clear hb2); (try clear hk); (try clear hi); have p456 : 0 ≤ (x7_1 : Int) := of_decide_eq_true (by first | (with_reducible assumption) | assumption); have q456 : x7_1 < (t438.length : Int) := of_decide_eq_true (by first | (with_reducible assumption) | assumption); obtain ⟨ad456, e456, hx456_0⟩ := Kd.at_int (Kd.R_reads' HO_3.out).2.2 x7_1 p456 q456; cases e456; replace p456 := eq_true p456; replace q456 := eq_true q456))
    go_meet
    case rel => exact ⟨_, ((((rd t438 x7_1) == (-1)) != (x7_1 == 0))), (by first | rfl | (simp; done) | (simp [*]; done)), H', ⟨by have := HK1.out; first | omega | exact Nat.le_refl _⟩, ⟨by (with_reducible repeat (first | apply Kd.R_alloc | apply Kd.R_drewN | apply Kd.R_drew)); exact HO_3.out⟩, ⟨by (with_reducible repeat (first | apply Kd.S_alloc | apply Kd.S_drewN | apply Kd.S_drew)); exact HO_4.out⟩, ⟨by (with_reducible repeat (first | apply Kd.R_alloc | apply Kd.R_drewN | apply Kd.R_drew)); exact HO_5.out⟩, ⟨by (with_reducible repeat (first | apply Kd.S_alloc | apply Kd.S_drewN | apply Kd.S_drew)); exact HO_6.out⟩, ⟨by (with_reducible repeat (first | refine blk_drewN ?_ _ | refine blk_drew ?_ | refine blk_alloc ?_ _)); exact BK435.out⟩, ⟨by repeat (first | (with_reducible first | exact HB.out | apply below_alloc | apply pw_below_drewN | apply below_drew1 | refine below_set ?_ GE435.out) | exact HB.out)⟩⟩
   case rest =>
    clear HC31
    try clear c1
    try clear c2
    try clear p2
    try clear q2
    try clear c3
    try clear c4
    try clear p4
    try clear q4
    try clear hx4
    try clear c5
    try clear p6
    try clear c12
    try clear c16
    try clear c17
    try clear c26
    try clear c26b0
    try clear c27
    try clear c27b0
    try clear c28
    try clear c28b0
    try clear q29
    try clear c30
    try clear c35
    try clear c37
    try clear c38
    try clear c39
    try clear c40
    try clear c43
    try clear c45
    try clear p45
    try clear q45
    try clear hx45
    try clear hcz16_0
    try clear hcz16_1
    try clear hcz16_2
    try clear hcz16_3
    try clear hcz16_4
    try clear hcz16_5
    try clear hcz18_0
    try clear hcz18_1
    try clear hcz18_2
    try clear hcz18_3
    try clear hcz18_4
    try clear hcz18_5
    try clear hcz20_0
    try clear hcz20_1
    try clear hcz20_2
    try clear hcz20_3
    try clear hcz20_4
    try clear hcz20_5
    try clear hcz22_0
    try clear hcz22_1
    try clear hcz22_2
    try clear hcz22_3
    try clear hcz22_4
    try clear hcz22_5
    try clear hcz24_0
    try clear hcz24_1
    try clear hcz24_2
    try clear hcz24_3
    try clear hcz24_4
    try clear hcz24_5
    try clear hcz38_0
    try clear hcz38_1
    try clear hcz38_2
    try clear hcz38_3
    try clear hcz38_4
    try clear hcz38_5
    try clear hcz40_0
    try clear hcz40_1
    try clear hcz40_2
    try clear hcz40_3
    try clear hcz40_4
    try clear hcz40_5
    try clear hcz42_0
    try clear hcz42_1
    try clear hcz42_2
    try clear hcz42_3
    try clear hcz42_4
    try clear hcz42_5
    try clear hcz44_0
    try clear hcz44_1
    try clear hcz44_2
    try clear hcz44_3
    try clear hcz44_4
    try clear hcz44_5
    try clear hcz46_0
    try clear hcz46_1
    try clear hcz46_2
    try clear hcz46_3
    try clear hcz46_4
    try clear hcz46_5
    try clear hcz8_0
    try clear hcz8_1
    try clear hcz8_2
    try clear hcz8_3
    try clear hcz8_4
    try clear hcz8_5
    try clear hfz16_0
    try clear hfz16_1
    try clear hfz16_2
    try clear hfz16_3
    try clear hfz16_4
    try clear hfz16_5
    try clear hfz18_0
    try clear hfz18_1
    try clear hfz18_2
    try clear hfz18_3
    try clear hfz18_4
    try clear hfz18_5
    try clear hfz20_0
    try clear hfz20_1
    try clear hfz20_2
    try clear hfz20_3
    try clear hfz20_4
    try clear hfz20_5
    try clear hfz22_0
    try clear hfz22_1
    try clear hfz22_2
    try clear hfz22_3
    try clear hfz22_4
    try clear hfz22_5
    try clear hfz24_0
    try clear hfz24_1
    try clear hfz24_2
    try clear hfz24_3
    try clear hfz24_4
    try clear hfz24_5
    try clear hfz38_0
    try clear hfz38_1
    try clear hfz38_2
    try clear hfz38_3
    try clear hfz38_4
    try clear hfz38_5
    try clear hfz40_0
    try clear hfz40_1
    try clear hfz40_2
    try clear hfz40_3
    try clear hfz40_4
    try clear hfz40_5
    try clear hfz42_0
    try clear hfz42_1
    try clear hfz42_2
    try clear hfz42_3
    try clear hfz42_4
    try clear hfz42_5
    try clear hfz44_0
    try clear hfz44_1
    try clear hfz44_2
    try clear hfz44_3
    try clear hfz44_4
    try clear hfz44_5
    try clear hfz46_0
    try clear hfz46_1
    try clear hfz46_2
    try clear hfz46_3
    try clear hfz46_4
    try clear hfz46_5
    try clear hfz8_0
    try clear hfz8_1
    try clear hfz8_2
    try clear hfz8_3
    try clear hfz8_4
    try clear hfz8_5
    try clear hx450_0
    try clear hx456_0
    try clear p2
    try clear p450
    try clear p456
    try clear q450
    try clear q456
    obtain ⟨kq, x75_30, rfl, HA, HJ30, HO_3, HO_4, HO_5, HO_6, BK435, HB⟩ := hcut
    cases kq with
    | zero => exact absurd HA.out (by simp [truantlaw10_DomChain.j1])
    | succ kj30 =>
     have H := HA.out
     clear HA
     simp only [truantlaw10_DomChain.j1] at H
     by_cases c48 : x75_30 = true
     ·subst c48
      have H1 : (none) = some r := by rw [if_pos rfl] at H; exact H
      clear H
      have H := H1
      clear H1
      exact absurd H (by simp)
     replace c48 := Bool.eq_false_iff.mpr c48
     subst c48
     have H1 : (truantlaw10_DomChain.l1 kj30 t438 t441 t444 t447 x7_1 0 0 a0_0 l0_1 a0_2 l0_3 l0_4 l0_5) = some r := by rw [if_neg (show ¬ (false = true) by decide)] at H; exact H
     clear H
     have H := H1
     clear H1
     have H' := Aside0.mk H
     clear H
     go_wp2
     go_loopg [8, 9] kj30 (fun kq v8 v9 w' => ∃ (x8_3 : Int) (x9_3 : Int), v8 = .int .i64 x8_3 ∧ v9 = .int .i64 x9_3 ∧ Aside0 (truantlaw10_DomChain.l1 kq t438 t441 t444 t447 x7_1 x8_3 x9_3 a0_0 l0_1 a0_2 l0_3 l0_4 l0_5 = some r) ∧ Aside0 (kq ≤ kj30) ∧ Aside0 (Kd.R (Kd.int .i64) 3 w' w.heap.size (fun _ => True) (.slice Ao32 t438.length co32) t438) ∧ Aside0 (Kd.S (Kd.slice 3 (Kd.int .i64)) 34 w' w.heap.size (fun k_ => some k_ ≠ ((.slice Ao32 t438.length co32) : Value).ownBlock ∧ some k_ ≠ (v448 : Value).ownBlock) v442 t441) ∧ Aside0 (Kd.R Kd.bool 4 w' w.heap.size (fun _ => True) (.slice (some ad450) t444.length co33) t444) ∧ Aside0 (Kd.S (Kd.slice 3 (Kd.int .i64)) 34 w' w.heap.size (fun k_ => some k_ ≠ ((.slice Ao32 t438.length co32) : Value).ownBlock ∧ some k_ ≠ (v442 : Value).ownBlock) v448 t447) ∧ Aside0 (w'.heap[gb435]? = some (.cells #[.string a0_0, (.slice A0_1 l0_1.length c0_1), .string a0_2, (.slice A0_3 l0_3.length c0_3), (.slice A0_4 l0_4.length c0_4), (.slice A0_5 l0_5.length c0_5)] 26 (0, 0))) ∧ Aside0 (Below w.heap.size w w'))
     case atStart => exact ⟨(0), (0), (by first | rfl | (simp; done) | (simp [*]; done)), (by first | rfl | (simp; done) | (simp [*]; done)), H', ⟨Nat.le_refl _⟩, ⟨by (with_reducible repeat (first | apply Kd.R_alloc | apply Kd.R_drewN | apply Kd.R_drew)); exact HO_3.out⟩, ⟨by (with_reducible repeat (first | apply Kd.S_alloc | apply Kd.S_drewN | apply Kd.S_drew)); exact HO_4.out⟩, ⟨by (with_reducible repeat (first | apply Kd.R_alloc | apply Kd.R_drewN | apply Kd.R_drew)); exact HO_5.out⟩, ⟨by (with_reducible repeat (first | apply Kd.S_alloc | apply Kd.S_drewN | apply Kd.S_drew)); exact HO_6.out⟩, ⟨by (with_reducible repeat (first | refine blk_drewN ?_ _ | refine blk_drew ?_ | refine blk_alloc ?_ _)); exact BK435.out⟩, ⟨by repeat (first | (with_reducible first | exact HB.out | apply below_alloc | apply pw_below_drewN | apply below_drew1 | refine below_set ?_ GE435.out) | exact HB.out)⟩⟩
     case round =>
      clear H'
      try clear c1
      try clear c2
      try clear p2
      try clear q2
      try clear c3
      try clear c4
      try clear p4
      try clear q4
      try clear hx4
      try clear c5
      try clear p6
      try clear c12
      try clear c16
      try clear c17
      try clear c26
      try clear c26b0
      try clear c27
      try clear c27b0
      try clear c28
      try clear c28b0
      try clear q29
      try clear c30
      try clear c35
      try clear c37
      try clear c38
      try clear c39
      try clear c40
      try clear c43
      try clear c45
      try clear p45
      try clear q45
      try clear hx45
      try clear c48
      try clear hcz16_0
      try clear hcz16_1
      try clear hcz16_2
      try clear hcz16_3
      try clear hcz16_4
      try clear hcz16_5
      try clear hcz18_0
      try clear hcz18_1
      try clear hcz18_2
      try clear hcz18_3
      try clear hcz18_4
      try clear hcz18_5
      try clear hcz20_0
      try clear hcz20_1
      try clear hcz20_2
      try clear hcz20_3
      try clear hcz20_4
      try clear hcz20_5
      try clear hcz22_0
      try clear hcz22_1
      try clear hcz22_2
      try clear hcz22_3
      try clear hcz22_4
      try clear hcz22_5
      try clear hcz24_0
      try clear hcz24_1
      try clear hcz24_2
      try clear hcz24_3
      try clear hcz24_4
      try clear hcz24_5
      try clear hcz38_0
      try clear hcz38_1
      try clear hcz38_2
      try clear hcz38_3
      try clear hcz38_4
      try clear hcz38_5
      try clear hcz40_0
      try clear hcz40_1
      try clear hcz40_2
      try clear hcz40_3
      try clear hcz40_4
      try clear hcz40_5
      try clear hcz42_0
      try clear hcz42_1
      try clear hcz42_2
      try clear hcz42_3
      try clear hcz42_4
      try clear hcz42_5
      try clear hcz44_0
      try clear hcz44_1
      try clear hcz44_2
      try clear hcz44_3
      try clear hcz44_4
      try clear hcz44_5
      try clear hcz46_0
      try clear hcz46_1
      try clear hcz46_2
      try clear hcz46_3
      try clear hcz46_4
      try clear hcz46_5
      try clear hcz8_0
      try clear hcz8_1
      try clear hcz8_2
      try clear hcz8_3
      try clear hcz8_4
      try clear hcz8_5
      try clear hfz16_0
      try clear hfz16_1
      try clear hfz16_2
      try clear hfz16_3
      try clear hfz16_4
      try clear hfz16_5
      try clear hfz18_0
      try clear hfz18_1
      try clear hfz18_2
      try clear hfz18_3
      try clear hfz18_4
      try clear hfz18_5
      try clear hfz20_0
      try clear hfz20_1
      try clear hfz20_2
      try clear hfz20_3
      try clear hfz20_4
      try clear hfz20_5
      try clear hfz22_0
      try clear hfz22_1
      try clear hfz22_2
      try clear hfz22_3
      try clear hfz22_4
      try clear hfz22_5
      try clear hfz24_0
      try clear hfz24_1
      try clear hfz24_2
      try clear hfz24_3
      try clear hfz24_4
      try clear hfz24_5
      try clear hfz38_0
      try clear hfz38_1
      try clear hfz38_2
      try clear hfz38_3
      try clear hfz38_4
      try clear hfz38_5
      try clear hfz40_0
      try clear hfz40_1
      try clear hfz40_2
      try clear hfz40_3
      try clear hfz40_4
      try clear hfz40_5
      try clear hfz42_0
      try clear hfz42_1
      try clear hfz42_2
      try clear hfz42_3
      try clear hfz42_4
      try clear hfz42_5
      try clear hfz44_0
      try clear hfz44_1
      try clear hfz44_2
      try clear hfz44_3
      try clear hfz44_4
      try clear hfz44_5
      try clear hfz46_0
      try clear hfz46_1
      try clear hfz46_2
      try clear hfz46_3
      try clear hfz46_4
      try clear hfz46_5
      try clear hfz8_0
      try clear hfz8_1
      try clear hfz8_2
      try clear hfz8_3
      try clear hfz8_4
      try clear hfz8_5
      try clear hx450_0
      try clear hx456_0
      try clear p2
      try clear p4
      try clear p45
      try clear p450
      try clear p456
      try clear p6
      try clear q2
      try clear q29
      try clear q4
      try clear q45
      try clear q450
      try clear q456
      obtain ⟨x8_3, x9_3, rfl, rfl, HA, HK3, HO_3, HO_4, HO_5, HO_6, BK435, HB⟩ := hrel
      cases gk with
      | zero => exact absurd HA.out (by simp [truantlaw10_DomChain.l1])
      | succ k3 =>
       have H := HA.out
       clear HA
       simp only [truantlaw10_DomChain.l1] at H
       by_cases c49 : x9_3 < (t438.length : Int)
       ·rw [if_pos c49] at H
        have c49b0 : decide (x9_3 < (t438.length : Int)) = true := decide_eq_true c49
        clear c49
        replace H := Option.bind_eq_some_iff.mp H
        obtain ⟨t457, A500, H⟩ := H
        replace H : (if t457 = true then (if x9_3 = x7_1 then (truantlaw10_DomChain.l1 k3 t438 t441 t444 t447 x7_1 (wrap64 (x8_3 + 1)) (wrap64 (x9_3 + 1)) a0_0 l0_1 a0_2 l0_3 l0_4 l0_5) else (if 0 ≤ x7_1 then (if x7_1 < (t438.length : Int) then ((dom_Is.f a0_0 l0_1 a0_2 l0_3 l0_4 l0_5 x9_3 (rd t438 x7_1)).bind fun t459 => (if t459 = true then (truantlaw10_DomChain.l1 k3 t438 t441 t444 t447 x7_1 (wrap64 (x8_3 + 1)) (wrap64 (x9_3 + 1)) a0_0 l0_1 a0_2 l0_3 l0_4 l0_5) else (none))) else (none)) else (none))) else (truantlaw10_DomChain.l1 k3 t438 t441 t444 t447 x7_1 x8_3 (wrap64 (x9_3 + 1)) a0_0 l0_1 a0_2 l0_3 l0_4 l0_5)) = some r := H
        have A50 := Aside0.mk A500
        clear A500
        by_cases c51 : t457 = true
        rotate_left
        ·replace c51 := Bool.eq_false_iff.mpr c51
         subst c51
         have H1 : (truantlaw10_DomChain.l1 k3 t438 t441 t444 t447 x7_1 x8_3 (wrap64 (x9_3 + 1)) a0_0 l0_1 a0_2 l0_3 l0_4 l0_5) = some r := by rw [if_neg (show ¬ (false = true) by decide)] at H; exact H
         clear H
         have H := H1
         clear H1
         have H' := Aside0.mk H
         clear H
         have hcz64_0 : wr.cell? ⟨gb435, 0, none⟩ = some (.string a0_0) := (blk_cell BK435.out 0).trans rfl
         have hcz64_1 : wr.cell? ⟨gb435, 1, none⟩ = some (.slice A0_1 l0_1.length c0_1) := (blk_cell BK435.out 1).trans rfl
         have hcz64_2 : wr.cell? ⟨gb435, 2, none⟩ = some (.string a0_2) := (blk_cell BK435.out 2).trans rfl
         have hcz64_3 : wr.cell? ⟨gb435, 3, none⟩ = some (.slice A0_3 l0_3.length c0_3) := (blk_cell BK435.out 3).trans rfl
         have hcz64_4 : wr.cell? ⟨gb435, 4, none⟩ = some (.slice A0_4 l0_4.length c0_4) := (blk_cell BK435.out 4).trans rfl
         have hcz64_5 : wr.cell? ⟨gb435, 5, none⟩ = some (.slice A0_5 l0_5.length c0_5) := (blk_cell BK435.out 5).trans rfl
         have hfz64_0 := blk_frozen BK435.out 0
         have hfz64_1 := blk_frozen BK435.out 1
         have hfz64_2 := blk_frozen BK435.out 2
         have hfz64_3 := blk_frozen BK435.out 3
         have hfz64_4 := blk_frozen BK435.out 4
         have hfz64_5 := blk_frozen BK435.out 5
         go_wp2_with (first | ((with_reducible refine gate_callee (f := 43) rfl ?_); refine goesL_ (some 85) rfl rfl Try.func43 (by kernel_rfl) rfl #[.agg #[.string a0_0, .slice A0_1 l0_1.length c0_1, .string a0_2, .slice A0_3 l0_3.length c0_3, .slice A0_4 l0_4.length c0_4, .slice A0_5 l0_5.length c0_5], .int .i64 x9_3, .int .i64 x7_1] rfl (by (try simp only [List.map_toArray, List.map_cons, List.map_nil]); first | done | rfl | (simp only [List.length_drop, List.length_take]; rfl)) ?_; (with_reducible refine (dom_Is.calls a0_0 _ _ l0_1 a0_2 _ _ l0_3 _ _ l0_4 _ _ l0_5 x9_3 x7_1 false _ ?side1 ?side2 ?side3 ?side4 ?side5 ?side6 ?side7 ?side8 A50.out).mono ?_); (case side1 => repeat (first | exact (Kd.C_below HR0_1.out HB.out) | (with_reducible refine Kd.C_alloc ?_ _) | (with_reducible refine Kd.C_drewN ?_ _) | (with_reducible refine Kd.C_drew ?_))); (case side2 => exact HC0_1.out); (case side3 => repeat (first | exact (Kd.C_below HR0_3.out HB.out) | (with_reducible refine Kd.C_alloc ?_ _) | (with_reducible refine Kd.C_drewN ?_ _) | (with_reducible refine Kd.C_drew ?_))); (case side4 => exact HC0_3.out); (case side5 => repeat (first | exact (Kd.C_below HR0_4.out HB.out) | (with_reducible refine Kd.C_alloc ?_ _) | (with_reducible refine Kd.C_drewN ?_ _) | (with_reducible refine Kd.C_drew ?_))); (case side6 => exact HC0_4.out); (case side7 => repeat (first | exact (Kd.C_below HR0_5.out HB.out) | (with_reducible refine Kd.C_alloc ?_ _) | (with_reducible refine Kd.C_drewN ?_ _) | (with_reducible refine Kd.C_drew ?_))); (case side8 => exact HC0_5.out); rintro e w65 ⟨rfl, hb⟩; refine ⟨_, rfl, ?_⟩; have n0_ := Aside0.mk (Kd.R_below (by (with_reducible repeat (first | apply Kd.R_alloc | apply Kd.R_drewN | apply Kd.R_drew)); exact HO_3.out) hb); have n1_ := Aside0.mk (Kd.S_below (by (with_reducible repeat (first | apply Kd.S_alloc | apply Kd.S_drewN | apply Kd.S_drew)); exact HO_4.out) hb); have n2_ := Aside0.mk (Kd.R_below (by (with_reducible repeat (first | apply Kd.R_alloc | apply Kd.R_drewN | apply Kd.R_drew)); exact HO_5.out) hb); have n3_ := Aside0.mk (Kd.S_below (by (with_reducible repeat (first | apply Kd.S_alloc | apply Kd.S_drewN | apply Kd.S_drew)); exact HO_6.out) hb); have n4_ := Aside0.mk (blk_below (g := gb435) (o := .cells #[.string a0_0, .slice A0_1 l0_1.length c0_1, .string a0_2, .slice A0_3 l0_3.length c0_3, .slice A0_4 l0_4.length c0_4, .slice A0_5 l0_5.length c0_5] 26 (0, 0)) (by (with_reducible repeat (first | refine blk_drewN ?_ _ | refine blk_drew ?_ | refine blk_alloc ?_ _)); exact BK435.out) hb); have n5_ := Aside0.mk (below_step (by repeat (first | (with_reducible first | exact HB.out | apply below_alloc | apply pw_below_drewN | apply below_drew1 | refine below_set ?_ GE435.out) | exact HB.out)) hb); clear HO_3; clear HO_4; clear HO_5; clear HO_6; clear BK435; clear HB; have HO_3 := n0_; have HO_4 := n1_; have HO_5 := n2_; have HO_6 := n3_; have BK435 := n4_; have HB := n5_; clear n0_ n1_ n2_ n3_ n4_ n5_; (try clear hb); (try clear hb2); (try clear hk); (try clear hi)))
         go_roundg k3
         case measure => have := HK1.out; have := HJ30.out; have := HK3.out; omega
         case rel => exact ⟨(x8_3), (wrap64 (x9_3 + 1)), (by first | rfl | (simp; done) | (simp [*]; done)), (by first | rfl | (simp; done) | (simp [*]; done)), H', ⟨by have := HK1.out; have := HJ30.out; have := HK3.out; omega⟩, ⟨by (with_reducible repeat (first | apply Kd.R_alloc | apply Kd.R_drewN | apply Kd.R_drew)); exact HO_3.out⟩, ⟨by (with_reducible repeat (first | apply Kd.S_alloc | apply Kd.S_drewN | apply Kd.S_drew)); exact HO_4.out⟩, ⟨by (with_reducible repeat (first | apply Kd.R_alloc | apply Kd.R_drewN | apply Kd.R_drew)); exact HO_5.out⟩, ⟨by (with_reducible repeat (first | apply Kd.S_alloc | apply Kd.S_drewN | apply Kd.S_drew)); exact HO_6.out⟩, ⟨by (with_reducible repeat (first | refine blk_drewN ?_ _ | refine blk_drew ?_ | refine blk_alloc ?_ _)); exact BK435.out⟩, ⟨by repeat (first | (with_reducible first | exact HB.out | apply below_alloc | apply pw_below_drewN | apply below_drew1 | refine below_set ?_ GE435.out) | exact HB.out)⟩⟩
        subst c51
        have H1 : (if x9_3 = x7_1 then (truantlaw10_DomChain.l1 k3 t438 t441 t444 t447 x7_1 (wrap64 (x8_3 + 1)) (wrap64 (x9_3 + 1)) a0_0 l0_1 a0_2 l0_3 l0_4 l0_5) else (if 0 ≤ x7_1 then (if x7_1 < (t438.length : Int) then ((dom_Is.f a0_0 l0_1 a0_2 l0_3 l0_4 l0_5 x9_3 (rd t438 x7_1)).bind fun t459 => (if t459 = true then (truantlaw10_DomChain.l1 k3 t438 t441 t444 t447 x7_1 (wrap64 (x8_3 + 1)) (wrap64 (x9_3 + 1)) a0_0 l0_1 a0_2 l0_3 l0_4 l0_5) else (none))) else (none)) else (none))) = some r := by rw [if_pos rfl] at H; exact H
        clear H
        have H := H1
        clear H1
        by_cases c52 : x9_3 = x7_1
        ·rw [if_pos c52] at H
         have c52b0 : (x9_3 == x7_1) = true := beq_iff_eq.mpr c52
         have c52b1 : (x9_3 != x7_1) = false := bne_eq_false_iff_eq.mpr c52
         clear c52
         have H' := Aside0.mk H
         clear H
         have hcz53_0 : wr.cell? ⟨gb435, 0, none⟩ = some (.string a0_0) := (blk_cell BK435.out 0).trans rfl
         have hcz53_1 : wr.cell? ⟨gb435, 1, none⟩ = some (.slice A0_1 l0_1.length c0_1) := (blk_cell BK435.out 1).trans rfl
         have hcz53_2 : wr.cell? ⟨gb435, 2, none⟩ = some (.string a0_2) := (blk_cell BK435.out 2).trans rfl
         have hcz53_3 : wr.cell? ⟨gb435, 3, none⟩ = some (.slice A0_3 l0_3.length c0_3) := (blk_cell BK435.out 3).trans rfl
         have hcz53_4 : wr.cell? ⟨gb435, 4, none⟩ = some (.slice A0_4 l0_4.length c0_4) := (blk_cell BK435.out 4).trans rfl
         have hcz53_5 : wr.cell? ⟨gb435, 5, none⟩ = some (.slice A0_5 l0_5.length c0_5) := (blk_cell BK435.out 5).trans rfl
         have hfz53_0 := blk_frozen BK435.out 0
         have hfz53_1 := blk_frozen BK435.out 1
         have hfz53_2 := blk_frozen BK435.out 2
         have hfz53_3 := blk_frozen BK435.out 3
         have hfz53_4 := blk_frozen BK435.out 4
         have hfz53_5 := blk_frozen BK435.out 5
         try go_wp2_with (first | ((with_reducible refine gate_callee (f := 43) rfl ?_); refine goesL_ (some 85) rfl rfl Try.func43 (by kernel_rfl) rfl #[.agg #[.string a0_0, .slice A0_1 l0_1.length c0_1, .string a0_2, .slice A0_3 l0_3.length c0_3, .slice A0_4 l0_4.length c0_4, .slice A0_5 l0_5.length c0_5], .int .i64 x9_3, .int .i64 x7_1] rfl (by (try simp only [List.map_toArray, List.map_cons, List.map_nil]); first | done | rfl | (simp only [List.length_drop, List.length_take]; rfl)) ?_; (with_reducible refine (dom_Is.calls a0_0 _ _ l0_1 a0_2 _ _ l0_3 _ _ l0_4 _ _ l0_5 x9_3 x7_1 true _ ?side1 ?side2 ?side3 ?side4 ?side5 ?side6 ?side7 ?side8 A50.out).mono ?_); (case side1 => repeat (first | exact (Kd.C_below HR0_1.out HB.out) | (with_reducible refine Kd.C_alloc ?_ _) | (with_reducible refine Kd.C_drewN ?_ _) | (with_reducible refine Kd.C_drew ?_))); (case side2 => exact HC0_1.out); (case side3 => repeat (first | exact (Kd.C_below HR0_3.out HB.out) | (with_reducible refine Kd.C_alloc ?_ _) | (with_reducible refine Kd.C_drewN ?_ _) | (with_reducible refine Kd.C_drew ?_))); (case side4 => exact HC0_3.out); (case side5 => repeat (first | exact (Kd.C_below HR0_4.out HB.out) | (with_reducible refine Kd.C_alloc ?_ _) | (with_reducible refine Kd.C_drewN ?_ _) | (with_reducible refine Kd.C_drew ?_))); (case side6 => exact HC0_4.out); (case side7 => repeat (first | exact (Kd.C_below HR0_5.out HB.out) | (with_reducible refine Kd.C_alloc ?_ _) | (with_reducible refine Kd.C_drewN ?_ _) | (with_reducible refine Kd.C_drew ?_))); (case side8 => exact HC0_5.out); rintro e w54 ⟨rfl, hb⟩; refine ⟨_, rfl, ?_⟩; have n0_ := Aside0.mk (Kd.R_below (by (with_reducible repeat (first | apply Kd.R_alloc | apply Kd.R_drewN | apply Kd.R_drew)); exact HO_3.out) hb); have n1_ := Aside0.mk (Kd.S_below (by (with_reducible repeat (first | apply Kd.S_alloc | apply Kd.S_drewN | apply Kd.S_drew)); exact HO_4.out) hb); have n2_ := Aside0.mk (Kd.R_below (by (with_reducible repeat (first | apply Kd.R_alloc | apply Kd.R_drewN | apply Kd.R_drew)); exact HO_5.out) hb); have n3_ := Aside0.mk (Kd.S_below (by (with_reducible repeat (first | apply Kd.S_alloc | apply Kd.S_drewN | apply Kd.S_drew)); exact HO_6.out) hb); have n4_ := Aside0.mk (blk_below (g := gb435) (o := .cells #[.string a0_0, .slice A0_1 l0_1.length c0_1, .string a0_2, .slice A0_3 l0_3.length c0_3, .slice A0_4 l0_4.length c0_4, .slice A0_5 l0_5.length c0_5] 26 (0, 0)) (by (with_reducible repeat (first | refine blk_drewN ?_ _ | refine blk_drew ?_ | refine blk_alloc ?_ _)); exact BK435.out) hb); have n5_ := Aside0.mk (below_step (by repeat (first | (with_reducible first | exact HB.out | apply below_alloc | apply pw_below_drewN | apply below_drew1 | refine below_set ?_ GE435.out) | exact HB.out)) hb); clear HO_3; clear HO_4; clear HO_5; clear HO_6; clear BK435; clear HB; have HO_3 := n0_; have HO_4 := n1_; have HO_5 := n2_; have HO_6 := n3_; have BK435 := n4_; have HB := n5_; clear n0_ n1_ n2_ n3_ n4_ n5_; (try clear hb); (try clear hb2); (try clear hk); (try clear hi)))
         have n0_ := Aside0.mk (Kd.R_drew HO_3.out)
         have n1_ := Aside0.mk (Kd.S_drew HO_4.out)
         have n2_ := Aside0.mk (Kd.R_drew HO_5.out)
         have n3_ := Aside0.mk (Kd.S_drew HO_6.out)
         have n4_ := Aside0.mk (blk_drew BK435.out)
         have n5_ := Aside0.mk (below_drew1 HB.out)
         clear HO_3
         clear HO_4
         clear HO_5
         clear HO_6
         clear BK435
         clear HB
         have HO_3 := n0_
         have HO_4 := n1_
         have HO_5 := n2_
         have HO_6 := n3_
         have BK435 := n4_
         have HB := n5_
         clear n0_ n1_ n2_ n3_ n4_ n5_
         refine start_ (n := 13) (S := fun w' => True) (ds := []) #[false, false, false, false, false, false, false, false, false, false, false, false, false] (by kernel_rfl) rfl rfl trivial (fun hHeld => ?_); refine with_tabW truantlaw10_DomChain.tab23 truantlaw10_DomChain.bits23 (fun HT_ HW_ => ?_)
         generalize w54.drew = w55 at HO_3 HO_4 HO_5 HO_6 BK435 HB hHeld ⊢
         refine pure_ (i := 0) (N := some 89) (v := ?_) (a' := ?_) #[true, false, false, false, false, false, false, false, false, false, false, false, false] rfl rfl (any_of HT_.out (by kernel_rfl)) (fun _ _ _ h => h) (Or.inl ⟨by rfl, ?_⟩) ?_ ?_
         rotate_left
         ·intro w'
          go_simp
          with_reducible rfl
         rotate_left
         ·simp only [Act.put, List.setIfInBounds_toArray, List.set_cons_zero, List.set_cons_succ, i64_w, i32_w]
          rfl
         refine pure_ (i := 1) (N := some 90) (v := ?_) (a' := ?_) #[true, true, false, false, false, false, false, false, false, false, false, false, false] rfl rfl (any_of HT_.out (by kernel_rfl)) (fun _ _ _ h => h) (Or.inl ⟨by rfl, ?_⟩) ?_ ?_
         rotate_left
         ·intro w'
          go_simp
          with_reducible rfl
         rotate_left
         ·simp only [Act.put, List.setIfInBounds_toArray, List.set_cons_zero, List.set_cons_succ, i64_w, i32_w]
          rfl
         refine pure_ (i := 2) (N := some 91) (v := ?_) (a' := ?_) #[true, true, true, false, false, false, false, false, false, false, false, false, false] rfl rfl (any_of HT_.out (by kernel_rfl)) (fun _ _ _ h => h) (Or.inl ⟨by rfl, ?_⟩) ?_ ?_
         rotate_left
         ·intro w'
          go_simp
          with_reducible rfl
         rotate_left
         ·simp only [Act.put, List.setIfInBounds_toArray, List.set_cons_zero, List.set_cons_succ, i64_w, i32_w]
          rfl
         refine pure_ (i := 3) (N := some 92) (v := ?_) (a' := ?_) #[true, true, true, true, false, false, false, false, false, false, false, false, false] rfl rfl (any_of HT_.out (by kernel_rfl)) (fun _ _ _ h => h) (Or.inl ⟨by rfl, ?_⟩) ?_ ?_
         rotate_left
         ·intro w'
          go_simp
          with_reducible rfl
         rotate_left
         ·simp only [Act.put, List.setIfInBounds_toArray, List.set_cons_zero, List.set_cons_succ, i64_w, i32_w]
          rfl
         refine pure_ (i := 4) (N := some 93) (v := undef) (a' := ?_) #[true, true, true, true, true, false, false, false, false, false, false, false, false] rfl rfl (any_of HT_.out (by kernel_rfl)) (fun _ _ _ h => h) (Or.inr ⟨by rfl, rfl⟩) ?_ ?_
         rotate_left
         ·simp only [Act.put, List.setIfInBounds_toArray, List.set_cons_zero, List.set_cons_succ, i64_w, i32_w]
          rfl
         refine pure_ (i := 5) (N := some 94) (v := undef) (a' := ?_) #[true, true, true, true, true, true, false, false, false, false, false, false, false] rfl rfl (any_of HT_.out (by kernel_rfl)) (fun _ _ _ h => h) (Or.inr ⟨by rfl, rfl⟩) ?_ ?_
         rotate_left
         ·simp only [Act.put, List.setIfInBounds_toArray, List.set_cons_zero, List.set_cons_succ, i64_w, i32_w]
          rfl
         refine pure_ (i := 6) (N := some 95) (v := undef) (a' := ?_) #[true, true, true, true, true, true, true, false, false, false, false, false, false] rfl rfl (any_of HT_.out (by kernel_rfl)) (fun _ _ _ h => h) (Or.inr ⟨by rfl, rfl⟩) ?_ ?_
         rotate_left
         ·simp only [Act.put, List.setIfInBounds_toArray, List.set_cons_zero, List.set_cons_succ, i64_w, i32_w]
          rfl
         refine pure_ (i := 7) (N := some 96) (v := undef) (a' := ?_) #[true, true, true, true, true, true, true, true, false, false, false, false, false] rfl rfl (any_of HT_.out (by kernel_rfl)) (fun _ _ _ h => h) (Or.inr ⟨by rfl, rfl⟩) ?_ ?_
         rotate_left
         ·simp only [Act.put, List.setIfInBounds_toArray, List.set_cons_zero, List.set_cons_succ, i64_w, i32_w]
          rfl
         refine pure_ (i := 8) (N := some 97) (v := undef) (a' := ?_) #[true, true, true, true, true, true, true, true, true, false, false, false, false] rfl rfl (any_of HT_.out (by kernel_rfl)) (fun _ _ _ h => h) (Or.inr ⟨by rfl, rfl⟩) ?_ ?_
         rotate_left
         ·simp only [Act.put, List.setIfInBounds_toArray, List.set_cons_zero, List.set_cons_succ, i64_w, i32_w]
          rfl
         refine pure_ (i := 9) (N := some 98) (v := undef) (a' := ?_) #[true, true, true, true, true, true, true, true, true, true, false, false, false] rfl rfl (any_of HT_.out (by kernel_rfl)) (fun _ _ _ h => h) (Or.inr ⟨by rfl, rfl⟩) ?_ ?_
         rotate_left
         ·simp only [Act.put, List.setIfInBounds_toArray, List.set_cons_zero, List.set_cons_succ, i64_w, i32_w]
          rfl
         refine pure_ (i := 10) (N := some 99) (v := undef) (a' := ?_) #[true, true, true, true, true, true, true, true, true, true, true, false, false] rfl rfl (any_of HT_.out (by kernel_rfl)) (fun _ _ _ h => h) (Or.inr ⟨by rfl, rfl⟩) ?_ ?_
         rotate_left
         ·simp only [Act.put, List.setIfInBounds_toArray, List.set_cons_zero, List.set_cons_succ, i64_w, i32_w]
          rfl
         refine pure_ (i := 11) (N := some 100) (v := undef) (a' := ?_) #[true, true, true, true, true, true, true, true, true, true, true, true, false] rfl rfl (any_of HT_.out (by kernel_rfl)) (fun _ _ _ h => h) (Or.inr ⟨by rfl, rfl⟩) ?_ ?_
         rotate_left
         ·simp only [Act.put, List.setIfInBounds_toArray, List.set_cons_zero, List.set_cons_succ, i64_w, i32_w]
          rfl
         refine pure_ (i := 12) (N := some 101) (v := ?_) (a' := ?_) #[true, true, true, true, true, true, true, true, true, true, true, true, true] rfl rfl (any_of HT_.out (by kernel_rfl)) (fun _ _ _ h => h) (Or.inl ⟨by rfl, ?_⟩) ?_ ?_
         rotate_left
         ·intro w'
          go_simp
          with_reducible rfl
         rotate_left
         ·simp only [Act.put, List.setIfInBounds_toArray, List.set_cons_zero, List.set_cons_succ, i64_w, i32_w]
          rfl
         refine done_ (done_of HT_.out (by kernel_rfl)) ?_
         try go_wp2
         go_roundg k3
         case measure => have := HK1.out; have := HJ30.out; have := HK3.out; omega
         case rel => exact ⟨(wrap64 (x8_3 + 1)), (wrap64 (x9_3 + 1)), (by first | rfl | (simp; done) | (simp [*]; done)), (by first | rfl | (simp; done) | (simp [*]; done)), H', ⟨by have := HK1.out; have := HJ30.out; have := HK3.out; omega⟩, ⟨by (with_reducible repeat (first | apply Kd.R_alloc | apply Kd.R_drewN | apply Kd.R_drew)); exact HO_3.out⟩, ⟨by (with_reducible repeat (first | apply Kd.S_alloc | apply Kd.S_drewN | apply Kd.S_drew)); exact HO_4.out⟩, ⟨by (with_reducible repeat (first | apply Kd.R_alloc | apply Kd.R_drewN | apply Kd.R_drew)); exact HO_5.out⟩, ⟨by (with_reducible repeat (first | apply Kd.S_alloc | apply Kd.S_drewN | apply Kd.S_drew)); exact HO_6.out⟩, ⟨by (with_reducible repeat (first | refine blk_drewN ?_ _ | refine blk_drew ?_ | refine blk_alloc ?_ _)); exact BK435.out⟩, ⟨by repeat (first | (with_reducible first | exact HB.out | apply below_alloc | apply pw_below_drewN | apply below_drew1 | refine below_set ?_ GE435.out) | exact HB.out)⟩⟩
        rw [if_neg c52] at H
        have c52b0 : (x9_3 == x7_1) = false := beq_eq_false_iff_ne.mpr c52
        have c52b1 : (x9_3 != x7_1) = true := bne_iff_ne.mpr c52
        by_cases c56 : 0 ≤ x7_1
        rotate_left
        ·rw [if_neg c56] at H
         exact absurd H (by simp)
        rw [if_pos c56] at H
        have c56b0 : decide (0 ≤ x7_1) = true := decide_eq_true c56
        clear c56
        by_cases c57 : x7_1 < (t438.length : Int)
        rotate_left
        ·rw [if_neg c57] at H
         exact absurd H (by simp)
        rw [if_pos c57] at H
        have c57b0 : decide (x7_1 < (t438.length : Int)) = true := decide_eq_true c57
        clear c57
        replace H := Option.bind_eq_some_iff.mp H
        obtain ⟨t459, A580, H⟩ := H
        replace H : (if t459 = true then (truantlaw10_DomChain.l1 k3 t438 t441 t444 t447 x7_1 (wrap64 (x8_3 + 1)) (wrap64 (x9_3 + 1)) a0_0 l0_1 a0_2 l0_3 l0_4 l0_5) else (none)) = some r := H
        have A58 := Aside0.mk A580
        clear A580
        by_cases c59 : t459 = true
        rotate_left
        ·replace c59 := Bool.eq_false_iff.mpr c59
         subst c59
         have H1 : (none) = some r := by rw [if_neg (show ¬ (false = true) by decide)] at H; exact H
         clear H
         have H := H1
         clear H1
         exact absurd H (by simp)
        subst c59
        have H1 : (truantlaw10_DomChain.l1 k3 t438 t441 t444 t447 x7_1 (wrap64 (x8_3 + 1)) (wrap64 (x9_3 + 1)) a0_0 l0_1 a0_2 l0_3 l0_4 l0_5) = some r := by rw [if_pos rfl] at H; exact H
        clear H
        have H := H1
        clear H1
        have H' := Aside0.mk H
        clear H
        have hcz60_0 : wr.cell? ⟨gb435, 0, none⟩ = some (.string a0_0) := (blk_cell BK435.out 0).trans rfl
        have hcz60_1 : wr.cell? ⟨gb435, 1, none⟩ = some (.slice A0_1 l0_1.length c0_1) := (blk_cell BK435.out 1).trans rfl
        have hcz60_2 : wr.cell? ⟨gb435, 2, none⟩ = some (.string a0_2) := (blk_cell BK435.out 2).trans rfl
        have hcz60_3 : wr.cell? ⟨gb435, 3, none⟩ = some (.slice A0_3 l0_3.length c0_3) := (blk_cell BK435.out 3).trans rfl
        have hcz60_4 : wr.cell? ⟨gb435, 4, none⟩ = some (.slice A0_4 l0_4.length c0_4) := (blk_cell BK435.out 4).trans rfl
        have hcz60_5 : wr.cell? ⟨gb435, 5, none⟩ = some (.slice A0_5 l0_5.length c0_5) := (blk_cell BK435.out 5).trans rfl
        have hfz60_0 := blk_frozen BK435.out 0
        have hfz60_1 := blk_frozen BK435.out 1
        have hfz60_2 := blk_frozen BK435.out 2
        have hfz60_3 := blk_frozen BK435.out 3
        have hfz60_4 := blk_frozen BK435.out 4
        have hfz60_5 := blk_frozen BK435.out 5
        try go_wp2_with (first | ((with_reducible refine gate_callee (f := 43) rfl ?_); refine goesL_ (some 85) rfl rfl Try.func43 (by kernel_rfl) rfl #[.agg #[.string a0_0, .slice A0_1 l0_1.length c0_1, .string a0_2, .slice A0_3 l0_3.length c0_3, .slice A0_4 l0_4.length c0_4, .slice A0_5 l0_5.length c0_5], .int .i64 x9_3, .int .i64 x7_1] rfl (by (try simp only [List.map_toArray, List.map_cons, List.map_nil]); first | done | rfl | (simp only [List.length_drop, List.length_take]; rfl)) ?_; (with_reducible refine (dom_Is.calls a0_0 _ _ l0_1 a0_2 _ _ l0_3 _ _ l0_4 _ _ l0_5 x9_3 x7_1 true _ ?side1 ?side2 ?side3 ?side4 ?side5 ?side6 ?side7 ?side8 A50.out).mono ?_); (case side1 => repeat (first | exact (Kd.C_below HR0_1.out HB.out) | (with_reducible refine Kd.C_alloc ?_ _) | (with_reducible refine Kd.C_drewN ?_ _) | (with_reducible refine Kd.C_drew ?_))); (case side2 => exact HC0_1.out); (case side3 => repeat (first | exact (Kd.C_below HR0_3.out HB.out) | (with_reducible refine Kd.C_alloc ?_ _) | (with_reducible refine Kd.C_drewN ?_ _) | (with_reducible refine Kd.C_drew ?_))); (case side4 => exact HC0_3.out); (case side5 => repeat (first | exact (Kd.C_below HR0_4.out HB.out) | (with_reducible refine Kd.C_alloc ?_ _) | (with_reducible refine Kd.C_drewN ?_ _) | (with_reducible refine Kd.C_drew ?_))); (case side6 => exact HC0_4.out); (case side7 => repeat (first | exact (Kd.C_below HR0_5.out HB.out) | (with_reducible refine Kd.C_alloc ?_ _) | (with_reducible refine Kd.C_drewN ?_ _) | (with_reducible refine Kd.C_drew ?_))); (case side8 => exact HC0_5.out); rintro e w61 ⟨rfl, hb⟩; refine ⟨_, rfl, ?_⟩; have n0_ := Aside0.mk (Kd.R_below (by (with_reducible repeat (first | apply Kd.R_alloc | apply Kd.R_drewN | apply Kd.R_drew)); exact HO_3.out) hb); have n1_ := Aside0.mk (Kd.S_below (by (with_reducible repeat (first | apply Kd.S_alloc | apply Kd.S_drewN | apply Kd.S_drew)); exact HO_4.out) hb); have n2_ := Aside0.mk (Kd.R_below (by (with_reducible repeat (first | apply Kd.R_alloc | apply Kd.R_drewN | apply Kd.R_drew)); exact HO_5.out) hb); have n3_ := Aside0.mk (Kd.S_below (by (with_reducible repeat (first | apply Kd.S_alloc | apply Kd.S_drewN | apply Kd.S_drew)); exact HO_6.out) hb); have n4_ := Aside0.mk (blk_below (g := gb435) (o := .cells #[.string a0_0, .slice A0_1 l0_1.length c0_1, .string a0_2, .slice A0_3 l0_3.length c0_3, .slice A0_4 l0_4.length c0_4, .slice A0_5 l0_5.length c0_5] 26 (0, 0)) (by (with_reducible repeat (first | refine blk_drewN ?_ _ | refine blk_drew ?_ | refine blk_alloc ?_ _)); exact BK435.out) hb); have n5_ := Aside0.mk (below_step (by repeat (first | (with_reducible first | exact HB.out | apply below_alloc | apply pw_below_drewN | apply below_drew1 | refine below_set ?_ GE435.out) | exact HB.out)) hb); clear HO_3; clear HO_4; clear HO_5; clear HO_6; clear BK435; clear HB; have HO_3 := n0_; have HO_4 := n1_; have HO_5 := n2_; have HO_6 := n3_; have BK435 := n4_; have HB := n5_; clear n0_ n1_ n2_ n3_ n4_ n5_; (try clear hb); (try clear hb2); (try clear hk); (try clear hi)))
        have n0_ := Aside0.mk (Kd.R_drew HO_3.out)
        have n1_ := Aside0.mk (Kd.S_drew HO_4.out)
        have n2_ := Aside0.mk (Kd.R_drew HO_5.out)
        have n3_ := Aside0.mk (Kd.S_drew HO_6.out)
        have n4_ := Aside0.mk (blk_drew BK435.out)
        have n5_ := Aside0.mk (below_drew1 HB.out)
        clear HO_3
        clear HO_4
        clear HO_5
        clear HO_6
        clear BK435
        clear HB
        have HO_3 := n0_
        have HO_4 := n1_
        have HO_5 := n2_
        have HO_6 := n3_
        have BK435 := n4_
        have HB := n5_
        clear n0_ n1_ n2_ n3_ n4_ n5_
        have p458 : 0 ≤ (x7_1 : Int) := of_decide_eq_true (by first | (with_reducible assumption) | assumption)
        have q458 : x7_1 < (t438.length : Int) := of_decide_eq_true (by first | (with_reducible assumption) | assumption)
        obtain ⟨ad458, e458, hx458_0⟩ := Kd.at_int (Kd.R_reads' HO_3.out).2.2 x7_1 p458 q458
        cases e458
        replace p458 := eq_true p458
        replace q458 := eq_true q458
        refine start_ (n := 13) (S := fun w' => w'.cell? ⟨gb435, 0, none⟩ = some (.string a0_0) ∧ w'.cell? ⟨gb435, 1, none⟩ = some (.slice A0_1 l0_1.length c0_1) ∧ w'.cell? ⟨gb435, 2, none⟩ = some (.string a0_2) ∧ w'.cell? ⟨gb435, 3, none⟩ = some (.slice A0_3 l0_3.length c0_3) ∧ w'.cell? ⟨gb435, 4, none⟩ = some (.slice A0_4 l0_4.length c0_4) ∧ w'.cell? ⟨gb435, 5, none⟩ = some (.slice A0_5 l0_5.length c0_5) ∧ w'.cell? (ad458.add (x7_1).toNat) = some (.int .i64 (rd t438 x7_1))) (ds := []) #[false, false, false, false, false, false, false, false, false, false, false, false, false] (by kernel_rfl) rfl rfl ⟨(blk_cell BK435.out 0).trans rfl, (blk_cell BK435.out 1).trans rfl, (blk_cell BK435.out 2).trans rfl, (blk_cell BK435.out 3).trans rfl, (blk_cell BK435.out 4).trans rfl, (blk_cell BK435.out 5).trans rfl, hx458_0⟩ (fun hHeld => ?_); refine with_tabW truantlaw10_DomChain.tab23 truantlaw10_DomChain.bits23 (fun HT_ HW_ => ?_)
        generalize w61.drew = w62 at HO_3 HO_4 HO_5 HO_6 BK435 HB hx458_0 hHeld ⊢
        refine pure_ (i := 0) (N := some 89) (v := ?_) (a' := ?_) #[true, false, false, false, false, false, false, false, false, false, false, false, false] rfl rfl (any_of HT_.out (by kernel_rfl)) (fun _ _ _ h => h) (Or.inl ⟨by rfl, ?_⟩) ?_ ?_
        rotate_left
        ·intro w'
         go_simp
         with_reducible rfl
        rotate_left
        ·simp only [Act.put, List.setIfInBounds_toArray, List.set_cons_zero, List.set_cons_succ, i64_w, i32_w]
         rfl
        refine pure_ (i := 1) (N := some 90) (v := ?_) (a' := ?_) #[true, true, false, false, false, false, false, false, false, false, false, false, false] rfl rfl (any_of HT_.out (by kernel_rfl)) (fun _ _ _ h => h) (Or.inl ⟨by rfl, ?_⟩) ?_ ?_
        rotate_left
        ·intro w'
         go_simp
         with_reducible rfl
        rotate_left
        ·simp only [Act.put, List.setIfInBounds_toArray, List.set_cons_zero, List.set_cons_succ, i64_w, i32_w]
         rfl
        refine pure_ (i := 2) (N := some 91) (v := ?_) (a' := ?_) #[true, true, true, false, false, false, false, false, false, false, false, false, false] rfl rfl (any_of HT_.out (by kernel_rfl)) (fun _ _ _ h => h) (Or.inl ⟨by rfl, ?_⟩) ?_ ?_
        rotate_left
        ·intro w'
         go_simp
         with_reducible rfl
        rotate_left
        ·simp only [Act.put, List.setIfInBounds_toArray, List.set_cons_zero, List.set_cons_succ, i64_w, i32_w]
         rfl
        refine pure_ (i := 3) (N := some 92) (v := ?_) (a' := ?_) #[true, true, true, true, false, false, false, false, false, false, false, false, false] rfl rfl (any_of HT_.out (by kernel_rfl)) (fun _ _ _ h => h) (Or.inl ⟨by rfl, ?_⟩) ?_ ?_
        rotate_left
        ·intro w'
         go_simp
         with_reducible rfl
        rotate_left
        ·simp only [Act.put, List.setIfInBounds_toArray, List.set_cons_zero, List.set_cons_succ, i64_w, i32_w]
         rfl
        refine pure_ (i := 5) (N := some 94) (v := ?_) (a' := ?_) #[true, true, true, true, false, true, false, false, false, false, false, false, false] rfl rfl (any_of HT_.out (by kernel_rfl)) (fun _ _ _ h => h) (Or.inl ⟨by rfl, ?_⟩) ?_ ?_
        rotate_left
        ·intro w'
         go_simp
         with_reducible rfl
        rotate_left
        ·simp only [Act.put, List.setIfInBounds_toArray, List.set_cons_zero, List.set_cons_succ, i64_w, i32_w]
         rfl
        refine pure_ (i := 6) (N := some 95) (v := ?_) (a' := ?_) #[true, true, true, true, false, true, true, false, false, false, false, false, false] rfl rfl (any_of HT_.out (by kernel_rfl)) (fun _ _ _ h => h) (Or.inl ⟨by rfl, ?_⟩) ?_ ?_
        rotate_left
        ·intro w'
         go_simp
         with_reducible rfl
        rotate_left
        ·simp only [Act.put, List.setIfInBounds_toArray, List.set_cons_zero, List.set_cons_succ, i64_w, i32_w]
         rfl
        refine pure_ (i := 7) (N := some 96) (v := ?_) (a' := ?_) #[true, true, true, true, false, true, true, true, false, false, false, false, false] rfl rfl (any_of HT_.out (by kernel_rfl)) (fun _ _ _ h => h) (Or.inl ⟨by rfl, ?_⟩) ?_ ?_
        rotate_left
        ·intro w'
         go_simp
         with_reducible rfl
        rotate_left
        ·simp only [Act.put, List.setIfInBounds_toArray, List.set_cons_zero, List.set_cons_succ, i64_w, i32_w]
         rfl
        refine pure_ (i := 8) (N := some 97) (v := ?_) (a' := ?_) #[true, true, true, true, false, true, true, true, true, false, false, false, false] rfl rfl (any_of HT_.out (by kernel_rfl)) (fun _ _ _ h => h) (Or.inl ⟨by rfl, ?_⟩) ?_ ?_
        rotate_left
        ·intro w'
         go_simp
         with_reducible rfl
        rotate_left
        ·simp only [Act.put, List.setIfInBounds_toArray, List.set_cons_zero, List.set_cons_succ, i64_w, i32_w]
         rfl
        refine take_ (i := 4) (N := some 93) (v := ?_) (a' := ?_) #[true, true, true, true, true, true, true, true, true, false, false, false, false] rfl rfl (take_ofW HT_.out HW_.out (by kernel_rfl)) (fun _ _ _ h => h) (Or.inl ⟨by rfl, ?_⟩) hHeld ?_ ?_
        rotate_left
        ·rintro w' ⟨s0, s1, s2, s3, s4, s5, s6⟩
         go_simp
         with_reducible rfl
        rotate_left
        ·simp only [Act.put, List.setIfInBounds_toArray, List.set_cons_zero, List.set_cons_succ, i64_w, i32_w]
         rfl
        refine take_ (i := 9) (N := some 98) (v := ?_) (a' := ?_) #[true, true, true, true, true, true, true, true, true, true, false, false, false] rfl rfl (take_ofW HT_.out HW_.out (by kernel_rfl)) (fun _ _ _ h => h) (Or.inl ⟨by rfl, ?_⟩) hHeld ?_ ?_
        rotate_left
        ·rintro w' ⟨s0, s1, s2, s3, s4, s5, s6⟩
         go_simp
         with_reducible rfl
        rotate_left
        ·simp only [Act.put, List.setIfInBounds_toArray, List.set_cons_zero, List.set_cons_succ, i64_w, i32_w]
         rfl
        refine one_ (i := 10) (N := some 99) #[true, true, true, true, true, true, true, true, true, true, true, false, false] rfl rfl (one_of HT_.out (by kernel_rfl)) (by decide) (fun K hK => ?_)
        refine goes_ Try.func43 (by kernel_rfl) rfl #[.agg #[.string a0_0, .slice A0_1 l0_1.length c0_1, .string a0_2, .slice A0_3 l0_3.length c0_3, .slice A0_4 l0_4.length c0_4, .slice A0_5 l0_5.length c0_5], .int .i64 x9_3, .int .i64 (rd t438 x7_1)] (by rfl) rfl rfl (by (try simp only [List.map_toArray, List.map_cons, List.map_nil]); first | done | rfl | (simp only [List.length_drop, List.length_take]; rfl)) ?_
        with_reducible refine (dom_Is.calls a0_0 _ _ l0_1 a0_2 _ _ l0_3 _ _ l0_4 _ _ l0_5 x9_3 (rd t438 x7_1) true _ ?side1 ?side2 ?side3 ?side4 ?side5 ?side6 ?side7 ?side8 A58.out).mono ?_
        (case side1 => repeat (first | exact (Kd.C_below HR0_1.out HB.out) | (with_reducible refine Kd.C_alloc ?_ _) | (with_reducible refine Kd.C_drewN ?_ _) | (with_reducible refine Kd.C_drew ?_)))
        (case side2 => exact HC0_1.out)
        (case side3 => repeat (first | exact (Kd.C_below HR0_3.out HB.out) | (with_reducible refine Kd.C_alloc ?_ _) | (with_reducible refine Kd.C_drewN ?_ _) | (with_reducible refine Kd.C_drew ?_)))
        (case side4 => exact HC0_3.out)
        (case side5 => repeat (first | exact (Kd.C_below HR0_4.out HB.out) | (with_reducible refine Kd.C_alloc ?_ _) | (with_reducible refine Kd.C_drewN ?_ _) | (with_reducible refine Kd.C_drew ?_)))
        (case side6 => exact HC0_4.out)
        (case side7 => repeat (first | exact (Kd.C_below HR0_5.out HB.out) | (with_reducible refine Kd.C_alloc ?_ _) | (with_reducible refine Kd.C_drewN ?_ _) | (with_reducible refine Kd.C_drew ?_)))
        (case side8 => exact HC0_5.out)
        rintro e w63 ⟨rfl, hb⟩
        have HS6_ := (hb.cell (World.block_lt_of_cell? _ _ (hHeld.2.2.2.2.2.2))).trans (hHeld.2.2.2.2.2.2)
        refine ⟨_, rfl, ?_⟩
        have n0_ := Aside0.mk (Kd.R_below (by (with_reducible repeat (first | apply Kd.R_alloc | apply Kd.R_drewN | apply Kd.R_drew)); exact HO_3.out) hb)
        have n1_ := Aside0.mk (Kd.S_below (by (with_reducible repeat (first | apply Kd.S_alloc | apply Kd.S_drewN | apply Kd.S_drew)); exact HO_4.out) hb)
        have n2_ := Aside0.mk (Kd.R_below (by (with_reducible repeat (first | apply Kd.R_alloc | apply Kd.R_drewN | apply Kd.R_drew)); exact HO_5.out) hb)
        have n3_ := Aside0.mk (Kd.S_below (by (with_reducible repeat (first | apply Kd.S_alloc | apply Kd.S_drewN | apply Kd.S_drew)); exact HO_6.out) hb)
        have n4_ := Aside0.mk (blk_below (g := gb435) (o := .cells #[.string a0_0, .slice A0_1 l0_1.length c0_1, .string a0_2, .slice A0_3 l0_3.length c0_3, .slice A0_4 l0_4.length c0_4, .slice A0_5 l0_5.length c0_5] 26 (0, 0)) (by (with_reducible repeat (first | refine blk_drewN ?_ _ | refine blk_drew ?_ | refine blk_alloc ?_ _)); exact BK435.out) hb)
        have n5_ := Aside0.mk (below_step (by repeat (first | (with_reducible first | exact HB.out | apply below_alloc | apply pw_below_drewN | apply below_drew1 | refine below_set ?_ GE435.out) | exact HB.out)) hb)
        clear HO_3
        clear HO_4
        clear HO_5
        clear HO_6
        clear BK435
        clear HB
        have HO_3 := n0_
        have HO_4 := n1_
        have HO_5 := n2_
        have HO_6 := n3_
        have BK435 := n4_
        have HB := n5_
        clear n0_ n1_ n2_ n3_ n4_ n5_
        (try clear hb)
        (try clear hb2)
        (try clear hk)
        (try clear hi)
        refine hK.out _ _ ⟨(blk_cell BK435.out 0).trans rfl, (blk_cell BK435.out 1).trans rfl, (blk_cell BK435.out 2).trans rfl, (blk_cell BK435.out 3).trans rfl, (blk_cell BK435.out 4).trans rfl, (blk_cell BK435.out 5).trans rfl, HS6_⟩ (fun hHeld => ?_)
        clear hK K
        refine norm_ (a' := ?_) ?_ ?_
        rotate_left
        ·show Act.put _ (some 99) _ = _
         simp only [Act.put, List.setIfInBounds_toArray, List.set_cons_zero, List.set_cons_succ, i64_w, i32_w]
         rfl
        refine pure_ (i := 11) (N := some 100) (v := ?_) (a' := ?_) #[true, true, true, true, true, true, true, true, true, true, true, true, false] rfl rfl (any_of HT_.out (by kernel_rfl)) (fun _ _ _ h => h) (Or.inl ⟨by rfl, ?_⟩) ?_ ?_
        rotate_left
        ·intro w'
         go_simp
         with_reducible rfl
        rotate_left
        ·simp only [Act.put, List.setIfInBounds_toArray, List.set_cons_zero, List.set_cons_succ, i64_w, i32_w]
         rfl
        refine pure_ (i := 12) (N := some 101) (v := ?_) (a' := ?_) #[true, true, true, true, true, true, true, true, true, true, true, true, true] rfl rfl (any_of HT_.out (by kernel_rfl)) (fun _ _ _ h => h) (Or.inl ⟨by rfl, ?_⟩) ?_ ?_
        rotate_left
        ·intro w'
         go_simp
         with_reducible rfl
        rotate_left
        ·simp only [Act.put, List.setIfInBounds_toArray, List.set_cons_zero, List.set_cons_succ, i64_w, i32_w]
         rfl
        refine done_ (done_of HT_.out (by kernel_rfl)) ?_
        try go_wp2
        go_roundg k3
        case measure => have := HK1.out; have := HJ30.out; have := HK3.out; omega
        case rel => exact ⟨(wrap64 (x8_3 + 1)), (wrap64 (x9_3 + 1)), (by first | rfl | (simp; done) | (simp [*]; done)), (by first | rfl | (simp; done) | (simp [*]; done)), H', ⟨by have := HK1.out; have := HJ30.out; have := HK3.out; omega⟩, ⟨by (with_reducible repeat (first | apply Kd.R_alloc | apply Kd.R_drewN | apply Kd.R_drew)); exact HO_3.out⟩, ⟨by (with_reducible repeat (first | apply Kd.S_alloc | apply Kd.S_drewN | apply Kd.S_drew)); exact HO_4.out⟩, ⟨by (with_reducible repeat (first | apply Kd.R_alloc | apply Kd.R_drewN | apply Kd.R_drew)); exact HO_5.out⟩, ⟨by (with_reducible repeat (first | apply Kd.S_alloc | apply Kd.S_drewN | apply Kd.S_drew)); exact HO_6.out⟩, ⟨by (with_reducible repeat (first | refine blk_drewN ?_ _ | refine blk_drew ?_ | refine blk_alloc ?_ _)); exact BK435.out⟩, ⟨by repeat (first | (with_reducible first | exact HB.out | apply below_alloc | apply pw_below_drewN | apply below_drew1 | refine below_set ?_ GE435.out) | exact HB.out)⟩⟩
       rw [if_neg c49] at H
       have c49b0 : decide (x9_3 < (t438.length : Int)) = false := decide_eq_false c49
       clear c49
       have HC66 := Aside0.mk H
       clear H
       go_upto_block 4 with (fail)
       go_cut [10] (fun v10 wc => ∃ (kq : Nat) (x10_65 : Int), v10 = .int .i64 x10_65 ∧ Aside0 (truantlaw10_DomChain.j4 kq t438 t441 t444 t447 x7_1 x8_3 x10_65 a0_0 l0_1 a0_2 l0_3 l0_4 l0_5 = some r) ∧ Aside0 (kq ≤ k3) ∧ Aside0 (Kd.R (Kd.int .i64) 3 wc w.heap.size (fun _ => True) (.slice Ao32 t438.length co32) t438) ∧ Aside0 (Kd.S (Kd.slice 3 (Kd.int .i64)) 34 wc w.heap.size (fun k_ => some k_ ≠ ((.slice Ao32 t438.length co32) : Value).ownBlock ∧ some k_ ≠ (v448 : Value).ownBlock) v442 t441) ∧ Aside0 (Kd.R Kd.bool 4 wc w.heap.size (fun _ => True) (.slice (some ad450) t444.length co33) t444) ∧ Aside0 (Kd.S (Kd.slice 3 (Kd.int .i64)) 34 wc w.heap.size (fun k_ => some k_ ≠ ((.slice Ao32 t438.length co32) : Value).ownBlock ∧ some k_ ≠ (v442 : Value).ownBlock) v448 t447) ∧ Aside0 (wc.heap[gb435]? = some (.cells #[.string a0_0, (.slice A0_1 l0_1.length c0_1), .string a0_2, (.slice A0_3 l0_3.length c0_3), (.slice A0_4 l0_4.length c0_4), (.slice A0_5 l0_5.length c0_5)] 26 (0, 0))) ∧ Aside0 (Below w.heap.size w wc))
       case first =>
        have H := HC66.out
        clear HC66
        have H' := Aside0.mk H
        clear H
        go_wp2
        go_loopg [10, 11] k3 (fun kq v10 v11 w' => ∃ (x10_4 : Int) (x11_4 : Int), v10 = .int .i64 x10_4 ∧ v11 = .int .i64 x11_4 ∧ Aside0 (truantlaw10_DomChain.l2 kq t438 t441 t444 t447 x7_1 x8_3 x10_4 x11_4 a0_0 l0_1 a0_2 l0_3 l0_4 l0_5 = some r) ∧ Aside0 (kq ≤ k3) ∧ Aside0 (Kd.R (Kd.int .i64) 3 w' w.heap.size (fun _ => True) (.slice Ao32 t438.length co32) t438) ∧ Aside0 (Kd.S (Kd.slice 3 (Kd.int .i64)) 34 w' w.heap.size (fun k_ => some k_ ≠ ((.slice Ao32 t438.length co32) : Value).ownBlock ∧ some k_ ≠ (v448 : Value).ownBlock) v442 t441) ∧ Aside0 (Kd.R Kd.bool 4 w' w.heap.size (fun _ => True) (.slice (some ad450) t444.length co33) t444) ∧ Aside0 (Kd.S (Kd.slice 3 (Kd.int .i64)) 34 w' w.heap.size (fun k_ => some k_ ≠ ((.slice Ao32 t438.length co32) : Value).ownBlock ∧ some k_ ≠ (v442 : Value).ownBlock) v448 t447) ∧ Aside0 (w'.heap[gb435]? = some (.cells #[.string a0_0, (.slice A0_1 l0_1.length c0_1), .string a0_2, (.slice A0_3 l0_3.length c0_3), (.slice A0_4 l0_4.length c0_4), (.slice A0_5 l0_5.length c0_5)] 26 (0, 0))) ∧ Aside0 (Below w.heap.size w w'))
        case atStart => exact ⟨(1), (x7_1), (by first | rfl | (simp; done) | (simp [*]; done)), (by first | rfl | (simp; done) | (simp [*]; done)), H', ⟨Nat.le_refl _⟩, ⟨by (with_reducible repeat (first | apply Kd.R_alloc | apply Kd.R_drewN | apply Kd.R_drew)); exact HO_3.out⟩, ⟨by (with_reducible repeat (first | apply Kd.S_alloc | apply Kd.S_drewN | apply Kd.S_drew)); exact HO_4.out⟩, ⟨by (with_reducible repeat (first | apply Kd.R_alloc | apply Kd.R_drewN | apply Kd.R_drew)); exact HO_5.out⟩, ⟨by (with_reducible repeat (first | apply Kd.S_alloc | apply Kd.S_drewN | apply Kd.S_drew)); exact HO_6.out⟩, ⟨by (with_reducible repeat (first | refine blk_drewN ?_ _ | refine blk_drew ?_ | refine blk_alloc ?_ _)); exact BK435.out⟩, ⟨by repeat (first | (with_reducible first | exact HB.out | apply below_alloc | apply pw_below_drewN | apply below_drew1 | refine below_set ?_ GE435.out) | exact HB.out)⟩⟩
        case round =>
         clear H'
         try clear c1
         try clear c2
         try clear p2
         try clear q2
         try clear c3
         try clear c4
         try clear p4
         try clear q4
         try clear hx4
         try clear c5
         try clear p6
         try clear c12
         try clear c16
         try clear c17
         try clear c26
         try clear c26b0
         try clear c27
         try clear c27b0
         try clear c28
         try clear c28b0
         try clear q29
         try clear c30
         try clear c35
         try clear c37
         try clear c38
         try clear c39
         try clear c40
         try clear c43
         try clear c45
         try clear p45
         try clear q45
         try clear hx45
         try clear c48
         try clear c49
         try clear c49b0
         try clear c51
         try clear c52
         try clear c52b0
         try clear c52b1
         try clear c56
         try clear c56b0
         try clear c57
         try clear c57b0
         try clear c59
         try clear p64
         try clear hcz16_0
         try clear hcz16_1
         try clear hcz16_2
         try clear hcz16_3
         try clear hcz16_4
         try clear hcz16_5
         try clear hcz18_0
         try clear hcz18_1
         try clear hcz18_2
         try clear hcz18_3
         try clear hcz18_4
         try clear hcz18_5
         try clear hcz20_0
         try clear hcz20_1
         try clear hcz20_2
         try clear hcz20_3
         try clear hcz20_4
         try clear hcz20_5
         try clear hcz22_0
         try clear hcz22_1
         try clear hcz22_2
         try clear hcz22_3
         try clear hcz22_4
         try clear hcz22_5
         try clear hcz24_0
         try clear hcz24_1
         try clear hcz24_2
         try clear hcz24_3
         try clear hcz24_4
         try clear hcz24_5
         try clear hcz38_0
         try clear hcz38_1
         try clear hcz38_2
         try clear hcz38_3
         try clear hcz38_4
         try clear hcz38_5
         try clear hcz40_0
         try clear hcz40_1
         try clear hcz40_2
         try clear hcz40_3
         try clear hcz40_4
         try clear hcz40_5
         try clear hcz42_0
         try clear hcz42_1
         try clear hcz42_2
         try clear hcz42_3
         try clear hcz42_4
         try clear hcz42_5
         try clear hcz44_0
         try clear hcz44_1
         try clear hcz44_2
         try clear hcz44_3
         try clear hcz44_4
         try clear hcz44_5
         try clear hcz46_0
         try clear hcz46_1
         try clear hcz46_2
         try clear hcz46_3
         try clear hcz46_4
         try clear hcz46_5
         try clear hcz53_0
         try clear hcz53_1
         try clear hcz53_2
         try clear hcz53_3
         try clear hcz53_4
         try clear hcz53_5
         try clear hcz60_0
         try clear hcz60_1
         try clear hcz60_2
         try clear hcz60_3
         try clear hcz60_4
         try clear hcz60_5
         try clear hcz64_0
         try clear hcz64_1
         try clear hcz64_2
         try clear hcz64_3
         try clear hcz64_4
         try clear hcz64_5
         try clear hcz8_0
         try clear hcz8_1
         try clear hcz8_2
         try clear hcz8_3
         try clear hcz8_4
         try clear hcz8_5
         try clear hfz16_0
         try clear hfz16_1
         try clear hfz16_2
         try clear hfz16_3
         try clear hfz16_4
         try clear hfz16_5
         try clear hfz18_0
         try clear hfz18_1
         try clear hfz18_2
         try clear hfz18_3
         try clear hfz18_4
         try clear hfz18_5
         try clear hfz20_0
         try clear hfz20_1
         try clear hfz20_2
         try clear hfz20_3
         try clear hfz20_4
         try clear hfz20_5
         try clear hfz22_0
         try clear hfz22_1
         try clear hfz22_2
         try clear hfz22_3
         try clear hfz22_4
         try clear hfz22_5
         try clear hfz24_0
         try clear hfz24_1
         try clear hfz24_2
         try clear hfz24_3
         try clear hfz24_4
         try clear hfz24_5
         try clear hfz38_0
         try clear hfz38_1
         try clear hfz38_2
         try clear hfz38_3
         try clear hfz38_4
         try clear hfz38_5
         try clear hfz40_0
         try clear hfz40_1
         try clear hfz40_2
         try clear hfz40_3
         try clear hfz40_4
         try clear hfz40_5
         try clear hfz42_0
         try clear hfz42_1
         try clear hfz42_2
         try clear hfz42_3
         try clear hfz42_4
         try clear hfz42_5
         try clear hfz44_0
         try clear hfz44_1
         try clear hfz44_2
         try clear hfz44_3
         try clear hfz44_4
         try clear hfz44_5
         try clear hfz46_0
         try clear hfz46_1
         try clear hfz46_2
         try clear hfz46_3
         try clear hfz46_4
         try clear hfz46_5
         try clear hfz53_0
         try clear hfz53_1
         try clear hfz53_2
         try clear hfz53_3
         try clear hfz53_4
         try clear hfz53_5
         try clear hfz60_0
         try clear hfz60_1
         try clear hfz60_2
         try clear hfz60_3
         try clear hfz60_4
         try clear hfz60_5
         try clear hfz64_0
         try clear hfz64_1
         try clear hfz64_2
         try clear hfz64_3
         try clear hfz64_4
         try clear hfz64_5
         try clear hfz8_0
         try clear hfz8_1
         try clear hfz8_2
         try clear hfz8_3
         try clear hfz8_4
         try clear hfz8_5
         try clear hx450_0
         try clear hx456_0
         try clear hx458_0
         try clear p2
         try clear p4
         try clear p45
         try clear p450
         try clear p456
         try clear p458
         try clear p6
         try clear q2
         try clear q29
         try clear q4
         try clear q45
         try clear q450
         try clear q456
         try clear q458
         obtain ⟨x10_4, x11_4, rfl, rfl, HA, HK4, HO_3, HO_4, HO_5, HO_6, BK435, HB⟩ := hrel
         cases gk with
         | zero => exact absurd HA.out (by simp [truantlaw10_DomChain.l2])
         | succ k4 =>
          have H := HA.out
          clear HA
          simp only [truantlaw10_DomChain.l2] at H
          by_cases c67 : 0 ≤ x11_4
          rotate_left
          ·rw [if_neg c67] at H
           exact absurd H (by simp)
          rw [if_pos c67] at H
          have c67b0 : decide (0 ≤ x11_4) = true := decide_eq_true c67
          clear c67
          (first | rw [c67b0] | (simp only [i64_w, i32_w]; rw [c67b0]) | skip)
          by_cases c68 : x11_4 < (t438.length : Int)
          rotate_left
          ·rw [if_neg c68] at H
           exact absurd H (by simp)
          rw [if_pos c68] at H
          have c68b0 : decide (x11_4 < (t438.length : Int)) = true := decide_eq_true c68
          clear c68
          by_cases c69 : (rd t438 x11_4) ≥ 0
          rotate_left
          ·rw [if_neg c69] at H
           have c69b0 : decide (0 ≤ (rd t438 x11_4)) = false := decide_eq_false c69
           clear c69
           have H' := Aside0.mk H
           clear H
           have p460 : 0 ≤ (x11_4 : Int) := of_decide_eq_true (by first | (with_reducible assumption) | assumption)
           have q460 : x11_4 < (t438.length : Int) := of_decide_eq_true (by first | (with_reducible assumption) | assumption)
           obtain ⟨ad460, e460, hx460_0⟩ := Kd.at_int (Kd.R_reads' HO_3.out).2.2 x11_4 p460 q460
           cases e460
           replace p460 := eq_true p460
           replace q460 := eq_true q460
           go_wp2
           go_meet
           case rel => exact ⟨_, (x10_4), (by first | rfl | (simp; done) | (simp [*]; done)), H', ⟨by have := HK1.out; have := HJ30.out; have := HK3.out; have := HK4.out; first | omega | exact Nat.le_refl _⟩, ⟨by (with_reducible repeat (first | apply Kd.R_alloc | apply Kd.R_drewN | apply Kd.R_drew)); exact HO_3.out⟩, ⟨by (with_reducible repeat (first | apply Kd.S_alloc | apply Kd.S_drewN | apply Kd.S_drew)); exact HO_4.out⟩, ⟨by (with_reducible repeat (first | apply Kd.R_alloc | apply Kd.R_drewN | apply Kd.R_drew)); exact HO_5.out⟩, ⟨by (with_reducible repeat (first | apply Kd.S_alloc | apply Kd.S_drewN | apply Kd.S_drew)); exact HO_6.out⟩, ⟨by (with_reducible repeat (first | refine blk_drewN ?_ _ | refine blk_drew ?_ | refine blk_alloc ?_ _)); exact BK435.out⟩, ⟨by repeat (first | (with_reducible first | exact HB.out | apply below_alloc | apply pw_below_drewN | apply below_drew1 | refine below_set ?_ GE435.out) | exact HB.out)⟩⟩
          rw [if_pos c69] at H
          have c69b0 : decide (0 ≤ (rd t438 x11_4)) = true := decide_eq_true c69
          clear c69
          by_cases c70 : x10_4 ≤ (t438.length : Int)
          rotate_left
          ·rw [if_neg c70] at H
           have c70b0 : decide (x10_4 ≤ (t438.length : Int)) = false := decide_eq_false c70
           clear c70
           have H' := Aside0.mk H
           clear H
           have p460 : 0 ≤ (x11_4 : Int) := of_decide_eq_true (by first | (with_reducible assumption) | assumption)
           have q460 : x11_4 < (t438.length : Int) := of_decide_eq_true (by first | (with_reducible assumption) | assumption)
           obtain ⟨ad460, e460, hx460_0⟩ := Kd.at_int (Kd.R_reads' HO_3.out).2.2 x11_4 p460 q460
           cases e460
           replace p460 := eq_true p460
           replace q460 := eq_true q460
           go_wp2
           go_meet
           case rel => exact ⟨_, (x10_4), (by first | rfl | (simp; done) | (simp [*]; done)), H', ⟨by have := HK1.out; have := HJ30.out; have := HK3.out; have := HK4.out; first | omega | exact Nat.le_refl _⟩, ⟨by (with_reducible repeat (first | apply Kd.R_alloc | apply Kd.R_drewN | apply Kd.R_drew)); exact HO_3.out⟩, ⟨by (with_reducible repeat (first | apply Kd.S_alloc | apply Kd.S_drewN | apply Kd.S_drew)); exact HO_4.out⟩, ⟨by (with_reducible repeat (first | apply Kd.R_alloc | apply Kd.R_drewN | apply Kd.R_drew)); exact HO_5.out⟩, ⟨by (with_reducible repeat (first | apply Kd.S_alloc | apply Kd.S_drewN | apply Kd.S_drew)); exact HO_6.out⟩, ⟨by (with_reducible repeat (first | refine blk_drewN ?_ _ | refine blk_drew ?_ | refine blk_alloc ?_ _)); exact BK435.out⟩, ⟨by repeat (first | (with_reducible first | exact HB.out | apply below_alloc | apply pw_below_drewN | apply below_drew1 | refine below_set ?_ GE435.out) | exact HB.out)⟩⟩
          rw [if_pos c70] at H
          have c70b0 : decide (x10_4 ≤ (t438.length : Int)) = true := decide_eq_true c70
          clear c70
          have H' := Aside0.mk H
          clear H
          have p460 : 0 ≤ (x11_4 : Int) := of_decide_eq_true (by first | (with_reducible assumption) | assumption)
          have q460 : x11_4 < (t438.length : Int) := of_decide_eq_true (by first | (with_reducible assumption) | assumption)
          obtain ⟨ad460, e460, hx460_0⟩ := Kd.at_int (Kd.R_reads' HO_3.out).2.2 x11_4 p460 q460
          cases e460
          replace p460 := eq_true p460
          replace q460 := eq_true q460
          have p461 : 0 ≤ (x11_4 : Int) := of_decide_eq_true (by first | (with_reducible assumption) | assumption)
          have q461 : x11_4 < (t438.length : Int) := of_decide_eq_true (by first | (with_reducible assumption) | assumption)
          obtain ⟨ad461, e461, hx461_0⟩ := Kd.at_int (Kd.R_reads' HO_3.out).2.2 x11_4 p461 q461
          obtain rfl : ad460 = ad461 := (by injection e461)
          replace p461 := eq_true p461
          replace q461 := eq_true q461
          go_wp2
          go_roundg k4
          case measure => have := HK1.out; have := HJ30.out; have := HK3.out; have := HK4.out; omega
          case rel => exact ⟨(wrap64 (x10_4 + 1)), (rd t438 x11_4), (by first | rfl | (simp; done) | (simp [*]; done)), (by first | rfl | (simp; done) | (simp [*]; done)), H', ⟨by have := HK1.out; have := HJ30.out; have := HK3.out; have := HK4.out; omega⟩, ⟨by (with_reducible repeat (first | apply Kd.R_alloc | apply Kd.R_drewN | apply Kd.R_drew)); exact HO_3.out⟩, ⟨by (with_reducible repeat (first | apply Kd.S_alloc | apply Kd.S_drewN | apply Kd.S_drew)); exact HO_4.out⟩, ⟨by (with_reducible repeat (first | apply Kd.R_alloc | apply Kd.R_drewN | apply Kd.R_drew)); exact HO_5.out⟩, ⟨by (with_reducible repeat (first | apply Kd.S_alloc | apply Kd.S_drewN | apply Kd.S_drew)); exact HO_6.out⟩, ⟨by (with_reducible repeat (first | refine blk_drewN ?_ _ | refine blk_drew ?_ | refine blk_alloc ?_ _)); exact BK435.out⟩, ⟨by repeat (first | (with_reducible first | exact HB.out | apply below_alloc | apply pw_below_drewN | apply below_drew1 | refine below_set ?_ GE435.out) | exact HB.out)⟩⟩
       case rest =>
        clear HC66
        try clear c1
        try clear c2
        try clear p2
        try clear q2
        try clear c3
        try clear c4
        try clear p4
        try clear q4
        try clear hx4
        try clear c5
        try clear c6
        try clear p6
        try clear c7
        try clear c12
        try clear c16
        try clear c17
        try clear c26
        try clear c26b0
        try clear c27
        try clear c27b0
        try clear c28
        try clear c28b0
        try clear q29
        try clear c30
        try clear c35
        try clear c37
        try clear c38
        try clear c39
        try clear c40
        try clear c43
        try clear c45
        try clear p45
        try clear q45
        try clear hx45
        try clear p46
        try clear q46
        try clear hx46
        try clear c48
        try clear c49
        try clear c49b0
        try clear c51
        try clear c52
        try clear c52b0
        try clear c52b1
        try clear c56
        try clear c56b0
        try clear c57
        try clear c57b0
        try clear c59
        try clear p64
        try clear c67
        try clear c67b0
        try clear c68
        try clear c68b0
        try clear c69
        try clear c69b0
        try clear c70
        try clear c70b0
        try clear hcz16_0
        try clear hcz16_1
        try clear hcz16_2
        try clear hcz16_3
        try clear hcz16_4
        try clear hcz16_5
        try clear hcz18_0
        try clear hcz18_1
        try clear hcz18_2
        try clear hcz18_3
        try clear hcz18_4
        try clear hcz18_5
        try clear hcz20_0
        try clear hcz20_1
        try clear hcz20_2
        try clear hcz20_3
        try clear hcz20_4
        try clear hcz20_5
        try clear hcz22_0
        try clear hcz22_1
        try clear hcz22_2
        try clear hcz22_3
        try clear hcz22_4
        try clear hcz22_5
        try clear hcz24_0
        try clear hcz24_1
        try clear hcz24_2
        try clear hcz24_3
        try clear hcz24_4
        try clear hcz24_5
        try clear hcz38_0
        try clear hcz38_1
        try clear hcz38_2
        try clear hcz38_3
        try clear hcz38_4
        try clear hcz38_5
        try clear hcz40_0
        try clear hcz40_1
        try clear hcz40_2
        try clear hcz40_3
        try clear hcz40_4
        try clear hcz40_5
        try clear hcz42_0
        try clear hcz42_1
        try clear hcz42_2
        try clear hcz42_3
        try clear hcz42_4
        try clear hcz42_5
        try clear hcz44_0
        try clear hcz44_1
        try clear hcz44_2
        try clear hcz44_3
        try clear hcz44_4
        try clear hcz44_5
        try clear hcz46_0
        try clear hcz46_1
        try clear hcz46_2
        try clear hcz46_3
        try clear hcz46_4
        try clear hcz46_5
        try clear hcz53_0
        try clear hcz53_1
        try clear hcz53_2
        try clear hcz53_3
        try clear hcz53_4
        try clear hcz53_5
        try clear hcz60_0
        try clear hcz60_1
        try clear hcz60_2
        try clear hcz60_3
        try clear hcz60_4
        try clear hcz60_5
        try clear hcz64_0
        try clear hcz64_1
        try clear hcz64_2
        try clear hcz64_3
        try clear hcz64_4
        try clear hcz64_5
        try clear hcz8_0
        try clear hcz8_1
        try clear hcz8_2
        try clear hcz8_3
        try clear hcz8_4
        try clear hcz8_5
        try clear hfz16_0
        try clear hfz16_1
        try clear hfz16_2
        try clear hfz16_3
        try clear hfz16_4
        try clear hfz16_5
        try clear hfz18_0
        try clear hfz18_1
        try clear hfz18_2
        try clear hfz18_3
        try clear hfz18_4
        try clear hfz18_5
        try clear hfz20_0
        try clear hfz20_1
        try clear hfz20_2
        try clear hfz20_3
        try clear hfz20_4
        try clear hfz20_5
        try clear hfz22_0
        try clear hfz22_1
        try clear hfz22_2
        try clear hfz22_3
        try clear hfz22_4
        try clear hfz22_5
        try clear hfz24_0
        try clear hfz24_1
        try clear hfz24_2
        try clear hfz24_3
        try clear hfz24_4
        try clear hfz24_5
        try clear hfz38_0
        try clear hfz38_1
        try clear hfz38_2
        try clear hfz38_3
        try clear hfz38_4
        try clear hfz38_5
        try clear hfz40_0
        try clear hfz40_1
        try clear hfz40_2
        try clear hfz40_3
        try clear hfz40_4
        try clear hfz40_5
        try clear hfz42_0
        try clear hfz42_1
        try clear hfz42_2
        try clear hfz42_3
        try clear hfz42_4
        try clear hfz42_5
        try clear hfz44_0
        try clear hfz44_1
        try clear hfz44_2
        try clear hfz44_3
        try clear hfz44_4
        try clear hfz44_5
        try clear hfz46_0
        try clear hfz46_1
        try clear hfz46_2
        try clear hfz46_3
        try clear hfz46_4
        try clear hfz46_5
        try clear hfz53_0
        try clear hfz53_1
        try clear hfz53_2
        try clear hfz53_3
        try clear hfz53_4
        try clear hfz53_5
        try clear hfz60_0
        try clear hfz60_1
        try clear hfz60_2
        try clear hfz60_3
        try clear hfz60_4
        try clear hfz60_5
        try clear hfz64_0
        try clear hfz64_1
        try clear hfz64_2
        try clear hfz64_3
        try clear hfz64_4
        try clear hfz64_5
        try clear hfz8_0
        try clear hfz8_1
        try clear hfz8_2
        try clear hfz8_3
        try clear hfz8_4
        try clear hfz8_5
        try clear hx450_0
        try clear hx456_0
        try clear hx458_0
        try clear hx460_0
        try clear hx461_0
        try clear p2
        try clear p4
        try clear p45
        try clear p450
        try clear p456
        try clear p458
        try clear p460
        try clear p461
        try clear p6
        try clear p64
        try clear q2
        try clear q29
        try clear q4
        try clear q45
        try clear q450
        try clear q456
        try clear q458
        try clear q460
        try clear q461
        obtain ⟨kq, x10_65, rfl, HA, HJ65, HO_3, HO_4, HO_5, HO_6, BK435, HB⟩ := hcut
        cases kq with
        | zero => exact absurd HA.out (by simp [truantlaw10_DomChain.j4])
        | succ kj65 =>
         have H := HA.out
         clear HA
         simp only [truantlaw10_DomChain.j4] at H
         by_cases c71 : x10_65 = x8_3
         rotate_left
         ·rw [if_neg c71] at H
          exact absurd H (by simp)
         rw [if_pos c71] at H
         have c71b0 : (x10_65 == x8_3) = true := beq_iff_eq.mpr c71
         have c71b1 : (x10_65 != x8_3) = false := bne_eq_false_iff_eq.mpr c71
         clear c71
         have H' := Aside0.mk H
         clear H
         go_wp2
         go_loopg [12] kj65 (fun kq v12 w' => ∃ (x12_5 : Int), v12 = .int .i64 x12_5 ∧ Aside0 (truantlaw10_DomChain.l3 kq t438 t441 t444 t447 x7_1 x12_5 a0_0 l0_1 a0_2 l0_3 l0_4 l0_5 = some r) ∧ Aside0 (kq ≤ kj65) ∧ Aside0 (Kd.R (Kd.int .i64) 3 w' w.heap.size (fun _ => True) (.slice Ao32 t438.length co32) t438) ∧ Aside0 (Kd.S (Kd.slice 3 (Kd.int .i64)) 34 w' w.heap.size (fun k_ => some k_ ≠ ((.slice Ao32 t438.length co32) : Value).ownBlock ∧ some k_ ≠ (v448 : Value).ownBlock) v442 t441) ∧ Aside0 (Kd.R Kd.bool 4 w' w.heap.size (fun _ => True) (.slice (some ad450) t444.length co33) t444) ∧ Aside0 (Kd.S (Kd.slice 3 (Kd.int .i64)) 34 w' w.heap.size (fun k_ => some k_ ≠ ((.slice Ao32 t438.length co32) : Value).ownBlock ∧ some k_ ≠ (v442 : Value).ownBlock) v448 t447) ∧ Aside0 (w'.heap[gb435]? = some (.cells #[.string a0_0, (.slice A0_1 l0_1.length c0_1), .string a0_2, (.slice A0_3 l0_3.length c0_3), (.slice A0_4 l0_4.length c0_4), (.slice A0_5 l0_5.length c0_5)] 26 (0, 0))) ∧ Aside0 (Below w.heap.size w w'))
         case atStart => exact ⟨(0), (by first | rfl | (simp; done) | (simp [*]; done)), H', ⟨Nat.le_refl _⟩, ⟨by (with_reducible repeat (first | apply Kd.R_alloc | apply Kd.R_drewN | apply Kd.R_drew)); exact HO_3.out⟩, ⟨by (with_reducible repeat (first | apply Kd.S_alloc | apply Kd.S_drewN | apply Kd.S_drew)); exact HO_4.out⟩, ⟨by (with_reducible repeat (first | apply Kd.R_alloc | apply Kd.R_drewN | apply Kd.R_drew)); exact HO_5.out⟩, ⟨by (with_reducible repeat (first | apply Kd.S_alloc | apply Kd.S_drewN | apply Kd.S_drew)); exact HO_6.out⟩, ⟨by (with_reducible repeat (first | refine blk_drewN ?_ _ | refine blk_drew ?_ | refine blk_alloc ?_ _)); exact BK435.out⟩, ⟨by repeat (first | (with_reducible first | exact HB.out | apply below_alloc | apply pw_below_drewN | apply below_drew1 | refine below_set ?_ GE435.out) | exact HB.out)⟩⟩
         case round =>
          clear H'
          try clear c1
          try clear c2
          try clear p2
          try clear q2
          try clear c3
          try clear c4
          try clear p4
          try clear q4
          try clear hx4
          try clear c5
          try clear c6
          try clear p6
          try clear c7
          try clear c12
          try clear c16
          try clear c17
          try clear c26
          try clear c26b0
          try clear c27
          try clear c27b0
          try clear c28
          try clear c28b0
          try clear q29
          try clear c30
          try clear c35
          try clear c37
          try clear c38
          try clear c39
          try clear c40
          try clear c43
          try clear c45
          try clear p45
          try clear q45
          try clear hx45
          try clear p46
          try clear q46
          try clear hx46
          try clear c48
          try clear c49
          try clear c49b0
          try clear c51
          try clear c52
          try clear c52b0
          try clear c52b1
          try clear c56
          try clear c56b0
          try clear c57
          try clear c57b0
          try clear c59
          try clear p64
          try clear c67
          try clear c67b0
          try clear c68
          try clear c68b0
          try clear c69
          try clear c69b0
          try clear c70
          try clear c70b0
          try clear c71
          try clear c71b0
          try clear c71b1
          try clear hcz16_0
          try clear hcz16_1
          try clear hcz16_2
          try clear hcz16_3
          try clear hcz16_4
          try clear hcz16_5
          try clear hcz18_0
          try clear hcz18_1
          try clear hcz18_2
          try clear hcz18_3
          try clear hcz18_4
          try clear hcz18_5
          try clear hcz20_0
          try clear hcz20_1
          try clear hcz20_2
          try clear hcz20_3
          try clear hcz20_4
          try clear hcz20_5
          try clear hcz22_0
          try clear hcz22_1
          try clear hcz22_2
          try clear hcz22_3
          try clear hcz22_4
          try clear hcz22_5
          try clear hcz24_0
          try clear hcz24_1
          try clear hcz24_2
          try clear hcz24_3
          try clear hcz24_4
          try clear hcz24_5
          try clear hcz38_0
          try clear hcz38_1
          try clear hcz38_2
          try clear hcz38_3
          try clear hcz38_4
          try clear hcz38_5
          try clear hcz40_0
          try clear hcz40_1
          try clear hcz40_2
          try clear hcz40_3
          try clear hcz40_4
          try clear hcz40_5
          try clear hcz42_0
          try clear hcz42_1
          try clear hcz42_2
          try clear hcz42_3
          try clear hcz42_4
          try clear hcz42_5
          try clear hcz44_0
          try clear hcz44_1
          try clear hcz44_2
          try clear hcz44_3
          try clear hcz44_4
          try clear hcz44_5
          try clear hcz46_0
          try clear hcz46_1
          try clear hcz46_2
          try clear hcz46_3
          try clear hcz46_4
          try clear hcz46_5
          try clear hcz53_0
          try clear hcz53_1
          try clear hcz53_2
          try clear hcz53_3
          try clear hcz53_4
          try clear hcz53_5
          try clear hcz60_0
          try clear hcz60_1
          try clear hcz60_2
          try clear hcz60_3
          try clear hcz60_4
          try clear hcz60_5
          try clear hcz64_0
          try clear hcz64_1
          try clear hcz64_2
          try clear hcz64_3
          try clear hcz64_4
          try clear hcz64_5
          try clear hcz8_0
          try clear hcz8_1
          try clear hcz8_2
          try clear hcz8_3
          try clear hcz8_4
          try clear hcz8_5
          try clear hfz16_0
          try clear hfz16_1
          try clear hfz16_2
          try clear hfz16_3
          try clear hfz16_4
          try clear hfz16_5
          try clear hfz18_0
          try clear hfz18_1
          try clear hfz18_2
          try clear hfz18_3
          try clear hfz18_4
          try clear hfz18_5
          try clear hfz20_0
          try clear hfz20_1
          try clear hfz20_2
          try clear hfz20_3
          try clear hfz20_4
          try clear hfz20_5
          try clear hfz22_0
          try clear hfz22_1
          try clear hfz22_2
          try clear hfz22_3
          try clear hfz22_4
          try clear hfz22_5
          try clear hfz24_0
          try clear hfz24_1
          try clear hfz24_2
          try clear hfz24_3
          try clear hfz24_4
          try clear hfz24_5
          try clear hfz38_0
          try clear hfz38_1
          try clear hfz38_2
          try clear hfz38_3
          try clear hfz38_4
          try clear hfz38_5
          try clear hfz40_0
          try clear hfz40_1
          try clear hfz40_2
          try clear hfz40_3
          try clear hfz40_4
          try clear hfz40_5
          try clear hfz42_0
          try clear hfz42_1
          try clear hfz42_2
          try clear hfz42_3
          try clear hfz42_4
          try clear hfz42_5
          try clear hfz44_0
          try clear hfz44_1
          try clear hfz44_2
          try clear hfz44_3
          try clear hfz44_4
          try clear hfz44_5
          try clear hfz46_0
          try clear hfz46_1
          try clear hfz46_2
          try clear hfz46_3
          try clear hfz46_4
          try clear hfz46_5
          try clear hfz53_0
          try clear hfz53_1
          try clear hfz53_2
          try clear hfz53_3
          try clear hfz53_4
          try clear hfz53_5
          try clear hfz60_0
          try clear hfz60_1
          try clear hfz60_2
          try clear hfz60_3
          try clear hfz60_4
          try clear hfz60_5
          try clear hfz64_0
          try clear hfz64_1
          try clear hfz64_2
          try clear hfz64_3
          try clear hfz64_4
          try clear hfz64_5
          try clear hfz8_0
          try clear hfz8_1
          try clear hfz8_2
          try clear hfz8_3
          try clear hfz8_4
          try clear hfz8_5
          try clear hx450_0
          try clear hx456_0
          try clear hx458_0
          try clear hx460_0
          try clear hx461_0
          try clear p2
          try clear p4
          try clear p45
          try clear p450
          try clear p456
          try clear p458
          try clear p46
          try clear p460
          try clear p461
          try clear p6
          try clear p64
          try clear q2
          try clear q29
          try clear q4
          try clear q45
          try clear q450
          try clear q456
          try clear q458
          try clear q46
          try clear q460
          try clear q461
          obtain ⟨x12_5, rfl, HA, HK5, HO_3, HO_4, HO_5, HO_6, BK435, HB⟩ := hrel
          cases gk with
          | zero => exact absurd HA.out (by simp [truantlaw10_DomChain.l3])
          | succ k5 =>
           have H := HA.out
           clear HA
           simp only [truantlaw10_DomChain.l3] at H
           by_cases c72 : 0 ≤ x7_1
           rotate_left
           ·rw [if_neg c72] at H
            exact absurd H (by simp)
           rw [if_pos c72] at H
           have c72b0 : decide (0 ≤ x7_1) = true := decide_eq_true c72
           clear c72
           by_cases c73 : x7_1 < (t441.length : Int)
           rotate_left
           ·rw [if_neg c73] at H
            exact absurd H (by simp)
           rw [if_pos c73] at H
           have c73b0 : decide (x7_1 < (t441.length : Int)) = true := decide_eq_true c73
           clear c73
           by_cases c74 : x12_5 < ((rd_L2 t441 x7_1).length : Int)
           ·rw [if_pos c74] at H
            have c74b0 : decide (x12_5 < ((rd_L2 t441 x7_1).length : Int)) = true := decide_eq_true c74
            clear c74
            by_cases c75 : 0 ≤ x12_5
            rotate_left
            ·rw [if_neg c75] at H
             exact absurd H (by simp)
            rw [if_pos c75] at H
            have c75b0 : decide (0 ≤ x12_5) = true := decide_eq_true c75
            clear c75
            by_cases c76 : (rd (rd_L2 t441 x7_1) x12_5) = x7_1
            ·rw [if_pos c76] at H
             have c76b0 : ((rd (rd_L2 t441 x7_1) x12_5) == x7_1) = true := beq_iff_eq.mpr c76
             have c76b1 : ((rd (rd_L2 t441 x7_1) x12_5) != x7_1) = false := bne_eq_false_iff_eq.mpr c76
             clear c76
             have H' := Aside0.mk H
             clear H
             obtain ⟨Ao77, co77, eo77⟩ := Kd.S_slice HO_4.out
             subst eo77
             have p462 : 0 ≤ (x7_1 : Int) := of_decide_eq_true (by first | (with_reducible assumption) | assumption)
             have q462 : x7_1 < (t441.length : Int) := of_decide_eq_true (by first | (with_reducible assumption) | assumption)
             obtain ⟨ad462, A462_0, c462_0, e462, hx462_0, hl462_0, hi462_0⟩ := at_L2 (Kd.S_reads' HO_4.out).2.2 x7_1 p462 q462
             cases e462
             obtain ⟨ce462, hce462, hMe462, hcc462⟩ := Kd.S_get HO_4.out [] x7_1 p462 (by first | exact q462 | exact of_decide_eq_true (by first | (with_reducible assumption) | assumption) | (have e_ := (Kd.S_reads' HO_4.out).1; omega))
             obtain ⟨ve462_0, rfl, ge462_0⟩ := hMe462
             have hv462_0 := hcc462 0 _ rfl
             rw [Nat.add_zero, show ((Kd.slice 3 (Kd.int .i64))).sz = 1 from rfl, Nat.mul_one] at hv462_0
             replace hv462_0 := Option.some.inj (hv462_0.symm.trans hx462_0)
             rw [hv462_0] at ge462_0
             have HL462_0 := Aside0.mk (show Kd.R (Kd.int .i64) 3 _ _ _ _ (rd_L2 t441 x7_1) from ge462_0)
             clear hv462_0 ge462_0
             clear hcc462 hce462
             have HR462_0 := Aside0.mk hi462_0
             have HC462_0 := Aside0.mk hl462_0
             clear hi462_0 hl462_0
             replace p462 := eq_true p462
             replace q462 := eq_true q462
             try go_wp2
             have n0_ := Aside0.mk (Kd.R_drew HO_3.out)
             have n1_ := Aside0.mk (Kd.S_drew HO_4.out)
             have n2_ := Aside0.mk (Kd.R_drew HO_5.out)
             have n3_ := Aside0.mk (Kd.S_drew HO_6.out)
             have n4_ := Aside0.mk (Kd.R_drew HL462_0.out)
             have n5_ := Aside0.mk (blk_drew BK435.out)
             have n6_ := Aside0.mk (Kd.C_drew HR462_0.out)
             have n7_ := Aside0.mk (below_drew1 HB.out)
             clear HO_3
             clear HO_4
             clear HO_5
             clear HO_6
             clear HL462_0
             clear BK435
             clear HR462_0
             clear HB
             have HO_3 := n0_
             have HO_4 := n1_
             have HO_5 := n2_
             have HO_6 := n3_
             have HL462_0 := n4_
             have BK435 := n5_
             have HR462_0 := n6_
             have HB := n7_
             clear n0_ n1_ n2_ n3_ n4_ n5_ n6_ n7_
             have p463 : 0 ≤ (x7_1 : Int) := of_decide_eq_true (by first | (with_reducible assumption) | assumption)
             have q463 : x7_1 < (t441.length : Int) := of_decide_eq_true (by first | (with_reducible assumption) | assumption)
             obtain ⟨ad463, A463_0, c463_0, e463, hx463_0, hl463_0, hi463_0⟩ := at_L2 (Kd.S_reads' HO_4.out).2.2 x7_1 p463 q463
             obtain rfl : ad462 = ad463 := (by injection e463)
             obtain ⟨ce463, hce463, hMe463, hcc463⟩ := Kd.S_get HO_4.out [] x7_1 p463 (by first | exact q463 | exact of_decide_eq_true (by first | (with_reducible assumption) | assumption) | (have e_ := (Kd.S_reads' HO_4.out).1; omega))
             obtain ⟨ve463_0, rfl, ge463_0⟩ := hMe463
             have hv463_0 := hcc463 0 _ rfl
             rw [Nat.add_zero, show ((Kd.slice 3 (Kd.int .i64))).sz = 1 from rfl, Nat.mul_one] at hv463_0
             replace hv463_0 := Option.some.inj (hv463_0.symm.trans hx463_0)
             rw [hv463_0] at ge463_0
             have HL463_0 := Aside0.mk (show Kd.R (Kd.int .i64) 3 _ _ _ _ (rd_L2 t441 x7_1) from ge463_0)
             clear hv463_0 ge463_0
             clear hcc463 hce463
             have HR463_0 := Aside0.mk hi463_0
             have HC463_0 := Aside0.mk hl463_0
             clear hi463_0 hl463_0
             replace p463 := eq_true p463
             replace q463 := eq_true q463
             have p464 : 0 ≤ (x12_5 : Int) := of_decide_eq_true (by first | (with_reducible assumption) | assumption)
             have q464 : x12_5 < ((rd_L2 t441 x7_1).length : Int) := of_decide_eq_true (by first | (with_reducible assumption) | assumption)
             obtain ⟨ad464, e464, hx464_0⟩ := Kd.at_int (by repeat (first | (with_reducible exact HR463_0.out) | (with_reducible refine Kd.C_alloc ?_ _) | (with_reducible refine Kd.C_drewN ?_ _) | (with_reducible refine Kd.C_drew ?_) | exact HR463_0.out)) x12_5 p464 q464
             cases e464
             replace p464 := eq_true p464
             replace q464 := eq_true q464
             refine start_ (n := 21) (S := fun w' => w'.cell? (ad462.add (x7_1).toNat) = some (.slice (some ad464) (rd_L2 t441 x7_1).length c463_0) ∧ w'.cell? (ad464.add (x12_5).toNat) = some (.int .i64 (rd (rd_L2 t441 x7_1) x12_5))) (ds := []) #[false, false, false, false, false, false, false, false, false, false, false, false, false, false, false, false, false, false, false, false, false] (by kernel_rfl) rfl rfl ⟨hx463_0, hx464_0⟩ (fun hHeld => ?_); refine with_tabW truantlaw10_DomChain.tab35 truantlaw10_DomChain.bits35 (fun HT_ HW_ => ?_)
             generalize wr.drew = w78 at HO_3 HO_4 HO_5 HO_6 HL462_0 BK435 HR462_0 HB HL463_0 HR463_0 hx463_0 hx464_0 hHeld ⊢
             refine pure_ (i := 0) (N := some 132) (v := ?_) (a' := ?_) #[true, false, false, false, false, false, false, false, false, false, false, false, false, false, false, false, false, false, false, false, false] rfl rfl (any_of HT_.out (by kernel_rfl)) (fun _ _ _ h => h) (Or.inl ⟨by rfl, ?_⟩) ?_ ?_
             rotate_left
             ·intro w'
              go_simp
              with_reducible rfl
             rotate_left
             ·simp only [Act.put, List.setIfInBounds_toArray, List.set_cons_zero, List.set_cons_succ, i64_w, i32_w]
              rfl
             refine pure_ (i := 1) (N := some 133) (v := ?_) (a' := ?_) #[true, true, false, false, false, false, false, false, false, false, false, false, false, false, false, false, false, false, false, false, false] rfl rfl (any_of HT_.out (by kernel_rfl)) (fun _ _ _ h => h) (Or.inl ⟨by rfl, ?_⟩) ?_ ?_
             rotate_left
             ·intro w'
              go_simp
              with_reducible rfl
             rotate_left
             ·simp only [Act.put, List.setIfInBounds_toArray, List.set_cons_zero, List.set_cons_succ, i64_w, i32_w]
              rfl
             refine pure_ (i := 2) (N := some 134) (v := ?_) (a' := ?_) #[true, true, true, false, false, false, false, false, false, false, false, false, false, false, false, false, false, false, false, false, false] rfl rfl (any_of HT_.out (by kernel_rfl)) (fun _ _ _ h => h) (Or.inl ⟨by rfl, ?_⟩) ?_ ?_
             rotate_left
             ·intro w'
              go_simp
              with_reducible rfl
             rotate_left
             ·simp only [Act.put, List.setIfInBounds_toArray, List.set_cons_zero, List.set_cons_succ, i64_w, i32_w]
              rfl
             refine pure_ (i := 4) (N := some 136) (v := ?_) (a' := ?_) #[true, true, true, false, true, false, false, false, false, false, false, false, false, false, false, false, false, false, false, false, false] rfl rfl (any_of HT_.out (by kernel_rfl)) (fun _ _ _ h => h) (Or.inl ⟨by rfl, ?_⟩) ?_ ?_
             rotate_left
             ·intro w'
              go_simp
              with_reducible rfl
             rotate_left
             ·simp only [Act.put, List.setIfInBounds_toArray, List.set_cons_zero, List.set_cons_succ, i64_w, i32_w]
              rfl
             refine pure_ (i := 7) (N := some 139) (v := ?_) (a' := ?_) #[true, true, true, false, true, false, false, true, false, false, false, false, false, false, false, false, false, false, false, false, false] rfl rfl (any_of HT_.out (by kernel_rfl)) (fun _ _ _ h => h) (Or.inl ⟨by rfl, ?_⟩) ?_ ?_
             rotate_left
             ·intro w'
              go_simp
              with_reducible rfl
             rotate_left
             ·simp only [Act.put, List.setIfInBounds_toArray, List.set_cons_zero, List.set_cons_succ, i64_w, i32_w]
              rfl
             refine take_ (i := 3) (N := some 135) (v := ?_) (a' := ?_) #[true, true, true, true, true, false, false, true, false, false, false, false, false, false, false, false, false, false, false, false, false] rfl rfl (take_ofW HT_.out HW_.out (by kernel_rfl)) (fun _ _ _ h => h) (Or.inl ⟨by rfl, ?_⟩) hHeld ?_ ?_
             rotate_left
             ·rintro w' ⟨s0, s1⟩
              go_simp
              with_reducible rfl
             rotate_left
             ·simp only [Act.put, List.setIfInBounds_toArray, List.set_cons_zero, List.set_cons_succ, i64_w, i32_w]
              rfl
             refine pure_ (i := 5) (N := some 137) (v := ?_) (a' := ?_) #[true, true, true, true, true, true, false, true, false, false, false, false, false, false, false, false, false, false, false, false, false] rfl rfl (any_of HT_.out (by kernel_rfl)) (fun _ _ _ h => h) (Or.inl ⟨by rfl, ?_⟩) ?_ ?_
             rotate_left
             ·intro w'
              go_simp
              with_reducible rfl
             rotate_left
             ·simp only [Act.put, List.setIfInBounds_toArray, List.set_cons_zero, List.set_cons_succ, i64_w, i32_w]
              rfl
             refine take_ (i := 6) (N := some 138) (v := ?_) (a' := ?_) #[true, true, true, true, true, true, true, true, false, false, false, false, false, false, false, false, false, false, false, false, false] rfl rfl (take_ofW HT_.out HW_.out (by kernel_rfl)) (fun _ _ _ h => h) (Or.inl ⟨by rfl, ?_⟩) hHeld ?_ ?_
             rotate_left
             ·rintro w' ⟨s0, s1⟩
              go_simp
              with_reducible rfl
             rotate_left
             ·simp only [Act.put, List.setIfInBounds_toArray, List.set_cons_zero, List.set_cons_succ, i64_w, i32_w]
              rfl
             refine pure_ (i := 8) (N := some 140) (v := ?_) (a' := ?_) #[true, true, true, true, true, true, true, true, true, false, false, false, false, false, false, false, false, false, false, false, false] rfl rfl (any_of HT_.out (by kernel_rfl)) (fun _ _ _ h => h) (Or.inl ⟨by rfl, ?_⟩) ?_ ?_
             rotate_left
             ·intro w'
              go_simp
              with_reducible rfl
             rotate_left
             ·simp only [Act.put, List.setIfInBounds_toArray, List.set_cons_zero, List.set_cons_succ, i64_w, i32_w]
              rfl
             refine pure_ (i := 9) (N := some 141) (v := ?_) (a' := ?_) #[true, true, true, true, true, true, true, true, true, true, false, false, false, false, false, false, false, false, false, false, false] rfl rfl (any_of HT_.out (by kernel_rfl)) (fun _ _ _ h => h) (Or.inl ⟨by rfl, ?_⟩) ?_ ?_
             rotate_left
             ·intro w'
              go_simp
              with_reducible rfl
             rotate_left
             ·simp only [Act.put, List.setIfInBounds_toArray, List.set_cons_zero, List.set_cons_succ, i64_w, i32_w]
              rfl
             refine pure_ (i := 10) (N := some 142) (v := undef) (a' := ?_) #[true, true, true, true, true, true, true, true, true, true, true, false, false, false, false, false, false, false, false, false, false] rfl rfl (any_of HT_.out (by kernel_rfl)) (fun _ _ _ h => h) (Or.inr ⟨by rfl, rfl⟩) ?_ ?_
             rotate_left
             ·simp only [Act.put, List.setIfInBounds_toArray, List.set_cons_zero, List.set_cons_succ, i64_w, i32_w]
              rfl
             refine pure_ (i := 11) (N := some 143) (v := undef) (a' := ?_) #[true, true, true, true, true, true, true, true, true, true, true, true, false, false, false, false, false, false, false, false, false] rfl rfl (any_of HT_.out (by kernel_rfl)) (fun _ _ _ h => h) (Or.inr ⟨by rfl, rfl⟩) ?_ ?_
             rotate_left
             ·simp only [Act.put, List.setIfInBounds_toArray, List.set_cons_zero, List.set_cons_succ, i64_w, i32_w]
              rfl
             refine pure_ (i := 12) (N := some 144) (v := undef) (a' := ?_) #[true, true, true, true, true, true, true, true, true, true, true, true, true, false, false, false, false, false, false, false, false] rfl rfl (any_of HT_.out (by kernel_rfl)) (fun _ _ _ h => h) (Or.inr ⟨by rfl, rfl⟩) ?_ ?_
             rotate_left
             ·simp only [Act.put, List.setIfInBounds_toArray, List.set_cons_zero, List.set_cons_succ, i64_w, i32_w]
              rfl
             refine pure_ (i := 13) (N := some 145) (v := undef) (a' := ?_) #[true, true, true, true, true, true, true, true, true, true, true, true, true, true, false, false, false, false, false, false, false] rfl rfl (any_of HT_.out (by kernel_rfl)) (fun _ _ _ h => h) (Or.inr ⟨by rfl, rfl⟩) ?_ ?_
             rotate_left
             ·simp only [Act.put, List.setIfInBounds_toArray, List.set_cons_zero, List.set_cons_succ, i64_w, i32_w]
              rfl
             refine pure_ (i := 14) (N := some 146) (v := undef) (a' := ?_) #[true, true, true, true, true, true, true, true, true, true, true, true, true, true, true, false, false, false, false, false, false] rfl rfl (any_of HT_.out (by kernel_rfl)) (fun _ _ _ h => h) (Or.inr ⟨by rfl, rfl⟩) ?_ ?_
             rotate_left
             ·simp only [Act.put, List.setIfInBounds_toArray, List.set_cons_zero, List.set_cons_succ, i64_w, i32_w]
              rfl
             refine pure_ (i := 15) (N := some 147) (v := undef) (a' := ?_) #[true, true, true, true, true, true, true, true, true, true, true, true, true, true, true, true, false, false, false, false, false] rfl rfl (any_of HT_.out (by kernel_rfl)) (fun _ _ _ h => h) (Or.inr ⟨by rfl, rfl⟩) ?_ ?_
             rotate_left
             ·simp only [Act.put, List.setIfInBounds_toArray, List.set_cons_zero, List.set_cons_succ, i64_w, i32_w]
              rfl
             refine pure_ (i := 16) (N := some 148) (v := undef) (a' := ?_) #[true, true, true, true, true, true, true, true, true, true, true, true, true, true, true, true, true, false, false, false, false] rfl rfl (any_of HT_.out (by kernel_rfl)) (fun _ _ _ h => h) (Or.inr ⟨by rfl, rfl⟩) ?_ ?_
             rotate_left
             ·simp only [Act.put, List.setIfInBounds_toArray, List.set_cons_zero, List.set_cons_succ, i64_w, i32_w]
              rfl
             refine pure_ (i := 17) (N := some 149) (v := undef) (a' := ?_) #[true, true, true, true, true, true, true, true, true, true, true, true, true, true, true, true, true, true, false, false, false] rfl rfl (any_of HT_.out (by kernel_rfl)) (fun _ _ _ h => h) (Or.inr ⟨by rfl, rfl⟩) ?_ ?_
             rotate_left
             ·simp only [Act.put, List.setIfInBounds_toArray, List.set_cons_zero, List.set_cons_succ, i64_w, i32_w]
              rfl
             refine pure_ (i := 18) (N := some 150) (v := undef) (a' := ?_) #[true, true, true, true, true, true, true, true, true, true, true, true, true, true, true, true, true, true, true, false, false] rfl rfl (any_of HT_.out (by kernel_rfl)) (fun _ _ _ h => h) (Or.inr ⟨by rfl, rfl⟩) ?_ ?_
             rotate_left
             ·simp only [Act.put, List.setIfInBounds_toArray, List.set_cons_zero, List.set_cons_succ, i64_w, i32_w]
              rfl
             refine pure_ (i := 19) (N := some 151) (v := undef) (a' := ?_) #[true, true, true, true, true, true, true, true, true, true, true, true, true, true, true, true, true, true, true, true, false] rfl rfl (any_of HT_.out (by kernel_rfl)) (fun _ _ _ h => h) (Or.inr ⟨by rfl, rfl⟩) ?_ ?_
             rotate_left
             ·simp only [Act.put, List.setIfInBounds_toArray, List.set_cons_zero, List.set_cons_succ, i64_w, i32_w]
              rfl
             refine pure_ (i := 20) (N := some 152) (v := ?_) (a' := ?_) #[true, true, true, true, true, true, true, true, true, true, true, true, true, true, true, true, true, true, true, true, true] rfl rfl (any_of HT_.out (by kernel_rfl)) (fun _ _ _ h => h) (Or.inl ⟨by rfl, ?_⟩) ?_ ?_
             rotate_left
             ·intro w'
              go_simp
              with_reducible rfl
             rotate_left
             ·simp only [Act.put, List.setIfInBounds_toArray, List.set_cons_zero, List.set_cons_succ, i64_w, i32_w]
              rfl
             refine done_ (done_of HT_.out (by kernel_rfl)) ?_
             try go_wp2
             go_roundg k5
             case measure => have := HK1.out; have := HJ30.out; have := HK3.out; have := HJ65.out; have := HK5.out; omega
             case rel => exact ⟨(wrap64 (x12_5 + 1)), (by first | rfl | (simp; done) | (simp [*]; done)), H', ⟨by have := HK1.out; have := HJ30.out; have := HK3.out; have := HJ65.out; have := HK5.out; omega⟩, ⟨by (with_reducible repeat (first | apply Kd.R_alloc | apply Kd.R_drewN | apply Kd.R_drew)); exact HO_3.out⟩, ⟨by (with_reducible repeat (first | apply Kd.S_alloc | apply Kd.S_drewN | apply Kd.S_drew)); exact HO_4.out⟩, ⟨by (with_reducible repeat (first | apply Kd.R_alloc | apply Kd.R_drewN | apply Kd.R_drew)); exact HO_5.out⟩, ⟨by (with_reducible repeat (first | apply Kd.S_alloc | apply Kd.S_drewN | apply Kd.S_drew)); exact HO_6.out⟩, ⟨by (with_reducible repeat (first | refine blk_drewN ?_ _ | refine blk_drew ?_ | refine blk_alloc ?_ _)); exact BK435.out⟩, ⟨by repeat (first | (with_reducible first | exact HB.out | apply below_alloc | apply pw_below_drewN | apply below_drew1 | refine below_set ?_ GE435.out) | exact HB.out)⟩⟩
            rw [if_neg c76] at H
            have c76b0 : ((rd (rd_L2 t441 x7_1) x12_5) == x7_1) = false := beq_eq_false_iff_ne.mpr c76
            have c76b1 : ((rd (rd_L2 t441 x7_1) x12_5) != x7_1) = true := bne_iff_ne.mpr c76
            replace H := Option.bind_eq_some_iff.mp H
            obtain ⟨t467, A790, H⟩ := H
            replace H : (if t467 = true then (none) else (truantlaw10_DomChain.l3 k5 t438 t441 t444 t447 x7_1 (wrap64 (x12_5 + 1)) a0_0 l0_1 a0_2 l0_3 l0_4 l0_5)) = some r := H
            have A79 := Aside0.mk A790
            clear A790
            by_cases c80 : t467 = true
            ·subst c80
             have H1 : (none) = some r := by rw [if_pos rfl] at H; exact H
             clear H
             have H := H1
             clear H1
             exact absurd H (by simp)
            replace c80 := Bool.eq_false_iff.mpr c80
            subst c80
            have H1 : (truantlaw10_DomChain.l3 k5 t438 t441 t444 t447 x7_1 (wrap64 (x12_5 + 1)) a0_0 l0_1 a0_2 l0_3 l0_4 l0_5) = some r := by rw [if_neg (show ¬ (false = true) by decide)] at H; exact H
            clear H
            have H := H1
            clear H1
            have H' := Aside0.mk H
            clear H
            obtain ⟨Ao81, co81, eo81⟩ := Kd.S_slice HO_4.out
            subst eo81
            have p462 : 0 ≤ (x7_1 : Int) := of_decide_eq_true (by first | (with_reducible assumption) | assumption)
            have q462 : x7_1 < (t441.length : Int) := of_decide_eq_true (by first | (with_reducible assumption) | assumption)
            obtain ⟨ad462, A462_0, c462_0, e462, hx462_0, hl462_0, hi462_0⟩ := at_L2 (Kd.S_reads' HO_4.out).2.2 x7_1 p462 q462
            cases e462
            obtain ⟨ce462, hce462, hMe462, hcc462⟩ := Kd.S_get HO_4.out [] x7_1 p462 (by first | exact q462 | exact of_decide_eq_true (by first | (with_reducible assumption) | assumption) | (have e_ := (Kd.S_reads' HO_4.out).1; omega))
            obtain ⟨ve462_0, rfl, ge462_0⟩ := hMe462
            have hv462_0 := hcc462 0 _ rfl
            rw [Nat.add_zero, show ((Kd.slice 3 (Kd.int .i64))).sz = 1 from rfl, Nat.mul_one] at hv462_0
            replace hv462_0 := Option.some.inj (hv462_0.symm.trans hx462_0)
            rw [hv462_0] at ge462_0
            have HL462_0 := Aside0.mk (show Kd.R (Kd.int .i64) 3 _ _ _ _ (rd_L2 t441 x7_1) from ge462_0)
            clear hv462_0 ge462_0
            clear hcc462 hce462
            have HR462_0 := Aside0.mk hi462_0
            have HC462_0 := Aside0.mk hl462_0
            clear hi462_0 hl462_0
            replace p462 := eq_true p462
            replace q462 := eq_true q462
            try go_wp2
            have n0_ := Aside0.mk (Kd.R_drew HO_3.out)
            have n1_ := Aside0.mk (Kd.S_drew HO_4.out)
            have n2_ := Aside0.mk (Kd.R_drew HO_5.out)
            have n3_ := Aside0.mk (Kd.S_drew HO_6.out)
            have n4_ := Aside0.mk (Kd.R_drew HL462_0.out)
            have n5_ := Aside0.mk (blk_drew BK435.out)
            have n6_ := Aside0.mk (Kd.C_drew HR462_0.out)
            have n7_ := Aside0.mk (below_drew1 HB.out)
            clear HO_3
            clear HO_4
            clear HO_5
            clear HO_6
            clear HL462_0
            clear BK435
            clear HR462_0
            clear HB
            have HO_3 := n0_
            have HO_4 := n1_
            have HO_5 := n2_
            have HO_6 := n3_
            have HL462_0 := n4_
            have BK435 := n5_
            have HR462_0 := n6_
            have HB := n7_
            clear n0_ n1_ n2_ n3_ n4_ n5_ n6_ n7_
            have p463 : 0 ≤ (x7_1 : Int) := of_decide_eq_true (by first | (with_reducible assumption) | assumption)
            have q463 : x7_1 < (t441.length : Int) := of_decide_eq_true (by first | (with_reducible assumption) | assumption)
            obtain ⟨ad463, A463_0, c463_0, e463, hx463_0, hl463_0, hi463_0⟩ := at_L2 (Kd.S_reads' HO_4.out).2.2 x7_1 p463 q463
            obtain rfl : ad462 = ad463 := (by injection e463)
            obtain ⟨ce463, hce463, hMe463, hcc463⟩ := Kd.S_get HO_4.out [] x7_1 p463 (by first | exact q463 | exact of_decide_eq_true (by first | (with_reducible assumption) | assumption) | (have e_ := (Kd.S_reads' HO_4.out).1; omega))
            obtain ⟨ve463_0, rfl, ge463_0⟩ := hMe463
            have hv463_0 := hcc463 0 _ rfl
            rw [Nat.add_zero, show ((Kd.slice 3 (Kd.int .i64))).sz = 1 from rfl, Nat.mul_one] at hv463_0
            replace hv463_0 := Option.some.inj (hv463_0.symm.trans hx463_0)
            rw [hv463_0] at ge463_0
            have HL463_0 := Aside0.mk (show Kd.R (Kd.int .i64) 3 _ _ _ _ (rd_L2 t441 x7_1) from ge463_0)
            clear hv463_0 ge463_0
            clear hcc463 hce463
            have HR463_0 := Aside0.mk hi463_0
            have HC463_0 := Aside0.mk hl463_0
            clear hi463_0 hl463_0
            replace p463 := eq_true p463
            replace q463 := eq_true q463
            have p464 : 0 ≤ (x12_5 : Int) := of_decide_eq_true (by first | (with_reducible assumption) | assumption)
            have q464 : x12_5 < ((rd_L2 t441 x7_1).length : Int) := of_decide_eq_true (by first | (with_reducible assumption) | assumption)
            obtain ⟨ad464, e464, hx464_0⟩ := Kd.at_int (by repeat (first | (with_reducible exact HR463_0.out) | (with_reducible refine Kd.C_alloc ?_ _) | (with_reducible refine Kd.C_drewN ?_ _) | (with_reducible refine Kd.C_drew ?_) | exact HR463_0.out)) x12_5 p464 q464
            cases e464
            replace p464 := eq_true p464
            replace q464 := eq_true q464
            have p465 : 0 ≤ (x7_1 : Int) := of_decide_eq_true (by first | (with_reducible assumption) | assumption)
            have q465 : x7_1 < (t441.length : Int) := of_decide_eq_true (by first | (with_reducible assumption) | assumption)
            obtain ⟨ad465, A465_0, c465_0, e465, hx465_0, hl465_0, hi465_0⟩ := at_L2 (Kd.S_reads' HO_4.out).2.2 x7_1 p465 q465
            obtain rfl : ad462 = ad465 := (by injection e465)
            obtain ⟨ce465, hce465, hMe465, hcc465⟩ := Kd.S_get HO_4.out [] x7_1 p465 (by first | exact q465 | exact of_decide_eq_true (by first | (with_reducible assumption) | assumption) | (have e_ := (Kd.S_reads' HO_4.out).1; omega))
            obtain ⟨ve465_0, rfl, ge465_0⟩ := hMe465
            have hv465_0 := hcc465 0 _ rfl
            rw [Nat.add_zero, show ((Kd.slice 3 (Kd.int .i64))).sz = 1 from rfl, Nat.mul_one] at hv465_0
            replace hv465_0 := Option.some.inj (hv465_0.symm.trans hx465_0)
            rw [hv465_0] at ge465_0
            have HL465_0 := Aside0.mk (show Kd.R (Kd.int .i64) 3 _ _ _ _ (rd_L2 t441 x7_1) from ge465_0)
            clear hv465_0 ge465_0
            clear hcc465 hce465
            have HR465_0 := Aside0.mk hi465_0
            have HC465_0 := Aside0.mk hl465_0
            clear hi465_0 hl465_0
            replace p465 := eq_true p465
            replace q465 := eq_true q465
            have ea_ := Option.some.inj (hx463_0.symm.trans hx465_0)
            injection ea_ with ea_ en_ ec_
            subst ea_
            subst ec_
            clear en_
            have p466 : 0 ≤ (x12_5 : Int) := of_decide_eq_true (by first | (with_reducible assumption) | assumption)
            have q466 : x12_5 < ((rd_L2 t441 x7_1).length : Int) := of_decide_eq_true (by first | (with_reducible assumption) | assumption)
            obtain ⟨ad466, e466, hx466_0⟩ := Kd.at_int (by repeat (first | (with_reducible exact HR465_0.out) | (with_reducible refine Kd.C_alloc ?_ _) | (with_reducible refine Kd.C_drewN ?_ _) | (with_reducible refine Kd.C_drew ?_) | exact HR465_0.out)) x12_5 p466 q466
            cases e466
            replace p466 := eq_true p466
            replace q466 := eq_true q466
            refine start_ (n := 21) (S := fun w' => w'.cell? ⟨gb435, 0, none⟩ = some (.string a0_0) ∧ w'.cell? ⟨gb435, 1, none⟩ = some (.slice A0_1 l0_1.length c0_1) ∧ w'.cell? ⟨gb435, 2, none⟩ = some (.string a0_2) ∧ w'.cell? ⟨gb435, 3, none⟩ = some (.slice A0_3 l0_3.length c0_3) ∧ w'.cell? ⟨gb435, 4, none⟩ = some (.slice A0_4 l0_4.length c0_4) ∧ w'.cell? ⟨gb435, 5, none⟩ = some (.slice A0_5 l0_5.length c0_5) ∧ w'.cell? (ad462.add (x7_1).toNat) = some (.slice (some ad464) (rd_L2 t441 x7_1).length c463_0) ∧ w'.cell? (ad464.add (x12_5).toNat) = some (.int .i64 (rd (rd_L2 t441 x7_1) x12_5)) ∧ w'.cell? (ad462.add (x7_1).toNat) = some (.slice (some ad464) (rd_L2 t441 x7_1).length c463_0) ∧ w'.cell? (ad464.add (x12_5).toNat) = some (.int .i64 (rd (rd_L2 t441 x7_1) x12_5))) (ds := []) #[false, false, false, false, false, false, false, false, false, false, false, false, false, false, false, false, false, false, false, false, false] (by kernel_rfl) rfl rfl ⟨(blk_cell BK435.out 0).trans rfl, (blk_cell BK435.out 1).trans rfl, (blk_cell BK435.out 2).trans rfl, (blk_cell BK435.out 3).trans rfl, (blk_cell BK435.out 4).trans rfl, (blk_cell BK435.out 5).trans rfl, hx463_0, hx464_0, hx465_0, hx466_0⟩ (fun hHeld => ?_); refine with_tabW truantlaw10_DomChain.tab35 truantlaw10_DomChain.bits35 (fun HT_ HW_ => ?_)
            generalize wr.drew = w82 at HO_3 HO_4 HO_5 HO_6 HL462_0 BK435 HR462_0 HB HL463_0 HL465_0 HR463_0 HR465_0 hx463_0 hx464_0 hx465_0 hx466_0 hHeld ⊢
            refine pure_ (i := 0) (N := some 132) (v := ?_) (a' := ?_) #[true, false, false, false, false, false, false, false, false, false, false, false, false, false, false, false, false, false, false, false, false] rfl rfl (any_of HT_.out (by kernel_rfl)) (fun _ _ _ h => h) (Or.inl ⟨by rfl, ?_⟩) ?_ ?_
            rotate_left
            ·intro w'
             go_simp
             with_reducible rfl
            rotate_left
            ·simp only [Act.put, List.setIfInBounds_toArray, List.set_cons_zero, List.set_cons_succ, i64_w, i32_w]
             rfl
            refine pure_ (i := 1) (N := some 133) (v := ?_) (a' := ?_) #[true, true, false, false, false, false, false, false, false, false, false, false, false, false, false, false, false, false, false, false, false] rfl rfl (any_of HT_.out (by kernel_rfl)) (fun _ _ _ h => h) (Or.inl ⟨by rfl, ?_⟩) ?_ ?_
            rotate_left
            ·intro w'
             go_simp
             with_reducible rfl
            rotate_left
            ·simp only [Act.put, List.setIfInBounds_toArray, List.set_cons_zero, List.set_cons_succ, i64_w, i32_w]
             rfl
            refine pure_ (i := 2) (N := some 134) (v := ?_) (a' := ?_) #[true, true, true, false, false, false, false, false, false, false, false, false, false, false, false, false, false, false, false, false, false] rfl rfl (any_of HT_.out (by kernel_rfl)) (fun _ _ _ h => h) (Or.inl ⟨by rfl, ?_⟩) ?_ ?_
            rotate_left
            ·intro w'
             go_simp
             with_reducible rfl
            rotate_left
            ·simp only [Act.put, List.setIfInBounds_toArray, List.set_cons_zero, List.set_cons_succ, i64_w, i32_w]
             rfl
            refine pure_ (i := 4) (N := some 136) (v := ?_) (a' := ?_) #[true, true, true, false, true, false, false, false, false, false, false, false, false, false, false, false, false, false, false, false, false] rfl rfl (any_of HT_.out (by kernel_rfl)) (fun _ _ _ h => h) (Or.inl ⟨by rfl, ?_⟩) ?_ ?_
            rotate_left
            ·intro w'
             go_simp
             with_reducible rfl
            rotate_left
            ·simp only [Act.put, List.setIfInBounds_toArray, List.set_cons_zero, List.set_cons_succ, i64_w, i32_w]
             rfl
            refine pure_ (i := 7) (N := some 139) (v := ?_) (a' := ?_) #[true, true, true, false, true, false, false, true, false, false, false, false, false, false, false, false, false, false, false, false, false] rfl rfl (any_of HT_.out (by kernel_rfl)) (fun _ _ _ h => h) (Or.inl ⟨by rfl, ?_⟩) ?_ ?_
            rotate_left
            ·intro w'
             go_simp
             with_reducible rfl
            rotate_left
            ·simp only [Act.put, List.setIfInBounds_toArray, List.set_cons_zero, List.set_cons_succ, i64_w, i32_w]
             rfl
            refine take_ (i := 3) (N := some 135) (v := ?_) (a' := ?_) #[true, true, true, true, true, false, false, true, false, false, false, false, false, false, false, false, false, false, false, false, false] rfl rfl (take_ofW HT_.out HW_.out (by kernel_rfl)) (fun _ _ _ h => h) (Or.inl ⟨by rfl, ?_⟩) hHeld ?_ ?_
            rotate_left
            ·rintro w' ⟨s0, s1, s2, s3, s4, s5, s6, s7, s8, s9⟩
             go_simp
             with_reducible rfl
            rotate_left
            ·simp only [Act.put, List.setIfInBounds_toArray, List.set_cons_zero, List.set_cons_succ, i64_w, i32_w]
             rfl
            refine pure_ (i := 5) (N := some 137) (v := ?_) (a' := ?_) #[true, true, true, true, true, true, false, true, false, false, false, false, false, false, false, false, false, false, false, false, false] rfl rfl (any_of HT_.out (by kernel_rfl)) (fun _ _ _ h => h) (Or.inl ⟨by rfl, ?_⟩) ?_ ?_
            rotate_left
            ·intro w'
             go_simp
             with_reducible rfl
            rotate_left
            ·simp only [Act.put, List.setIfInBounds_toArray, List.set_cons_zero, List.set_cons_succ, i64_w, i32_w]
             rfl
            refine take_ (i := 6) (N := some 138) (v := ?_) (a' := ?_) #[true, true, true, true, true, true, true, true, false, false, false, false, false, false, false, false, false, false, false, false, false] rfl rfl (take_ofW HT_.out HW_.out (by kernel_rfl)) (fun _ _ _ h => h) (Or.inl ⟨by rfl, ?_⟩) hHeld ?_ ?_
            rotate_left
            ·rintro w' ⟨s0, s1, s2, s3, s4, s5, s6, s7, s8, s9⟩
             go_simp
             with_reducible rfl
            rotate_left
            ·simp only [Act.put, List.setIfInBounds_toArray, List.set_cons_zero, List.set_cons_succ, i64_w, i32_w]
             rfl
            refine pure_ (i := 8) (N := some 140) (v := ?_) (a' := ?_) #[true, true, true, true, true, true, true, true, true, false, false, false, false, false, false, false, false, false, false, false, false] rfl rfl (any_of HT_.out (by kernel_rfl)) (fun _ _ _ h => h) (Or.inl ⟨by rfl, ?_⟩) ?_ ?_
            rotate_left
            ·intro w'
             go_simp
             with_reducible rfl
            rotate_left
            ·simp only [Act.put, List.setIfInBounds_toArray, List.set_cons_zero, List.set_cons_succ, i64_w, i32_w]
             rfl
            refine pure_ (i := 9) (N := some 141) (v := ?_) (a' := ?_) #[true, true, true, true, true, true, true, true, true, true, false, false, false, false, false, false, false, false, false, false, false] rfl rfl (any_of HT_.out (by kernel_rfl)) (fun _ _ _ h => h) (Or.inl ⟨by rfl, ?_⟩) ?_ ?_
            rotate_left
            ·intro w'
             go_simp
             with_reducible rfl
            rotate_left
            ·simp only [Act.put, List.setIfInBounds_toArray, List.set_cons_zero, List.set_cons_succ, i64_w, i32_w]
             rfl
            refine pure_ (i := 11) (N := some 143) (v := ?_) (a' := ?_) #[true, true, true, true, true, true, true, true, true, true, false, true, false, false, false, false, false, false, false, false, false] rfl rfl (any_of HT_.out (by kernel_rfl)) (fun _ _ _ h => h) (Or.inl ⟨by rfl, ?_⟩) ?_ ?_
            rotate_left
            ·intro w'
             go_simp
             with_reducible rfl
            rotate_left
            ·simp only [Act.put, List.setIfInBounds_toArray, List.set_cons_zero, List.set_cons_succ, i64_w, i32_w]
             rfl
            refine pure_ (i := 12) (N := some 144) (v := ?_) (a' := ?_) #[true, true, true, true, true, true, true, true, true, true, false, true, true, false, false, false, false, false, false, false, false] rfl rfl (any_of HT_.out (by kernel_rfl)) (fun _ _ _ h => h) (Or.inl ⟨by rfl, ?_⟩) ?_ ?_
            rotate_left
            ·intro w'
             go_simp
             with_reducible rfl
            rotate_left
            ·simp only [Act.put, List.setIfInBounds_toArray, List.set_cons_zero, List.set_cons_succ, i64_w, i32_w]
             rfl
            refine pure_ (i := 13) (N := some 145) (v := ?_) (a' := ?_) #[true, true, true, true, true, true, true, true, true, true, false, true, true, true, false, false, false, false, false, false, false] rfl rfl (any_of HT_.out (by kernel_rfl)) (fun _ _ _ h => h) (Or.inl ⟨by rfl, ?_⟩) ?_ ?_
            rotate_left
            ·intro w'
             go_simp
             with_reducible rfl
            rotate_left
            ·simp only [Act.put, List.setIfInBounds_toArray, List.set_cons_zero, List.set_cons_succ, i64_w, i32_w]
             rfl
            refine pure_ (i := 14) (N := some 146) (v := ?_) (a' := ?_) #[true, true, true, true, true, true, true, true, true, true, false, true, true, true, true, false, false, false, false, false, false] rfl rfl (any_of HT_.out (by kernel_rfl)) (fun _ _ _ h => h) (Or.inl ⟨by rfl, ?_⟩) ?_ ?_
            rotate_left
            ·intro w'
             go_simp
             with_reducible rfl
            rotate_left
            ·simp only [Act.put, List.setIfInBounds_toArray, List.set_cons_zero, List.set_cons_succ, i64_w, i32_w]
             rfl
            refine pure_ (i := 16) (N := some 148) (v := ?_) (a' := ?_) #[true, true, true, true, true, true, true, true, true, true, false, true, true, true, true, false, true, false, false, false, false] rfl rfl (any_of HT_.out (by kernel_rfl)) (fun _ _ _ h => h) (Or.inl ⟨by rfl, ?_⟩) ?_ ?_
            rotate_left
            ·intro w'
             go_simp
             with_reducible rfl
            rotate_left
            ·simp only [Act.put, List.setIfInBounds_toArray, List.set_cons_zero, List.set_cons_succ, i64_w, i32_w]
             rfl
            refine take_ (i := 10) (N := some 142) (v := ?_) (a' := ?_) #[true, true, true, true, true, true, true, true, true, true, true, true, true, true, true, false, true, false, false, false, false] rfl rfl (take_ofW HT_.out HW_.out (by kernel_rfl)) (fun _ _ _ h => h) (Or.inl ⟨by rfl, ?_⟩) hHeld ?_ ?_
            rotate_left
            ·rintro w' ⟨s0, s1, s2, s3, s4, s5, s6, s7, s8, s9⟩
             go_simp
             with_reducible rfl
            rotate_left
            ·simp only [Act.put, List.setIfInBounds_toArray, List.set_cons_zero, List.set_cons_succ, i64_w, i32_w]
             rfl
            refine take_ (i := 15) (N := some 147) (v := ?_) (a' := ?_) #[true, true, true, true, true, true, true, true, true, true, true, true, true, true, true, true, true, false, false, false, false] rfl rfl (take_ofW HT_.out HW_.out (by kernel_rfl)) (fun _ _ _ h => h) (Or.inl ⟨by rfl, ?_⟩) hHeld ?_ ?_
            rotate_left
            ·rintro w' ⟨s0, s1, s2, s3, s4, s5, s6, s7, s8, s9⟩
             go_simp
             with_reducible rfl
            rotate_left
            ·simp only [Act.put, List.setIfInBounds_toArray, List.set_cons_zero, List.set_cons_succ, i64_w, i32_w]
             rfl
            refine pure_ (i := 17) (N := some 149) (v := ?_) (a' := ?_) #[true, true, true, true, true, true, true, true, true, true, true, true, true, true, true, true, true, true, false, false, false] rfl rfl (any_of HT_.out (by kernel_rfl)) (fun _ _ _ h => h) (Or.inl ⟨by rfl, ?_⟩) ?_ ?_
            rotate_left
            ·intro w'
             go_simp
             with_reducible rfl
            rotate_left
            ·simp only [Act.put, List.setIfInBounds_toArray, List.set_cons_zero, List.set_cons_succ, i64_w, i32_w]
             rfl
            refine take_ (i := 18) (N := some 150) (v := ?_) (a' := ?_) #[true, true, true, true, true, true, true, true, true, true, true, true, true, true, true, true, true, true, true, false, false] rfl rfl (take_ofW HT_.out HW_.out (by kernel_rfl)) (fun _ _ _ h => h) (Or.inl ⟨by rfl, ?_⟩) hHeld ?_ ?_
            rotate_left
            ·rintro w' ⟨s0, s1, s2, s3, s4, s5, s6, s7, s8, s9⟩
             go_simp
             with_reducible rfl
            rotate_left
            ·simp only [Act.put, List.setIfInBounds_toArray, List.set_cons_zero, List.set_cons_succ, i64_w, i32_w]
             rfl
            refine one_ (i := 19) (N := some 151) #[true, true, true, true, true, true, true, true, true, true, true, true, true, true, true, true, true, true, true, true, false] rfl rfl (one_of HT_.out (by kernel_rfl)) (by decide) (fun K hK => ?_)
            refine goes_ Try.func43 (by kernel_rfl) rfl #[.agg #[.string a0_0, .slice A0_1 l0_1.length c0_1, .string a0_2, .slice A0_3 l0_3.length c0_3, .slice A0_4 l0_4.length c0_4, .slice A0_5 l0_5.length c0_5], .int .i64 x7_1, .int .i64 (rd (rd_L2 t441 x7_1) x12_5)] (by rfl) rfl rfl (by (try simp only [List.map_toArray, List.map_cons, List.map_nil]); first | done | rfl | (simp only [List.length_drop, List.length_take]; rfl)) ?_
            with_reducible refine (dom_Is.calls a0_0 _ _ l0_1 a0_2 _ _ l0_3 _ _ l0_4 _ _ l0_5 x7_1 (rd (rd_L2 t441 x7_1) x12_5) false _ ?side1 ?side2 ?side3 ?side4 ?side5 ?side6 ?side7 ?side8 A79.out).mono ?_
            (case side1 => repeat (first | exact (Kd.C_below HR0_1.out HB.out) | (with_reducible refine Kd.C_alloc ?_ _) | (with_reducible refine Kd.C_drewN ?_ _) | (with_reducible refine Kd.C_drew ?_)))
            (case side2 => exact HC0_1.out)
            (case side3 => repeat (first | exact (Kd.C_below HR0_3.out HB.out) | (with_reducible refine Kd.C_alloc ?_ _) | (with_reducible refine Kd.C_drewN ?_ _) | (with_reducible refine Kd.C_drew ?_)))
            (case side4 => exact HC0_3.out)
            (case side5 => repeat (first | exact (Kd.C_below HR0_4.out HB.out) | (with_reducible refine Kd.C_alloc ?_ _) | (with_reducible refine Kd.C_drewN ?_ _) | (with_reducible refine Kd.C_drew ?_)))
            (case side6 => exact HC0_4.out)
            (case side7 => repeat (first | exact (Kd.C_below HR0_5.out HB.out) | (with_reducible refine Kd.C_alloc ?_ _) | (with_reducible refine Kd.C_drewN ?_ _) | (with_reducible refine Kd.C_drew ?_)))
            (case side8 => exact HC0_5.out)
            rintro e w83 ⟨rfl, hb⟩
            have HS6_ := (hb.cell (World.block_lt_of_cell? _ _ (hHeld.2.2.2.2.2.2.1))).trans (hHeld.2.2.2.2.2.2.1)
            have HS7_ := (hb.cell (World.block_lt_of_cell? _ _ (hHeld.2.2.2.2.2.2.2.1))).trans (hHeld.2.2.2.2.2.2.2.1)
            have HS8_ := (hb.cell (World.block_lt_of_cell? _ _ (hHeld.2.2.2.2.2.2.2.2.1))).trans (hHeld.2.2.2.2.2.2.2.2.1)
            have HS9_ := (hb.cell (World.block_lt_of_cell? _ _ (hHeld.2.2.2.2.2.2.2.2.2))).trans (hHeld.2.2.2.2.2.2.2.2.2)
            refine ⟨_, rfl, ?_⟩
            have n0_ := Aside0.mk (Kd.R_below (by (with_reducible repeat (first | apply Kd.R_alloc | apply Kd.R_drewN | apply Kd.R_drew)); exact HO_3.out) hb)
            have n1_ := Aside0.mk (Kd.S_below (by (with_reducible repeat (first | apply Kd.S_alloc | apply Kd.S_drewN | apply Kd.S_drew)); exact HO_4.out) hb)
            have n2_ := Aside0.mk (Kd.R_below (by (with_reducible repeat (first | apply Kd.R_alloc | apply Kd.R_drewN | apply Kd.R_drew)); exact HO_5.out) hb)
            have n3_ := Aside0.mk (Kd.S_below (by (with_reducible repeat (first | apply Kd.S_alloc | apply Kd.S_drewN | apply Kd.S_drew)); exact HO_6.out) hb)
            have n4_ := Aside0.mk (Kd.R_below (by (with_reducible repeat (first | apply Kd.R_alloc | apply Kd.R_drewN | apply Kd.R_drew)); exact HL462_0.out) hb)
            have n5_ := Aside0.mk (Kd.R_below (by (with_reducible repeat (first | apply Kd.R_alloc | apply Kd.R_drewN | apply Kd.R_drew)); exact HL463_0.out) hb)
            have n6_ := Aside0.mk (Kd.R_below (by (with_reducible repeat (first | apply Kd.R_alloc | apply Kd.R_drewN | apply Kd.R_drew)); exact HL465_0.out) hb)
            have n7_ := Aside0.mk (blk_below (g := gb435) (o := .cells #[.string a0_0, .slice A0_1 l0_1.length c0_1, .string a0_2, .slice A0_3 l0_3.length c0_3, .slice A0_4 l0_4.length c0_4, .slice A0_5 l0_5.length c0_5] 26 (0, 0)) (by (with_reducible repeat (first | refine blk_drewN ?_ _ | refine blk_drew ?_ | refine blk_alloc ?_ _)); exact BK435.out) hb)
            have n8_ := Aside0.mk (Kd.C_below (by repeat (first | (with_reducible exact HR462_0.out) | (with_reducible refine Kd.C_alloc ?_ _) | (with_reducible refine Kd.C_drewN ?_ _) | (with_reducible refine Kd.C_drew ?_) | exact HR462_0.out)) hb)
            have n9_ := Aside0.mk (Kd.C_below (by repeat (first | (with_reducible exact HR463_0.out) | (with_reducible refine Kd.C_alloc ?_ _) | (with_reducible refine Kd.C_drewN ?_ _) | (with_reducible refine Kd.C_drew ?_) | exact HR463_0.out)) hb)
            have n10_ := Aside0.mk (Kd.C_below (by repeat (first | (with_reducible exact HR465_0.out) | (with_reducible refine Kd.C_alloc ?_ _) | (with_reducible refine Kd.C_drewN ?_ _) | (with_reducible refine Kd.C_drew ?_) | exact HR465_0.out)) hb)
            have n11_ := Aside0.mk (below_step (by repeat (first | (with_reducible first | exact HB.out | apply below_alloc | apply pw_below_drewN | apply below_drew1 | refine below_set ?_ GE435.out) | exact HB.out)) hb)
            clear HO_3
            clear HO_4
            clear HO_5
            clear HO_6
            clear HL462_0
            clear HL463_0
            clear HL465_0
            clear BK435
            clear HR462_0
            clear HR463_0
            clear HR465_0
            clear HB
            have HO_3 := n0_
            have HO_4 := n1_
            have HO_5 := n2_
            have HO_6 := n3_
            have HL462_0 := n4_
            have HL463_0 := n5_
            have HL465_0 := n6_
            have BK435 := n7_
            have HR462_0 := n8_
            have HR463_0 := n9_
            have HR465_0 := n10_
            have HB := n11_
            clear n0_ n1_ n2_ n3_ n4_ n5_ n6_ n7_ n8_ n9_ n10_ n11_
            (try clear hb)
            (try clear hb2)
            (try clear hk)
            (try clear hi)
            refine hK.out _ _ ⟨(blk_cell BK435.out 0).trans rfl, (blk_cell BK435.out 1).trans rfl, (blk_cell BK435.out 2).trans rfl, (blk_cell BK435.out 3).trans rfl, (blk_cell BK435.out 4).trans rfl, (blk_cell BK435.out 5).trans rfl, HS6_, HS7_, HS8_, HS9_⟩ (fun hHeld => ?_)
            clear hK K
            refine norm_ (a' := ?_) ?_ ?_
            rotate_left
            ·show Act.put _ (some 151) _ = _
             simp only [Act.put, List.setIfInBounds_toArray, List.set_cons_zero, List.set_cons_succ, i64_w, i32_w]
             rfl
            refine pure_ (i := 20) (N := some 152) (v := ?_) (a' := ?_) #[true, true, true, true, true, true, true, true, true, true, true, true, true, true, true, true, true, true, true, true, true] rfl rfl (any_of HT_.out (by kernel_rfl)) (fun _ _ _ h => h) (Or.inl ⟨by rfl, ?_⟩) ?_ ?_
            rotate_left
            ·intro w'
             go_simp
             with_reducible rfl
            rotate_left
            ·simp only [Act.put, List.setIfInBounds_toArray, List.set_cons_zero, List.set_cons_succ, i64_w, i32_w]
             rfl
            refine done_ (done_of HT_.out (by kernel_rfl)) ?_
            try go_wp2
            go_roundg k5
            case measure => have := HK1.out; have := HJ30.out; have := HK3.out; have := HJ65.out; have := HK5.out; omega
            case rel => exact ⟨(wrap64 (x12_5 + 1)), (by first | rfl | (simp; done) | (simp [*]; done)), H', ⟨by have := HK1.out; have := HJ30.out; have := HK3.out; have := HJ65.out; have := HK5.out; omega⟩, ⟨by (with_reducible repeat (first | apply Kd.R_alloc | apply Kd.R_drewN | apply Kd.R_drew)); exact HO_3.out⟩, ⟨by (with_reducible repeat (first | apply Kd.S_alloc | apply Kd.S_drewN | apply Kd.S_drew)); exact HO_4.out⟩, ⟨by (with_reducible repeat (first | apply Kd.R_alloc | apply Kd.R_drewN | apply Kd.R_drew)); exact HO_5.out⟩, ⟨by (with_reducible repeat (first | apply Kd.S_alloc | apply Kd.S_drewN | apply Kd.S_drew)); exact HO_6.out⟩, ⟨by (with_reducible repeat (first | refine blk_drewN ?_ _ | refine blk_drew ?_ | refine blk_alloc ?_ _)); exact BK435.out⟩, ⟨by repeat (first | (with_reducible first | exact HB.out | apply below_alloc | apply pw_below_drewN | apply below_drew1 | refine below_set ?_ GE435.out) | exact HB.out)⟩⟩
           rw [if_neg c74] at H
           have c74b0 : decide (x12_5 < ((rd_L2 t441 x7_1).length : Int)) = false := decide_eq_false c74
           clear c74
           by_cases c84 : x7_1 = 0
           ·rw [if_pos c84] at H
            have c84b0 : (x7_1 == 0) = true := beq_iff_eq.mpr c84
            have c84b1 : (x7_1 != 0) = false := bne_eq_false_iff_eq.mpr c84
            clear c84
            have H' := Aside0.mk H
            clear H
            obtain ⟨Ao85, co85, eo85⟩ := Kd.S_slice HO_4.out
            subst eo85
            have p462 : 0 ≤ (x7_1 : Int) := of_decide_eq_true (by first | (with_reducible assumption) | assumption)
            have q462 : x7_1 < (t441.length : Int) := of_decide_eq_true (by first | (with_reducible assumption) | assumption)
            obtain ⟨ad462, A462_0, c462_0, e462, hx462_0, hl462_0, hi462_0⟩ := at_L2 (Kd.S_reads' HO_4.out).2.2 x7_1 p462 q462
            cases e462
            obtain ⟨ce462, hce462, hMe462, hcc462⟩ := Kd.S_get HO_4.out [] x7_1 p462 (by first | exact q462 | exact of_decide_eq_true (by first | (with_reducible assumption) | assumption) | (have e_ := (Kd.S_reads' HO_4.out).1; omega))
            obtain ⟨ve462_0, rfl, ge462_0⟩ := hMe462
            have hv462_0 := hcc462 0 _ rfl
            rw [Nat.add_zero, show ((Kd.slice 3 (Kd.int .i64))).sz = 1 from rfl, Nat.mul_one] at hv462_0
            replace hv462_0 := Option.some.inj (hv462_0.symm.trans hx462_0)
            rw [hv462_0] at ge462_0
            have HL462_0 := Aside0.mk (show Kd.R (Kd.int .i64) 3 _ _ _ _ (rd_L2 t441 x7_1) from ge462_0)
            clear hv462_0 ge462_0
            clear hcc462 hce462
            have HR462_0 := Aside0.mk hi462_0
            have HC462_0 := Aside0.mk hl462_0
            clear hi462_0 hl462_0
            replace p462 := eq_true p462
            replace q462 := eq_true q462
            try go_wp2
            have n0_ := Aside0.mk (Kd.R_drew HO_3.out)
            have n1_ := Aside0.mk (Kd.S_drew HO_4.out)
            have n2_ := Aside0.mk (Kd.R_drew HO_5.out)
            have n3_ := Aside0.mk (Kd.S_drew HO_6.out)
            have n4_ := Aside0.mk (Kd.R_drew HL462_0.out)
            have n5_ := Aside0.mk (blk_drew BK435.out)
            have n6_ := Aside0.mk (Kd.C_drew HR462_0.out)
            have n7_ := Aside0.mk (below_drew1 HB.out)
            clear HO_3
            clear HO_4
            clear HO_5
            clear HO_6
            clear HL462_0
            clear BK435
            clear HR462_0
            clear HB
            have HO_3 := n0_
            have HO_4 := n1_
            have HO_5 := n2_
            have HO_6 := n3_
            have HL462_0 := n4_
            have BK435 := n5_
            have HR462_0 := n6_
            have HB := n7_
            clear n0_ n1_ n2_ n3_ n4_ n5_ n6_ n7_
            refine start_ (n := 23) (S := fun w' => True) (ds := []) #[false, false, false, false, false, false, false, false, false, false, false, false, false, false, false, false, false, false, false, false, false, false, false] (by kernel_rfl) rfl rfl trivial (fun hHeld => ?_); refine with_tabW truantlaw10_DomChain.tab37 truantlaw10_DomChain.bits37 (fun HT_ HW_ => ?_)
            generalize wr.drew = w86 at HO_3 HO_4 HO_5 HO_6 HL462_0 BK435 HR462_0 HB hHeld ⊢
            refine pure_ (i := 0) (N := some 153) (v := ?_) (a' := ?_) #[true, false, false, false, false, false, false, false, false, false, false, false, false, false, false, false, false, false, false, false, false, false, false] rfl rfl (any_of HT_.out (by kernel_rfl)) (fun _ _ _ h => h) (Or.inl ⟨by rfl, ?_⟩) ?_ ?_
            rotate_left
            ·intro w'
             go_simp
             with_reducible rfl
            rotate_left
            ·simp only [Act.put, List.setIfInBounds_toArray, List.set_cons_zero, List.set_cons_succ, i64_w, i32_w]
             rfl
            refine pure_ (i := 1) (N := some 154) (v := ?_) (a' := ?_) #[true, true, false, false, false, false, false, false, false, false, false, false, false, false, false, false, false, false, false, false, false, false, false] rfl rfl (any_of HT_.out (by kernel_rfl)) (fun _ _ _ h => h) (Or.inl ⟨by rfl, ?_⟩) ?_ ?_
            rotate_left
            ·intro w'
             go_simp
             with_reducible rfl
            rotate_left
            ·simp only [Act.put, List.setIfInBounds_toArray, List.set_cons_zero, List.set_cons_succ, i64_w, i32_w]
             rfl
            refine pure_ (i := 2) (N := some 155) (v := ?_) (a' := ?_) #[true, true, true, false, false, false, false, false, false, false, false, false, false, false, false, false, false, false, false, false, false, false, false] rfl rfl (any_of HT_.out (by kernel_rfl)) (fun _ _ _ h => h) (Or.inl ⟨by rfl, ?_⟩) ?_ ?_
            rotate_left
            ·intro w'
             go_simp
             with_reducible rfl
            rotate_left
            ·simp only [Act.put, List.setIfInBounds_toArray, List.set_cons_zero, List.set_cons_succ, i64_w, i32_w]
             rfl
            refine pure_ (i := 3) (N := some 156) (v := undef) (a' := ?_) #[true, true, true, true, false, false, false, false, false, false, false, false, false, false, false, false, false, false, false, false, false, false, false] rfl rfl (any_of HT_.out (by kernel_rfl)) (fun _ _ _ h => h) (Or.inr ⟨by rfl, rfl⟩) ?_ ?_
            rotate_left
            ·simp only [Act.put, List.setIfInBounds_toArray, List.set_cons_zero, List.set_cons_succ, i64_w, i32_w]
             rfl
            refine pure_ (i := 4) (N := some 157) (v := undef) (a' := ?_) #[true, true, true, true, true, false, false, false, false, false, false, false, false, false, false, false, false, false, false, false, false, false, false] rfl rfl (any_of HT_.out (by kernel_rfl)) (fun _ _ _ h => h) (Or.inr ⟨by rfl, rfl⟩) ?_ ?_
            rotate_left
            ·simp only [Act.put, List.setIfInBounds_toArray, List.set_cons_zero, List.set_cons_succ, i64_w, i32_w]
             rfl
            refine pure_ (i := 5) (N := some 158) (v := undef) (a' := ?_) #[true, true, true, true, true, true, false, false, false, false, false, false, false, false, false, false, false, false, false, false, false, false, false] rfl rfl (any_of HT_.out (by kernel_rfl)) (fun _ _ _ h => h) (Or.inr ⟨by rfl, rfl⟩) ?_ ?_
            rotate_left
            ·simp only [Act.put, List.setIfInBounds_toArray, List.set_cons_zero, List.set_cons_succ, i64_w, i32_w]
             rfl
            refine pure_ (i := 6) (N := some 159) (v := undef) (a' := ?_) #[true, true, true, true, true, true, true, false, false, false, false, false, false, false, false, false, false, false, false, false, false, false, false] rfl rfl (any_of HT_.out (by kernel_rfl)) (fun _ _ _ h => h) (Or.inr ⟨by rfl, rfl⟩) ?_ ?_
            rotate_left
            ·simp only [Act.put, List.setIfInBounds_toArray, List.set_cons_zero, List.set_cons_succ, i64_w, i32_w]
             rfl
            refine pure_ (i := 7) (N := some 160) (v := undef) (a' := ?_) #[true, true, true, true, true, true, true, true, false, false, false, false, false, false, false, false, false, false, false, false, false, false, false] rfl rfl (any_of HT_.out (by kernel_rfl)) (fun _ _ _ h => h) (Or.inr ⟨by rfl, rfl⟩) ?_ ?_
            rotate_left
            ·simp only [Act.put, List.setIfInBounds_toArray, List.set_cons_zero, List.set_cons_succ, i64_w, i32_w]
             rfl
            refine pure_ (i := 8) (N := some 161) (v := undef) (a' := ?_) #[true, true, true, true, true, true, true, true, true, false, false, false, false, false, false, false, false, false, false, false, false, false, false] rfl rfl (any_of HT_.out (by kernel_rfl)) (fun _ _ _ h => h) (Or.inr ⟨by rfl, rfl⟩) ?_ ?_
            rotate_left
            ·simp only [Act.put, List.setIfInBounds_toArray, List.set_cons_zero, List.set_cons_succ, i64_w, i32_w]
             rfl
            refine pure_ (i := 9) (N := some 162) (v := ?_) (a' := ?_) #[true, true, true, true, true, true, true, true, true, true, false, false, false, false, false, false, false, false, false, false, false, false, false] rfl rfl (any_of HT_.out (by kernel_rfl)) (fun _ _ _ h => h) (Or.inl ⟨by rfl, ?_⟩) ?_ ?_
            rotate_left
            ·intro w'
             go_simp
             with_reducible rfl
            rotate_left
            ·simp only [Act.put, List.setIfInBounds_toArray, List.set_cons_zero, List.set_cons_succ, i64_w, i32_w]
             rfl
            refine pure_ (i := 10) (N := some 163) (v := ?_) (a' := ?_) #[true, true, true, true, true, true, true, true, true, true, true, false, false, false, false, false, false, false, false, false, false, false, false] rfl rfl (any_of HT_.out (by kernel_rfl)) (fun _ _ _ h => h) (Or.inl ⟨by rfl, ?_⟩) ?_ ?_
            rotate_left
            ·intro w'
             go_simp
             with_reducible rfl
            rotate_left
            ·simp only [Act.put, List.setIfInBounds_toArray, List.set_cons_zero, List.set_cons_succ, i64_w, i32_w]
             rfl
            refine pure_ (i := 11) (N := some 164) (v := undef) (a' := ?_) #[true, true, true, true, true, true, true, true, true, true, true, true, false, false, false, false, false, false, false, false, false, false, false] rfl rfl (any_of HT_.out (by kernel_rfl)) (fun _ _ _ h => h) (Or.inr ⟨by rfl, rfl⟩) ?_ ?_
            rotate_left
            ·simp only [Act.put, List.setIfInBounds_toArray, List.set_cons_zero, List.set_cons_succ, i64_w, i32_w]
             rfl
            refine pure_ (i := 12) (N := some 165) (v := undef) (a' := ?_) #[true, true, true, true, true, true, true, true, true, true, true, true, true, false, false, false, false, false, false, false, false, false, false] rfl rfl (any_of HT_.out (by kernel_rfl)) (fun _ _ _ h => h) (Or.inr ⟨by rfl, rfl⟩) ?_ ?_
            rotate_left
            ·simp only [Act.put, List.setIfInBounds_toArray, List.set_cons_zero, List.set_cons_succ, i64_w, i32_w]
             rfl
            refine pure_ (i := 13) (N := some 166) (v := undef) (a' := ?_) #[true, true, true, true, true, true, true, true, true, true, true, true, true, true, false, false, false, false, false, false, false, false, false] rfl rfl (any_of HT_.out (by kernel_rfl)) (fun _ _ _ h => h) (Or.inr ⟨by rfl, rfl⟩) ?_ ?_
            rotate_left
            ·simp only [Act.put, List.setIfInBounds_toArray, List.set_cons_zero, List.set_cons_succ, i64_w, i32_w]
             rfl
            refine pure_ (i := 14) (N := some 167) (v := undef) (a' := ?_) #[true, true, true, true, true, true, true, true, true, true, true, true, true, true, true, false, false, false, false, false, false, false, false] rfl rfl (any_of HT_.out (by kernel_rfl)) (fun _ _ _ h => h) (Or.inr ⟨by rfl, rfl⟩) ?_ ?_
            rotate_left
            ·simp only [Act.put, List.setIfInBounds_toArray, List.set_cons_zero, List.set_cons_succ, i64_w, i32_w]
             rfl
            refine pure_ (i := 15) (N := some 168) (v := undef) (a' := ?_) #[true, true, true, true, true, true, true, true, true, true, true, true, true, true, true, true, false, false, false, false, false, false, false] rfl rfl (any_of HT_.out (by kernel_rfl)) (fun _ _ _ h => h) (Or.inr ⟨by rfl, rfl⟩) ?_ ?_
            rotate_left
            ·simp only [Act.put, List.setIfInBounds_toArray, List.set_cons_zero, List.set_cons_succ, i64_w, i32_w]
             rfl
            refine pure_ (i := 16) (N := some 169) (v := undef) (a' := ?_) #[true, true, true, true, true, true, true, true, true, true, true, true, true, true, true, true, true, false, false, false, false, false, false] rfl rfl (any_of HT_.out (by kernel_rfl)) (fun _ _ _ h => h) (Or.inr ⟨by rfl, rfl⟩) ?_ ?_
            rotate_left
            ·simp only [Act.put, List.setIfInBounds_toArray, List.set_cons_zero, List.set_cons_succ, i64_w, i32_w]
             rfl
            refine pure_ (i := 17) (N := some 170) (v := undef) (a' := ?_) #[true, true, true, true, true, true, true, true, true, true, true, true, true, true, true, true, true, true, false, false, false, false, false] rfl rfl (any_of HT_.out (by kernel_rfl)) (fun _ _ _ h => h) (Or.inr ⟨by rfl, rfl⟩) ?_ ?_
            rotate_left
            ·simp only [Act.put, List.setIfInBounds_toArray, List.set_cons_zero, List.set_cons_succ, i64_w, i32_w]
             rfl
            refine pure_ (i := 18) (N := some 171) (v := undef) (a' := ?_) #[true, true, true, true, true, true, true, true, true, true, true, true, true, true, true, true, true, true, true, false, false, false, false] rfl rfl (any_of HT_.out (by kernel_rfl)) (fun _ _ _ h => h) (Or.inr ⟨by rfl, rfl⟩) ?_ ?_
            rotate_left
            ·simp only [Act.put, List.setIfInBounds_toArray, List.set_cons_zero, List.set_cons_succ, i64_w, i32_w]
             rfl
            refine pure_ (i := 19) (N := some 172) (v := undef) (a' := ?_) #[true, true, true, true, true, true, true, true, true, true, true, true, true, true, true, true, true, true, true, true, false, false, false] rfl rfl (any_of HT_.out (by kernel_rfl)) (fun _ _ _ h => h) (Or.inr ⟨by rfl, rfl⟩) ?_ ?_
            rotate_left
            ·simp only [Act.put, List.setIfInBounds_toArray, List.set_cons_zero, List.set_cons_succ, i64_w, i32_w]
             rfl
            refine pure_ (i := 20) (N := some 173) (v := undef) (a' := ?_) #[true, true, true, true, true, true, true, true, true, true, true, true, true, true, true, true, true, true, true, true, true, false, false] rfl rfl (any_of HT_.out (by kernel_rfl)) (fun _ _ _ h => h) (Or.inr ⟨by rfl, rfl⟩) ?_ ?_
            rotate_left
            ·simp only [Act.put, List.setIfInBounds_toArray, List.set_cons_zero, List.set_cons_succ, i64_w, i32_w]
             rfl
            refine pure_ (i := 21) (N := some 174) (v := undef) (a' := ?_) #[true, true, true, true, true, true, true, true, true, true, true, true, true, true, true, true, true, true, true, true, true, true, false] rfl rfl (any_of HT_.out (by kernel_rfl)) (fun _ _ _ h => h) (Or.inr ⟨by rfl, rfl⟩) ?_ ?_
            rotate_left
            ·simp only [Act.put, List.setIfInBounds_toArray, List.set_cons_zero, List.set_cons_succ, i64_w, i32_w]
             rfl
            refine pure_ (i := 22) (N := some 175) (v := ?_) (a' := ?_) #[true, true, true, true, true, true, true, true, true, true, true, true, true, true, true, true, true, true, true, true, true, true, true] rfl rfl (any_of HT_.out (by kernel_rfl)) (fun _ _ _ h => h) (Or.inl ⟨by rfl, ?_⟩) ?_ ?_
            rotate_left
            ·intro w'
             go_simp
             with_reducible rfl
            rotate_left
            ·simp only [Act.put, List.setIfInBounds_toArray, List.set_cons_zero, List.set_cons_succ, i64_w, i32_w]
             rfl
            refine done_ (done_of HT_.out (by kernel_rfl)) ?_
            try go_wp2
            go_roundg k5
            case measure => have := HK1.out; have := HJ30.out; have := HK3.out; have := HJ65.out; have := HK5.out; omega
            case rel => exact ⟨(wrap64 (x7_1 + 1)), (by first | rfl | (simp; done) | (simp [*]; done)), H', ⟨by have := HK1.out; have := HJ30.out; have := HK3.out; have := HJ65.out; have := HK5.out; omega⟩, ⟨by (with_reducible repeat (first | apply Kd.R_alloc | apply Kd.R_drewN | apply Kd.R_drew)); exact HO_3.out⟩, ⟨by (with_reducible repeat (first | apply Kd.S_alloc | apply Kd.S_drewN | apply Kd.S_drew)); exact HO_4.out⟩, ⟨by (with_reducible repeat (first | apply Kd.R_alloc | apply Kd.R_drewN | apply Kd.R_drew)); exact HO_5.out⟩, ⟨by (with_reducible repeat (first | apply Kd.S_alloc | apply Kd.S_drewN | apply Kd.S_drew)); exact HO_6.out⟩, ⟨by (with_reducible repeat (first | refine blk_drewN ?_ _ | refine blk_drew ?_ | refine blk_alloc ?_ _)); exact BK435.out⟩, ⟨by repeat (first | (with_reducible first | exact HB.out | apply below_alloc | apply pw_below_drewN | apply below_drew1 | refine below_set ?_ GE435.out) | exact HB.out)⟩⟩
           rw [if_neg c84] at H
           have c84b0 : (x7_1 == 0) = false := beq_eq_false_iff_ne.mpr c84
           have c84b1 : (x7_1 != 0) = true := bne_iff_ne.mpr c84
           by_cases c87 : x7_1 < (t447.length : Int)
           rotate_left
           ·rw [if_neg c87] at H
            exact absurd H (by simp)
           rw [if_pos c87] at H
           have c87b0 : decide (x7_1 < (t447.length : Int)) = true := decide_eq_true c87
           clear c87
           by_cases c88 : ((rd_L2 t447 x7_1).length : Int) = 1
           rotate_left
           ·rw [if_neg c88] at H
            have c88b0 : (((rd_L2 t447 x7_1).length : Int) == 1) = false := beq_eq_false_iff_ne.mpr c88
            have c88b1 : (((rd_L2 t447 x7_1).length : Int) != 1) = true := bne_iff_ne.mpr c88
            have H' := Aside0.mk H
            clear H
            obtain ⟨Ao95, co95, eo95⟩ := Kd.S_slice HO_4.out
            subst eo95
            have p462 : 0 ≤ (x7_1 : Int) := of_decide_eq_true (by first | (with_reducible assumption) | assumption)
            have q462 : x7_1 < (t441.length : Int) := of_decide_eq_true (by first | (with_reducible assumption) | assumption)
            obtain ⟨ad462, A462_0, c462_0, e462, hx462_0, hl462_0, hi462_0⟩ := at_L2 (Kd.S_reads' HO_4.out).2.2 x7_1 p462 q462
            cases e462
            obtain ⟨ce462, hce462, hMe462, hcc462⟩ := Kd.S_get HO_4.out [] x7_1 p462 (by first | exact q462 | exact of_decide_eq_true (by first | (with_reducible assumption) | assumption) | (have e_ := (Kd.S_reads' HO_4.out).1; omega))
            obtain ⟨ve462_0, rfl, ge462_0⟩ := hMe462
            have hv462_0 := hcc462 0 _ rfl
            rw [Nat.add_zero, show ((Kd.slice 3 (Kd.int .i64))).sz = 1 from rfl, Nat.mul_one] at hv462_0
            replace hv462_0 := Option.some.inj (hv462_0.symm.trans hx462_0)
            rw [hv462_0] at ge462_0
            have HL462_0 := Aside0.mk (show Kd.R (Kd.int .i64) 3 _ _ _ _ (rd_L2 t441 x7_1) from ge462_0)
            clear hv462_0 ge462_0
            clear hcc462 hce462
            have HR462_0 := Aside0.mk hi462_0
            have HC462_0 := Aside0.mk hl462_0
            clear hi462_0 hl462_0
            replace p462 := eq_true p462
            replace q462 := eq_true q462
            try go_wp2
            have n0_ := Aside0.mk (Kd.R_drew HO_3.out)
            have n1_ := Aside0.mk (Kd.S_drew HO_4.out)
            have n2_ := Aside0.mk (Kd.R_drew HO_5.out)
            have n3_ := Aside0.mk (Kd.S_drew HO_6.out)
            have n4_ := Aside0.mk (Kd.R_drew HL462_0.out)
            have n5_ := Aside0.mk (blk_drew BK435.out)
            have n6_ := Aside0.mk (Kd.C_drew HR462_0.out)
            have n7_ := Aside0.mk (below_drew1 HB.out)
            clear HO_3
            clear HO_4
            clear HO_5
            clear HO_6
            clear HL462_0
            clear BK435
            clear HR462_0
            clear HB
            have HO_3 := n0_
            have HO_4 := n1_
            have HO_5 := n2_
            have HO_6 := n3_
            have HL462_0 := n4_
            have BK435 := n5_
            have HR462_0 := n6_
            have HB := n7_
            clear n0_ n1_ n2_ n3_ n4_ n5_ n6_ n7_
            obtain ⟨Ao97, co97, eo97⟩ := Kd.S_slice HO_6.out
            (first | subst eo97 | (injection eo97 with f1_ f2_ f3_; have f4_ := f1_.symm; have f5_ := f3_.symm; clear f1_ f2_ f3_; subst f4_; subst f5_))
            have p468 : 0 ≤ (x7_1 : Int) := of_decide_eq_true (by first | (with_reducible assumption) | assumption)
            have q468 : x7_1 < (t447.length : Int) := of_decide_eq_true (by first | (with_reducible assumption) | assumption)
            obtain ⟨ad468, A468_0, c468_0, e468, hx468_0, hl468_0, hi468_0⟩ := at_L2 (Kd.S_reads' HO_6.out).2.2 x7_1 p468 q468
            cases e468
            obtain ⟨ce468, hce468, hMe468, hcc468⟩ := Kd.S_get HO_6.out [] x7_1 p468 (by first | exact q468 | exact of_decide_eq_true (by first | (with_reducible assumption) | assumption) | (have e_ := (Kd.S_reads' HO_6.out).1; omega))
            obtain ⟨ve468_0, rfl, ge468_0⟩ := hMe468
            have hv468_0 := hcc468 0 _ rfl
            rw [Nat.add_zero, show ((Kd.slice 3 (Kd.int .i64))).sz = 1 from rfl, Nat.mul_one] at hv468_0
            replace hv468_0 := Option.some.inj (hv468_0.symm.trans hx468_0)
            rw [hv468_0] at ge468_0
            have HL468_0 := Aside0.mk (show Kd.R (Kd.int .i64) 3 _ _ _ _ (rd_L2 t447 x7_1) from ge468_0)
            clear hv468_0 ge468_0
            clear hcc468 hce468
            have HR468_0 := Aside0.mk hi468_0
            have HC468_0 := Aside0.mk hl468_0
            clear hi468_0 hl468_0
            replace p468 := eq_true p468
            replace q468 := eq_true q468
            refine start_ (n := 23) (S := fun w' => w'.cell? (ad468.add (x7_1).toNat) = some (.slice A468_0 (rd_L2 t447 x7_1).length c468_0)) (ds := []) #[false, false, false, false, false, false, false, false, false, false, false, false, false, false, false, false, false, false, false, false, false, false, false] (by kernel_rfl) rfl rfl (hx468_0) (fun hHeld => ?_); refine with_tabW truantlaw10_DomChain.tab37 truantlaw10_DomChain.bits37 (fun HT_ HW_ => ?_)
            generalize wr.drew = w96 at HO_3 HO_4 HO_5 HO_6 HL462_0 BK435 HR462_0 HB HL468_0 HR468_0 hx468_0 hHeld ⊢
            refine pure_ (i := 0) (N := some 153) (v := ?_) (a' := ?_) #[true, false, false, false, false, false, false, false, false, false, false, false, false, false, false, false, false, false, false, false, false, false, false] rfl rfl (any_of HT_.out (by kernel_rfl)) (fun _ _ _ h => h) (Or.inl ⟨by rfl, ?_⟩) ?_ ?_
            rotate_left
            ·intro w'
             go_simp
             with_reducible rfl
            rotate_left
            ·simp only [Act.put, List.setIfInBounds_toArray, List.set_cons_zero, List.set_cons_succ, i64_w, i32_w]
             rfl
            refine pure_ (i := 1) (N := some 154) (v := ?_) (a' := ?_) #[true, true, false, false, false, false, false, false, false, false, false, false, false, false, false, false, false, false, false, false, false, false, false] rfl rfl (any_of HT_.out (by kernel_rfl)) (fun _ _ _ h => h) (Or.inl ⟨by rfl, ?_⟩) ?_ ?_
            rotate_left
            ·intro w'
             go_simp
             with_reducible rfl
            rotate_left
            ·simp only [Act.put, List.setIfInBounds_toArray, List.set_cons_zero, List.set_cons_succ, i64_w, i32_w]
             rfl
            refine pure_ (i := 2) (N := some 155) (v := ?_) (a' := ?_) #[true, true, true, false, false, false, false, false, false, false, false, false, false, false, false, false, false, false, false, false, false, false, false] rfl rfl (any_of HT_.out (by kernel_rfl)) (fun _ _ _ h => h) (Or.inl ⟨by rfl, ?_⟩) ?_ ?_
            rotate_left
            ·intro w'
             go_simp
             with_reducible rfl
            rotate_left
            ·simp only [Act.put, List.setIfInBounds_toArray, List.set_cons_zero, List.set_cons_succ, i64_w, i32_w]
             rfl
            refine pure_ (i := 3) (N := some 156) (v := ?_) (a' := ?_) #[true, true, true, true, false, false, false, false, false, false, false, false, false, false, false, false, false, false, false, false, false, false, false] rfl rfl (any_of HT_.out (by kernel_rfl)) (fun _ _ _ h => h) (Or.inl ⟨by rfl, ?_⟩) ?_ ?_
            rotate_left
            ·intro w'
             go_simp
             with_reducible rfl
            rotate_left
            ·simp only [Act.put, List.setIfInBounds_toArray, List.set_cons_zero, List.set_cons_succ, i64_w, i32_w]
             rfl
            refine pure_ (i := 4) (N := some 157) (v := ?_) (a' := ?_) #[true, true, true, true, true, false, false, false, false, false, false, false, false, false, false, false, false, false, false, false, false, false, false] rfl rfl (any_of HT_.out (by kernel_rfl)) (fun _ _ _ h => h) (Or.inl ⟨by rfl, ?_⟩) ?_ ?_
            rotate_left
            ·intro w'
             go_simp
             with_reducible rfl
            rotate_left
            ·simp only [Act.put, List.setIfInBounds_toArray, List.set_cons_zero, List.set_cons_succ, i64_w, i32_w]
             rfl
            refine pure_ (i := 5) (N := some 158) (v := ?_) (a' := ?_) #[true, true, true, true, true, true, false, false, false, false, false, false, false, false, false, false, false, false, false, false, false, false, false] rfl rfl (any_of HT_.out (by kernel_rfl)) (fun _ _ _ h => h) (Or.inl ⟨by rfl, ?_⟩) ?_ ?_
            rotate_left
            ·intro w'
             go_simp
             with_reducible rfl
            rotate_left
            ·simp only [Act.put, List.setIfInBounds_toArray, List.set_cons_zero, List.set_cons_succ, i64_w, i32_w]
             rfl
            refine take_ (i := 6) (N := some 159) (v := ?_) (a' := ?_) #[true, true, true, true, true, true, true, false, false, false, false, false, false, false, false, false, false, false, false, false, false, false, false] rfl rfl (take_ofW HT_.out HW_.out (by kernel_rfl)) (fun _ _ _ h => h) (Or.inl ⟨by rfl, ?_⟩) hHeld ?_ ?_
            rotate_left
            ·intro w' s0
             go_simp
             with_reducible rfl
            rotate_left
            ·simp only [Act.put, List.setIfInBounds_toArray, List.set_cons_zero, List.set_cons_succ, i64_w, i32_w]
             rfl
            refine pure_ (i := 7) (N := some 160) (v := ?_) (a' := ?_) #[true, true, true, true, true, true, true, true, false, false, false, false, false, false, false, false, false, false, false, false, false, false, false] rfl rfl (any_of HT_.out (by kernel_rfl)) (fun _ _ _ h => h) (Or.inl ⟨by rfl, ?_⟩) ?_ ?_
            rotate_left
            ·intro w'
             go_simp
             with_reducible rfl
            rotate_left
            ·simp only [Act.put, List.setIfInBounds_toArray, List.set_cons_zero, List.set_cons_succ, i64_w, i32_w]
             rfl
            refine pure_ (i := 8) (N := some 161) (v := ?_) (a' := ?_) #[true, true, true, true, true, true, true, true, true, false, false, false, false, false, false, false, false, false, false, false, false, false, false] rfl rfl (any_of HT_.out (by kernel_rfl)) (fun _ _ _ h => h) (Or.inl ⟨by rfl, ?_⟩) ?_ ?_
            rotate_left
            ·intro w'
             go_simp
             with_reducible rfl
            rotate_left
            ·simp only [Act.put, List.setIfInBounds_toArray, List.set_cons_zero, List.set_cons_succ, i64_w, i32_w]
             rfl
            refine pure_ (i := 9) (N := some 162) (v := ?_) (a' := ?_) #[true, true, true, true, true, true, true, true, true, true, false, false, false, false, false, false, false, false, false, false, false, false, false] rfl rfl (any_of HT_.out (by kernel_rfl)) (fun _ _ _ h => h) (Or.inl ⟨by rfl, ?_⟩) ?_ ?_
            rotate_left
            ·intro w'
             go_simp
             with_reducible rfl
            rotate_left
            ·simp only [Act.put, List.setIfInBounds_toArray, List.set_cons_zero, List.set_cons_succ, i64_w, i32_w]
             rfl
            refine pure_ (i := 10) (N := some 163) (v := ?_) (a' := ?_) #[true, true, true, true, true, true, true, true, true, true, true, false, false, false, false, false, false, false, false, false, false, false, false] rfl rfl (any_of HT_.out (by kernel_rfl)) (fun _ _ _ h => h) (Or.inl ⟨by rfl, ?_⟩) ?_ ?_
            rotate_left
            ·intro w'
             go_simp
             with_reducible rfl
            rotate_left
            ·simp only [Act.put, List.setIfInBounds_toArray, List.set_cons_zero, List.set_cons_succ, i64_w, i32_w]
             rfl
            refine pure_ (i := 11) (N := some 164) (v := undef) (a' := ?_) #[true, true, true, true, true, true, true, true, true, true, true, true, false, false, false, false, false, false, false, false, false, false, false] rfl rfl (any_of HT_.out (by kernel_rfl)) (fun _ _ _ h => h) (Or.inr ⟨by rfl, rfl⟩) ?_ ?_
            rotate_left
            ·simp only [Act.put, List.setIfInBounds_toArray, List.set_cons_zero, List.set_cons_succ, i64_w, i32_w]
             rfl
            refine pure_ (i := 12) (N := some 165) (v := undef) (a' := ?_) #[true, true, true, true, true, true, true, true, true, true, true, true, true, false, false, false, false, false, false, false, false, false, false] rfl rfl (any_of HT_.out (by kernel_rfl)) (fun _ _ _ h => h) (Or.inr ⟨by rfl, rfl⟩) ?_ ?_
            rotate_left
            ·simp only [Act.put, List.setIfInBounds_toArray, List.set_cons_zero, List.set_cons_succ, i64_w, i32_w]
             rfl
            refine pure_ (i := 13) (N := some 166) (v := undef) (a' := ?_) #[true, true, true, true, true, true, true, true, true, true, true, true, true, true, false, false, false, false, false, false, false, false, false] rfl rfl (any_of HT_.out (by kernel_rfl)) (fun _ _ _ h => h) (Or.inr ⟨by rfl, rfl⟩) ?_ ?_
            rotate_left
            ·simp only [Act.put, List.setIfInBounds_toArray, List.set_cons_zero, List.set_cons_succ, i64_w, i32_w]
             rfl
            refine pure_ (i := 14) (N := some 167) (v := undef) (a' := ?_) #[true, true, true, true, true, true, true, true, true, true, true, true, true, true, true, false, false, false, false, false, false, false, false] rfl rfl (any_of HT_.out (by kernel_rfl)) (fun _ _ _ h => h) (Or.inr ⟨by rfl, rfl⟩) ?_ ?_
            rotate_left
            ·simp only [Act.put, List.setIfInBounds_toArray, List.set_cons_zero, List.set_cons_succ, i64_w, i32_w]
             rfl
            refine pure_ (i := 15) (N := some 168) (v := undef) (a' := ?_) #[true, true, true, true, true, true, true, true, true, true, true, true, true, true, true, true, false, false, false, false, false, false, false] rfl rfl (any_of HT_.out (by kernel_rfl)) (fun _ _ _ h => h) (Or.inr ⟨by rfl, rfl⟩) ?_ ?_
            rotate_left
            ·simp only [Act.put, List.setIfInBounds_toArray, List.set_cons_zero, List.set_cons_succ, i64_w, i32_w]
             rfl
            refine pure_ (i := 16) (N := some 169) (v := undef) (a' := ?_) #[true, true, true, true, true, true, true, true, true, true, true, true, true, true, true, true, true, false, false, false, false, false, false] rfl rfl (any_of HT_.out (by kernel_rfl)) (fun _ _ _ h => h) (Or.inr ⟨by rfl, rfl⟩) ?_ ?_
            rotate_left
            ·simp only [Act.put, List.setIfInBounds_toArray, List.set_cons_zero, List.set_cons_succ, i64_w, i32_w]
             rfl
            refine pure_ (i := 17) (N := some 170) (v := undef) (a' := ?_) #[true, true, true, true, true, true, true, true, true, true, true, true, true, true, true, true, true, true, false, false, false, false, false] rfl rfl (any_of HT_.out (by kernel_rfl)) (fun _ _ _ h => h) (Or.inr ⟨by rfl, rfl⟩) ?_ ?_
            rotate_left
            ·simp only [Act.put, List.setIfInBounds_toArray, List.set_cons_zero, List.set_cons_succ, i64_w, i32_w]
             rfl
            refine pure_ (i := 18) (N := some 171) (v := undef) (a' := ?_) #[true, true, true, true, true, true, true, true, true, true, true, true, true, true, true, true, true, true, true, false, false, false, false] rfl rfl (any_of HT_.out (by kernel_rfl)) (fun _ _ _ h => h) (Or.inr ⟨by rfl, rfl⟩) ?_ ?_
            rotate_left
            ·simp only [Act.put, List.setIfInBounds_toArray, List.set_cons_zero, List.set_cons_succ, i64_w, i32_w]
             rfl
            refine pure_ (i := 19) (N := some 172) (v := undef) (a' := ?_) #[true, true, true, true, true, true, true, true, true, true, true, true, true, true, true, true, true, true, true, true, false, false, false] rfl rfl (any_of HT_.out (by kernel_rfl)) (fun _ _ _ h => h) (Or.inr ⟨by rfl, rfl⟩) ?_ ?_
            rotate_left
            ·simp only [Act.put, List.setIfInBounds_toArray, List.set_cons_zero, List.set_cons_succ, i64_w, i32_w]
             rfl
            refine pure_ (i := 20) (N := some 173) (v := undef) (a' := ?_) #[true, true, true, true, true, true, true, true, true, true, true, true, true, true, true, true, true, true, true, true, true, false, false] rfl rfl (any_of HT_.out (by kernel_rfl)) (fun _ _ _ h => h) (Or.inr ⟨by rfl, rfl⟩) ?_ ?_
            rotate_left
            ·simp only [Act.put, List.setIfInBounds_toArray, List.set_cons_zero, List.set_cons_succ, i64_w, i32_w]
             rfl
            refine pure_ (i := 21) (N := some 174) (v := undef) (a' := ?_) #[true, true, true, true, true, true, true, true, true, true, true, true, true, true, true, true, true, true, true, true, true, true, false] rfl rfl (any_of HT_.out (by kernel_rfl)) (fun _ _ _ h => h) (Or.inr ⟨by rfl, rfl⟩) ?_ ?_
            rotate_left
            ·simp only [Act.put, List.setIfInBounds_toArray, List.set_cons_zero, List.set_cons_succ, i64_w, i32_w]
             rfl
            refine pure_ (i := 22) (N := some 175) (v := ?_) (a' := ?_) #[true, true, true, true, true, true, true, true, true, true, true, true, true, true, true, true, true, true, true, true, true, true, true] rfl rfl (any_of HT_.out (by kernel_rfl)) (fun _ _ _ h => h) (Or.inl ⟨by rfl, ?_⟩) ?_ ?_
            rotate_left
            ·intro w'
             go_simp
             with_reducible rfl
            rotate_left
            ·simp only [Act.put, List.setIfInBounds_toArray, List.set_cons_zero, List.set_cons_succ, i64_w, i32_w]
             rfl
            refine done_ (done_of HT_.out (by kernel_rfl)) ?_
            try go_wp2
            go_roundg k5
            case measure => have := HK1.out; have := HJ30.out; have := HK3.out; have := HJ65.out; have := HK5.out; omega
            case rel => exact ⟨(wrap64 (x7_1 + 1)), (by first | rfl | (simp; done) | (simp [*]; done)), H', ⟨by have := HK1.out; have := HJ30.out; have := HK3.out; have := HJ65.out; have := HK5.out; omega⟩, ⟨by (with_reducible repeat (first | apply Kd.R_alloc | apply Kd.R_drewN | apply Kd.R_drew)); exact HO_3.out⟩, ⟨by (with_reducible repeat (first | apply Kd.S_alloc | apply Kd.S_drewN | apply Kd.S_drew)); exact HO_4.out⟩, ⟨by (with_reducible repeat (first | apply Kd.R_alloc | apply Kd.R_drewN | apply Kd.R_drew)); exact HO_5.out⟩, ⟨by (with_reducible repeat (first | apply Kd.S_alloc | apply Kd.S_drewN | apply Kd.S_drew)); exact HO_6.out⟩, ⟨by (with_reducible repeat (first | refine blk_drewN ?_ _ | refine blk_drew ?_ | refine blk_alloc ?_ _)); exact BK435.out⟩, ⟨by repeat (first | (with_reducible first | exact HB.out | apply below_alloc | apply pw_below_drewN | apply below_drew1 | refine below_set ?_ GE435.out) | exact HB.out)⟩⟩
           rw [if_pos c88] at H
           have c88b0 : (((rd_L2 t447 x7_1).length : Int) == 1) = true := beq_iff_eq.mpr c88
           have c88b1 : (((rd_L2 t447 x7_1).length : Int) != 1) = false := bne_eq_false_iff_eq.mpr c88
           clear c88
           by_cases c89 : x7_1 < (t438.length : Int)
           rotate_left
           ·rw [if_neg c89] at H
            exact absurd H (by simp)
           rw [if_pos c89] at H
           have c89b0 : decide (x7_1 < (t438.length : Int)) = true := decide_eq_true c89
           clear c89
           by_cases c90 : 0 < ((rd_L2 t447 x7_1).length : Int)
           rotate_left
           ·rw [if_neg c90] at H
            exact absurd H (by simp)
           rw [if_pos c90] at H
           have c90b0 : decide (0 < ((rd_L2 t447 x7_1).length : Int)) = true := decide_eq_true c90
           have c90b1 : decide (0 < (rd_L2 t447 x7_1).length) = true := decide_eq_true (by omega)
           clear c90
           by_cases c91 : (rd t438 x7_1) = (rd (rd_L2 t447 x7_1) 0)
           rotate_left
           ·rw [if_neg c91] at H
            exact absurd H (by simp)
           rw [if_pos c91] at H
           have c91b0 : ((rd t438 x7_1) == (rd (rd_L2 t447 x7_1) 0)) = true := beq_iff_eq.mpr c91
           have c91b1 : ((rd t438 x7_1) != (rd (rd_L2 t447 x7_1) 0)) = false := bne_eq_false_iff_eq.mpr c91
           clear c91
           have H' := Aside0.mk H
           clear H
           obtain ⟨Ao92, co92, eo92⟩ := Kd.S_slice HO_4.out
           subst eo92
           have p462 : 0 ≤ (x7_1 : Int) := of_decide_eq_true (by first | (with_reducible assumption) | assumption)
           have q462 : x7_1 < (t441.length : Int) := of_decide_eq_true (by first | (with_reducible assumption) | assumption)
           obtain ⟨ad462, A462_0, c462_0, e462, hx462_0, hl462_0, hi462_0⟩ := at_L2 (Kd.S_reads' HO_4.out).2.2 x7_1 p462 q462
           cases e462
           obtain ⟨ce462, hce462, hMe462, hcc462⟩ := Kd.S_get HO_4.out [] x7_1 p462 (by first | exact q462 | exact of_decide_eq_true (by first | (with_reducible assumption) | assumption) | (have e_ := (Kd.S_reads' HO_4.out).1; omega))
           obtain ⟨ve462_0, rfl, ge462_0⟩ := hMe462
           have hv462_0 := hcc462 0 _ rfl
           rw [Nat.add_zero, show ((Kd.slice 3 (Kd.int .i64))).sz = 1 from rfl, Nat.mul_one] at hv462_0
           replace hv462_0 := Option.some.inj (hv462_0.symm.trans hx462_0)
           rw [hv462_0] at ge462_0
           have HL462_0 := Aside0.mk (show Kd.R (Kd.int .i64) 3 _ _ _ _ (rd_L2 t441 x7_1) from ge462_0)
           clear hv462_0 ge462_0
           clear hcc462 hce462
           have HR462_0 := Aside0.mk hi462_0
           have HC462_0 := Aside0.mk hl462_0
           clear hi462_0 hl462_0
           replace p462 := eq_true p462
           replace q462 := eq_true q462
           try go_wp2
           have n0_ := Aside0.mk (Kd.R_drew HO_3.out)
           have n1_ := Aside0.mk (Kd.S_drew HO_4.out)
           have n2_ := Aside0.mk (Kd.R_drew HO_5.out)
           have n3_ := Aside0.mk (Kd.S_drew HO_6.out)
           have n4_ := Aside0.mk (Kd.R_drew HL462_0.out)
           have n5_ := Aside0.mk (blk_drew BK435.out)
           have n6_ := Aside0.mk (Kd.C_drew HR462_0.out)
           have n7_ := Aside0.mk (below_drew1 HB.out)
           clear HO_3
           clear HO_4
           clear HO_5
           clear HO_6
           clear HL462_0
           clear BK435
           clear HR462_0
           clear HB
           have HO_3 := n0_
           have HO_4 := n1_
           have HO_5 := n2_
           have HO_6 := n3_
           have HL462_0 := n4_
           have BK435 := n5_
           have HR462_0 := n6_
           have HB := n7_
           clear n0_ n1_ n2_ n3_ n4_ n5_ n6_ n7_
           obtain ⟨Ao94, co94, eo94⟩ := Kd.S_slice HO_6.out
           (first | subst eo94 | (injection eo94 with f1_ f2_ f3_; have f4_ := f1_.symm; have f5_ := f3_.symm; clear f1_ f2_ f3_; subst f4_; subst f5_))
           have p468 : 0 ≤ (x7_1 : Int) := of_decide_eq_true (by first | (with_reducible assumption) | assumption)
           have q468 : x7_1 < (t447.length : Int) := of_decide_eq_true (by first | (with_reducible assumption) | assumption)
           obtain ⟨ad468, A468_0, c468_0, e468, hx468_0, hl468_0, hi468_0⟩ := at_L2 (Kd.S_reads' HO_6.out).2.2 x7_1 p468 q468
           cases e468
           obtain ⟨ce468, hce468, hMe468, hcc468⟩ := Kd.S_get HO_6.out [] x7_1 p468 (by first | exact q468 | exact of_decide_eq_true (by first | (with_reducible assumption) | assumption) | (have e_ := (Kd.S_reads' HO_6.out).1; omega))
           obtain ⟨ve468_0, rfl, ge468_0⟩ := hMe468
           have hv468_0 := hcc468 0 _ rfl
           rw [Nat.add_zero, show ((Kd.slice 3 (Kd.int .i64))).sz = 1 from rfl, Nat.mul_one] at hv468_0
           replace hv468_0 := Option.some.inj (hv468_0.symm.trans hx468_0)
           rw [hv468_0] at ge468_0
           have HL468_0 := Aside0.mk (show Kd.R (Kd.int .i64) 3 _ _ _ _ (rd_L2 t447 x7_1) from ge468_0)
           clear hv468_0 ge468_0
           clear hcc468 hce468
           have HR468_0 := Aside0.mk hi468_0
           have HC468_0 := Aside0.mk hl468_0
           clear hi468_0 hl468_0
           replace p468 := eq_true p468
           replace q468 := eq_true q468
           have p469 : 0 ≤ (x7_1 : Int) := of_decide_eq_true (by first | (with_reducible assumption) | assumption)
           have q469 : x7_1 < (t438.length : Int) := of_decide_eq_true (by first | (with_reducible assumption) | assumption)
           obtain ⟨ad469, e469, hx469_0⟩ := Kd.at_int (Kd.R_reads' HO_3.out).2.2 x7_1 p469 q469
           cases e469
           replace p469 := eq_true p469
           replace q469 := eq_true q469
           have p470 : 0 ≤ (x7_1 : Int) := of_decide_eq_true (by first | (with_reducible assumption) | assumption)
           have q470 : x7_1 < (t447.length : Int) := of_decide_eq_true (by first | (with_reducible assumption) | assumption)
           obtain ⟨ad470, A470_0, c470_0, e470, hx470_0, hl470_0, hi470_0⟩ := at_L2 (Kd.S_reads' HO_6.out).2.2 x7_1 p470 q470
           obtain rfl : ad468 = ad470 := (by injection e470)
           obtain ⟨ce470, hce470, hMe470, hcc470⟩ := Kd.S_get HO_6.out [] x7_1 p470 (by first | exact q470 | exact of_decide_eq_true (by first | (with_reducible assumption) | assumption) | (have e_ := (Kd.S_reads' HO_6.out).1; omega))
           obtain ⟨ve470_0, rfl, ge470_0⟩ := hMe470
           have hv470_0 := hcc470 0 _ rfl
           rw [Nat.add_zero, show ((Kd.slice 3 (Kd.int .i64))).sz = 1 from rfl, Nat.mul_one] at hv470_0
           replace hv470_0 := Option.some.inj (hv470_0.symm.trans hx470_0)
           rw [hv470_0] at ge470_0
           have HL470_0 := Aside0.mk (show Kd.R (Kd.int .i64) 3 _ _ _ _ (rd_L2 t447 x7_1) from ge470_0)
           clear hv470_0 ge470_0
           clear hcc470 hce470
           have HR470_0 := Aside0.mk hi470_0
           have HC470_0 := Aside0.mk hl470_0
           clear hi470_0 hl470_0
           replace p470 := eq_true p470
           replace q470 := eq_true q470
           have ea_ := Option.some.inj (hx468_0.symm.trans hx470_0)
           injection ea_ with ea_ en_ ec_
           subst ea_
           subst ec_
           clear en_
           have p471 : 0 ≤ (0 : Int) := (by omega)
           have q471 : 0 < ((rd_L2 t447 x7_1).length : Int) := of_decide_eq_true (by first | (with_reducible assumption) | assumption)
           obtain ⟨ad471, e471, hx471_0⟩ := Kd.at_int (by repeat (first | (with_reducible exact HR470_0.out) | (with_reducible refine Kd.C_alloc ?_ _) | (with_reducible refine Kd.C_drewN ?_ _) | (with_reducible refine Kd.C_drew ?_) | exact HR470_0.out)) 0 p471 q471
           cases e471
           have qi471 : (0 < (rd_L2 t447 x7_1).length) = True := eq_true (by omega)
           (try rw [show ((0 : Int)).toNat = 0 from rfl] at hx471_0)
           (try rw [Addr.add_zero'] at hx471_0)
           replace p471 := eq_true p471
           replace q471 := eq_true q471
           refine start_ (n := 23) (S := fun w' => w'.cell? (ad468.add (x7_1).toNat) = some (.slice (some ad471) (rd_L2 t447 x7_1).length c468_0) ∧ w'.cell? (ad469.add (x7_1).toNat) = some (.int .i64 (rd t438 x7_1)) ∧ w'.cell? (ad468.add (x7_1).toNat) = some (.slice (some ad471) (rd_L2 t447 x7_1).length c468_0) ∧ w'.cell? ad471 = some (.int .i64 (rd (rd_L2 t447 x7_1) 0))) (ds := []) #[false, false, false, false, false, false, false, false, false, false, false, false, false, false, false, false, false, false, false, false, false, false, false] (by kernel_rfl) rfl rfl ⟨hx468_0, hx469_0, hx470_0, hx471_0⟩ (fun hHeld => ?_); refine with_tabW truantlaw10_DomChain.tab37 truantlaw10_DomChain.bits37 (fun HT_ HW_ => ?_)
           generalize wr.drew = w93 at HO_3 HO_4 HO_5 HO_6 HL462_0 BK435 HR462_0 HB HL468_0 HL470_0 HR468_0 HR470_0 hx468_0 hx469_0 hx470_0 hx471_0 hHeld ⊢
           refine pure_ (i := 0) (N := some 153) (v := ?_) (a' := ?_) #[true, false, false, false, false, false, false, false, false, false, false, false, false, false, false, false, false, false, false, false, false, false, false] rfl rfl (any_of HT_.out (by kernel_rfl)) (fun _ _ _ h => h) (Or.inl ⟨by rfl, ?_⟩) ?_ ?_
           rotate_left
           ·intro w'
            go_simp
            with_reducible rfl
           rotate_left
           ·simp only [Act.put, List.setIfInBounds_toArray, List.set_cons_zero, List.set_cons_succ, i64_w, i32_w]
            rfl
           refine pure_ (i := 1) (N := some 154) (v := ?_) (a' := ?_) #[true, true, false, false, false, false, false, false, false, false, false, false, false, false, false, false, false, false, false, false, false, false, false] rfl rfl (any_of HT_.out (by kernel_rfl)) (fun _ _ _ h => h) (Or.inl ⟨by rfl, ?_⟩) ?_ ?_
           rotate_left
           ·intro w'
            go_simp
            with_reducible rfl
           rotate_left
           ·simp only [Act.put, List.setIfInBounds_toArray, List.set_cons_zero, List.set_cons_succ, i64_w, i32_w]
            rfl
           refine pure_ (i := 2) (N := some 155) (v := ?_) (a' := ?_) #[true, true, true, false, false, false, false, false, false, false, false, false, false, false, false, false, false, false, false, false, false, false, false] rfl rfl (any_of HT_.out (by kernel_rfl)) (fun _ _ _ h => h) (Or.inl ⟨by rfl, ?_⟩) ?_ ?_
           rotate_left
           ·intro w'
            go_simp
            with_reducible rfl
           rotate_left
           ·simp only [Act.put, List.setIfInBounds_toArray, List.set_cons_zero, List.set_cons_succ, i64_w, i32_w]
            rfl
           refine pure_ (i := 3) (N := some 156) (v := ?_) (a' := ?_) #[true, true, true, true, false, false, false, false, false, false, false, false, false, false, false, false, false, false, false, false, false, false, false] rfl rfl (any_of HT_.out (by kernel_rfl)) (fun _ _ _ h => h) (Or.inl ⟨by rfl, ?_⟩) ?_ ?_
           rotate_left
           ·intro w'
            go_simp
            with_reducible rfl
           rotate_left
           ·simp only [Act.put, List.setIfInBounds_toArray, List.set_cons_zero, List.set_cons_succ, i64_w, i32_w]
            rfl
           refine pure_ (i := 4) (N := some 157) (v := ?_) (a' := ?_) #[true, true, true, true, true, false, false, false, false, false, false, false, false, false, false, false, false, false, false, false, false, false, false] rfl rfl (any_of HT_.out (by kernel_rfl)) (fun _ _ _ h => h) (Or.inl ⟨by rfl, ?_⟩) ?_ ?_
           rotate_left
           ·intro w'
            go_simp
            with_reducible rfl
           rotate_left
           ·simp only [Act.put, List.setIfInBounds_toArray, List.set_cons_zero, List.set_cons_succ, i64_w, i32_w]
            rfl
           refine pure_ (i := 5) (N := some 158) (v := ?_) (a' := ?_) #[true, true, true, true, true, true, false, false, false, false, false, false, false, false, false, false, false, false, false, false, false, false, false] rfl rfl (any_of HT_.out (by kernel_rfl)) (fun _ _ _ h => h) (Or.inl ⟨by rfl, ?_⟩) ?_ ?_
           rotate_left
           ·intro w'
            go_simp
            with_reducible rfl
           rotate_left
           ·simp only [Act.put, List.setIfInBounds_toArray, List.set_cons_zero, List.set_cons_succ, i64_w, i32_w]
            rfl
           refine take_ (i := 6) (N := some 159) (v := ?_) (a' := ?_) #[true, true, true, true, true, true, true, false, false, false, false, false, false, false, false, false, false, false, false, false, false, false, false] rfl rfl (take_ofW HT_.out HW_.out (by kernel_rfl)) (fun _ _ _ h => h) (Or.inl ⟨by rfl, ?_⟩) hHeld ?_ ?_
           rotate_left
           ·rintro w' ⟨s0, s1, s2, s3⟩
            go_simp
            with_reducible rfl
           rotate_left
           ·simp only [Act.put, List.setIfInBounds_toArray, List.set_cons_zero, List.set_cons_succ, i64_w, i32_w]
            rfl
           refine pure_ (i := 7) (N := some 160) (v := ?_) (a' := ?_) #[true, true, true, true, true, true, true, true, false, false, false, false, false, false, false, false, false, false, false, false, false, false, false] rfl rfl (any_of HT_.out (by kernel_rfl)) (fun _ _ _ h => h) (Or.inl ⟨by rfl, ?_⟩) ?_ ?_
           rotate_left
           ·intro w'
            go_simp
            with_reducible rfl
           rotate_left
           ·simp only [Act.put, List.setIfInBounds_toArray, List.set_cons_zero, List.set_cons_succ, i64_w, i32_w]
            rfl
           refine pure_ (i := 8) (N := some 161) (v := ?_) (a' := ?_) #[true, true, true, true, true, true, true, true, true, false, false, false, false, false, false, false, false, false, false, false, false, false, false] rfl rfl (any_of HT_.out (by kernel_rfl)) (fun _ _ _ h => h) (Or.inl ⟨by rfl, ?_⟩) ?_ ?_
           rotate_left
           ·intro w'
            go_simp
            with_reducible rfl
           rotate_left
           ·simp only [Act.put, List.setIfInBounds_toArray, List.set_cons_zero, List.set_cons_succ, i64_w, i32_w]
            rfl
           refine pure_ (i := 9) (N := some 162) (v := ?_) (a' := ?_) #[true, true, true, true, true, true, true, true, true, true, false, false, false, false, false, false, false, false, false, false, false, false, false] rfl rfl (any_of HT_.out (by kernel_rfl)) (fun _ _ _ h => h) (Or.inl ⟨by rfl, ?_⟩) ?_ ?_
           rotate_left
           ·intro w'
            go_simp
            with_reducible rfl
           rotate_left
           ·simp only [Act.put, List.setIfInBounds_toArray, List.set_cons_zero, List.set_cons_succ, i64_w, i32_w]
            rfl
           refine pure_ (i := 10) (N := some 163) (v := ?_) (a' := ?_) #[true, true, true, true, true, true, true, true, true, true, true, false, false, false, false, false, false, false, false, false, false, false, false] rfl rfl (any_of HT_.out (by kernel_rfl)) (fun _ _ _ h => h) (Or.inl ⟨by rfl, ?_⟩) ?_ ?_
           rotate_left
           ·intro w'
            go_simp
            with_reducible rfl
           rotate_left
           ·simp only [Act.put, List.setIfInBounds_toArray, List.set_cons_zero, List.set_cons_succ, i64_w, i32_w]
            rfl
           refine pure_ (i := 11) (N := some 164) (v := ?_) (a' := ?_) #[true, true, true, true, true, true, true, true, true, true, true, true, false, false, false, false, false, false, false, false, false, false, false] rfl rfl (any_of HT_.out (by kernel_rfl)) (fun _ _ _ h => h) (Or.inl ⟨by rfl, ?_⟩) ?_ ?_
           rotate_left
           ·intro w'
            go_simp
            with_reducible rfl
           rotate_left
           ·simp only [Act.put, List.setIfInBounds_toArray, List.set_cons_zero, List.set_cons_succ, i64_w, i32_w]
            rfl
           refine pure_ (i := 12) (N := some 165) (v := ?_) (a' := ?_) #[true, true, true, true, true, true, true, true, true, true, true, true, true, false, false, false, false, false, false, false, false, false, false] rfl rfl (any_of HT_.out (by kernel_rfl)) (fun _ _ _ h => h) (Or.inl ⟨by rfl, ?_⟩) ?_ ?_
           rotate_left
           ·intro w'
            go_simp
            with_reducible rfl
           rotate_left
           ·simp only [Act.put, List.setIfInBounds_toArray, List.set_cons_zero, List.set_cons_succ, i64_w, i32_w]
            rfl
           refine pure_ (i := 13) (N := some 166) (v := ?_) (a' := ?_) #[true, true, true, true, true, true, true, true, true, true, true, true, true, true, false, false, false, false, false, false, false, false, false] rfl rfl (any_of HT_.out (by kernel_rfl)) (fun _ _ _ h => h) (Or.inl ⟨by rfl, ?_⟩) ?_ ?_
           rotate_left
           ·intro w'
            go_simp
            with_reducible rfl
           rotate_left
           ·simp only [Act.put, List.setIfInBounds_toArray, List.set_cons_zero, List.set_cons_succ, i64_w, i32_w]
            rfl
           refine pure_ (i := 15) (N := some 168) (v := ?_) (a' := ?_) #[true, true, true, true, true, true, true, true, true, true, true, true, true, true, false, true, false, false, false, false, false, false, false] rfl rfl (any_of HT_.out (by kernel_rfl)) (fun _ _ _ h => h) (Or.inl ⟨by rfl, ?_⟩) ?_ ?_
           rotate_left
           ·intro w'
            go_simp
            with_reducible rfl
           rotate_left
           ·simp only [Act.put, List.setIfInBounds_toArray, List.set_cons_zero, List.set_cons_succ, i64_w, i32_w]
            rfl
           refine pure_ (i := 16) (N := some 169) (v := ?_) (a' := ?_) #[true, true, true, true, true, true, true, true, true, true, true, true, true, true, false, true, true, false, false, false, false, false, false] rfl rfl (any_of HT_.out (by kernel_rfl)) (fun _ _ _ h => h) (Or.inl ⟨by rfl, ?_⟩) ?_ ?_
           rotate_left
           ·intro w'
            go_simp
            with_reducible rfl
           rotate_left
           ·simp only [Act.put, List.setIfInBounds_toArray, List.set_cons_zero, List.set_cons_succ, i64_w, i32_w]
            rfl
           refine pure_ (i := 17) (N := some 170) (v := ?_) (a' := ?_) #[true, true, true, true, true, true, true, true, true, true, true, true, true, true, false, true, true, true, false, false, false, false, false] rfl rfl (any_of HT_.out (by kernel_rfl)) (fun _ _ _ h => h) (Or.inl ⟨by rfl, ?_⟩) ?_ ?_
           rotate_left
           ·intro w'
            go_simp
            with_reducible rfl
           rotate_left
           ·simp only [Act.put, List.setIfInBounds_toArray, List.set_cons_zero, List.set_cons_succ, i64_w, i32_w]
            rfl
           refine take_ (i := 14) (N := some 167) (v := ?_) (a' := ?_) #[true, true, true, true, true, true, true, true, true, true, true, true, true, true, true, true, true, true, false, false, false, false, false] rfl rfl (take_ofW HT_.out HW_.out (by kernel_rfl)) (fun _ _ _ h => h) (Or.inl ⟨by rfl, ?_⟩) hHeld ?_ ?_
           rotate_left
           ·rintro w' ⟨s0, s1, s2, s3⟩
            go_simp
            with_reducible rfl
           rotate_left
           ·simp only [Act.put, List.setIfInBounds_toArray, List.set_cons_zero, List.set_cons_succ, i64_w, i32_w]
            rfl
           refine take_ (i := 18) (N := some 171) (v := ?_) (a' := ?_) #[true, true, true, true, true, true, true, true, true, true, true, true, true, true, true, true, true, true, true, false, false, false, false] rfl rfl (take_ofW HT_.out HW_.out (by kernel_rfl)) (fun _ _ _ h => h) (Or.inl ⟨by rfl, ?_⟩) hHeld ?_ ?_
           rotate_left
           ·rintro w' ⟨s0, s1, s2, s3⟩
            go_simp
            with_reducible rfl
           rotate_left
           ·simp only [Act.put, List.setIfInBounds_toArray, List.set_cons_zero, List.set_cons_succ, i64_w, i32_w]
            rfl
           refine pure_ (i := 19) (N := some 172) (v := ?_) (a' := ?_) #[true, true, true, true, true, true, true, true, true, true, true, true, true, true, true, true, true, true, true, true, false, false, false] rfl rfl (any_of HT_.out (by kernel_rfl)) (fun _ _ _ h => h) (Or.inl ⟨by rfl, ?_⟩) ?_ ?_
           rotate_left
           ·intro w'
            go_simp
            with_reducible rfl
           rotate_left
           ·simp only [Act.put, List.setIfInBounds_toArray, List.set_cons_zero, List.set_cons_succ, i64_w, i32_w]
            rfl
           refine take_ (i := 20) (N := some 173) (v := ?_) (a' := ?_) #[true, true, true, true, true, true, true, true, true, true, true, true, true, true, true, true, true, true, true, true, true, false, false] rfl rfl (take_ofW HT_.out HW_.out (by kernel_rfl)) (fun _ _ _ h => h) (Or.inl ⟨by rfl, ?_⟩) hHeld ?_ ?_
           rotate_left
           ·rintro w' ⟨s0, s1, s2, s3⟩
            go_simp
            with_reducible rfl
           rotate_left
           ·simp only [Act.put, List.setIfInBounds_toArray, List.set_cons_zero, List.set_cons_succ, i64_w, i32_w]
            rfl
           refine pure_ (i := 21) (N := some 174) (v := ?_) (a' := ?_) #[true, true, true, true, true, true, true, true, true, true, true, true, true, true, true, true, true, true, true, true, true, true, false] rfl rfl (any_of HT_.out (by kernel_rfl)) (fun _ _ _ h => h) (Or.inl ⟨by rfl, ?_⟩) ?_ ?_
           rotate_left
           ·intro w'
            go_simp
            with_reducible rfl
           rotate_left
           ·simp only [Act.put, List.setIfInBounds_toArray, List.set_cons_zero, List.set_cons_succ, i64_w, i32_w]
            rfl
           refine pure_ (i := 22) (N := some 175) (v := ?_) (a' := ?_) #[true, true, true, true, true, true, true, true, true, true, true, true, true, true, true, true, true, true, true, true, true, true, true] rfl rfl (any_of HT_.out (by kernel_rfl)) (fun _ _ _ h => h) (Or.inl ⟨by rfl, ?_⟩) ?_ ?_
           rotate_left
           ·intro w'
            go_simp
            with_reducible rfl
           rotate_left
           ·simp only [Act.put, List.setIfInBounds_toArray, List.set_cons_zero, List.set_cons_succ, i64_w, i32_w]
            rfl
           refine done_ (done_of HT_.out (by kernel_rfl)) ?_
           try go_wp2
           go_roundg k5
           case measure => have := HK1.out; have := HJ30.out; have := HK3.out; have := HJ65.out; have := HK5.out; omega
           case rel => exact ⟨(wrap64 (x7_1 + 1)), (by first | rfl | (simp; done) | (simp [*]; done)), H', ⟨by have := HK1.out; have := HJ30.out; have := HK3.out; have := HJ65.out; have := HK5.out; omega⟩, ⟨by (with_reducible repeat (first | apply Kd.R_alloc | apply Kd.R_drewN | apply Kd.R_drew)); exact HO_3.out⟩, ⟨by (with_reducible repeat (first | apply Kd.S_alloc | apply Kd.S_drewN | apply Kd.S_drew)); exact HO_4.out⟩, ⟨by (with_reducible repeat (first | apply Kd.R_alloc | apply Kd.R_drewN | apply Kd.R_drew)); exact HO_5.out⟩, ⟨by (with_reducible repeat (first | apply Kd.S_alloc | apply Kd.S_drewN | apply Kd.S_drew)); exact HO_6.out⟩, ⟨by (with_reducible repeat (first | refine blk_drewN ?_ _ | refine blk_drew ?_ | refine blk_alloc ?_ _)); exact BK435.out⟩, ⟨by repeat (first | (with_reducible first | exact HB.out | apply below_alloc | apply pw_below_drewN | apply below_drew1 | refine below_set ?_ GE435.out) | exact HB.out)⟩⟩
end Go.Proofs.Ytclhjalgflebfaa.Q

