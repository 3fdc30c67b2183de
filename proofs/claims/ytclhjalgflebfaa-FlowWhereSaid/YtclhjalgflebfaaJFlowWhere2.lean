/- What the row of FlowWhere rests on, part 2: contracts of the functions that it reaches, and the plain law. -/
import Derived.Test.YtclhjalgflebfaaJFlowWhere1
namespace Go.Proofs.Ytclhjalgflebfaa.Q
open Go.RowKit Go.Proofs.YtclhjalgflebfaaW.PrintWords Go.Proofs.YtclhjalgflebfaaW.PrintLast Go.Proofs.YtclhjalgflebfaaW.PrintMore
attribute [local go_sem] max2_int min2_int max_two min_two max_three min_three max_four min_four   -- for this text's walks alone
set_option linter.unusedVariables false
set_option linter.unusedSimpArgs false

/-! ### truantlaw09_FlowWhere: function 4 -/
mutual
def truantlaw09_FlowWhere.l0 : Nat → List Int → List Int → Int → ByteArray → List ByteArray → ByteArray → List ByteArray → List (S58) → List (S40) → Option (Bool)
 | 0, _, _, _, _, _, _, _, _, _ => none
 | k + 1, x3, x4, x5, x428000, x428001, x428002, x428003, x428004, x428005 => if x5 < (x4.length : Int) then (if 0 ≤ x5 then (truantlaw09_FlowWhere.l0 k x3 (x4.set (x5 : Int).toNat (-1)) (wrap64 (x5 + 1)) x428000 x428001 x428002 x428003 x428004 x428005) else (none)) else (truantlaw09_FlowWhere.l1 k x3 x4 (wrap64 ((x428005.length : Int) - 1)) x428000 x428001 x428002 x428003 x428004 x428005)
def truantlaw09_FlowWhere.l1 : Nat → List Int → List Int → Int → ByteArray → List ByteArray → ByteArray → List ByteArray → List (S58) → List (S40) → Option (Bool)
 | 0, _, _, _, _, _, _, _, _, _ => none
 | k + 1, x3, x4, x6, x428000, x428001, x428002, x428003, x428004, x428005 => if x6 ≥ 0 then (truantlaw09_FlowWhere.l2 k x3 x4 x6 0 x428000 x428001 x428002 x428003 x428004 x428005) else ((truantref09_Order.f k x428000 x428001 x428002 x428003 x428004 x428005).bind fun t441 => (if 0 ≤ (x428005.length : Int) then (if ((x428005.length : Int) : Int).toNat ≤ 35184372088832 then (truantlaw09_FlowWhere.l3 k x3 x4 t441 (List.replicate ((x428005.length : Int) : Int).toNat 0) 0 x428000 x428001 x428002 x428003 x428004 x428005) else (none)) else (none)))
def truantlaw09_FlowWhere.l2 : Nat → List Int → List Int → Int → Int → ByteArray → List ByteArray → ByteArray → List ByteArray → List (S58) → List (S40) → Option (Bool)
 | 0, _, _, _, _, _, _, _, _, _, _ => none
 | k + 1, x3, x4, x6, x7, x428000, x428001, x428002, x428003, x428004, x428005 => if 0 ≤ x6 then (if x6 < (x428005.length : Int) then (if x7 < (((rd_T40 x428005 x6).f0).length : Int) then (if 0 ≤ x7 then (if (rd ((rd_T40 x428005 x6).f0) x7) ≥ 0 then (if (rd ((rd_T40 x428005 x6).f0) x7) < (x4.length : Int) then (if 0 ≤ (rd ((rd_T40 x428005 x6).f0) x7) then (truantlaw09_FlowWhere.l2 k x3 (x4.set ((rd ((rd_T40 x428005 x6).f0) x7) : Int).toNat x6) x6 (wrap64 (x7 + 1)) x428000 x428001 x428002 x428003 x428004 x428005) else (none)) else (truantlaw09_FlowWhere.l2 k x3 x4 x6 (wrap64 (x7 + 1)) x428000 x428001 x428002 x428003 x428004 x428005)) else (truantlaw09_FlowWhere.l2 k x3 x4 x6 (wrap64 (x7 + 1)) x428000 x428001 x428002 x428003 x428004 x428005)) else (none)) else (truantlaw09_FlowWhere.l1 k x3 x4 (wrap64 (x6 - 1)) x428000 x428001 x428002 x428003 x428004 x428005)) else (none)) else (none)
def truantlaw09_FlowWhere.l3 : Nat → List Int → List Int → List Int → List Int → Int → ByteArray → List ByteArray → ByteArray → List ByteArray → List (S58) → List (S40) → Option (Bool)
 | 0, _, _, _, _, _, _, _, _, _, _, _ => none
 | k + 1, x3, x4, x9, x10, x11, x428000, x428001, x428002, x428003, x428004, x428005 => if x11 < (x10.length : Int) then (if 0 ≤ x11 then (truantlaw09_FlowWhere.l3 k x3 x4 x9 (x10.set (x11 : Int).toNat (-1)) (wrap64 (x11 + 1)) x428000 x428001 x428002 x428003 x428004 x428005) else (none)) else (truantlaw09_FlowWhere.l4 k x3 x4 x9 x10 0 x428000 x428001 x428002 x428003 x428004 x428005)
def truantlaw09_FlowWhere.l4 : Nat → List Int → List Int → List Int → List Int → Int → ByteArray → List ByteArray → ByteArray → List ByteArray → List (S58) → List (S40) → Option (Bool)
 | 0, _, _, _, _, _, _, _, _, _, _, _ => none
 | k + 1, x3, x4, x9, x10, x12, x428000, x428001, x428002, x428003, x428004, x428005 => if x12 < (x9.length : Int) then (if 0 ≤ x12 then (if 0 ≤ (rd x9 x12) then (if (rd x9 x12) < (x10.length : Int) then (truantlaw09_FlowWhere.l4 k x3 x4 x9 (x10.set ((rd x9 x12) : Int).toNat x12) (wrap64 (x12 + 1)) x428000 x428001 x428002 x428003 x428004 x428005) else (none)) else (none)) else (none)) else ((flow_Back.f x428000 x428001 x428002 x428003 x428004 x428005).bind fun t450 => (truantlaw09_FlowWhere.l5 k x3 x4 x10 t450 0 0 x428000 x428001 x428002 x428003 x428004 x428005))
def truantlaw09_FlowWhere.l5 : Nat → List Int → List Int → List Int → List (S38) → Int → Int → ByteArray → List ByteArray → ByteArray → List ByteArray → List (S58) → List (S40) → Option (Bool)
 | 0, _, _, _, _, _, _, _, _, _, _, _, _ => none
 | k + 1, x3, x4, x10, x13, x14, x15, x428000, x428001, x428002, x428003, x428004, x428005 => if x15 < (x428005.length : Int) then (truantlaw09_FlowWhere.l6 k x3 x4 x10 x13 x14 x15 0 x428000 x428001 x428002 x428003 x428004 x428005) else ((truantlaw09_same.f k x3 x4).bind fun t462 => (if t462 = true then (some (x14 == (x13.length : Int))) else (none)))
def truantlaw09_FlowWhere.l6 : Nat → List Int → List Int → List Int → List (S38) → Int → Int → Int → ByteArray → List ByteArray → ByteArray → List ByteArray → List (S58) → List (S40) → Option (Bool)
 | 0, _, _, _, _, _, _, _, _, _, _, _, _, _ => none
 | k + 1, x3, x4, x10, x13, x14, x15, x16, x428000, x428001, x428002, x428003, x428004, x428005 => if 0 ≤ x15 then (if x15 < (x10.length : Int) then (if (rd x10 x15) ≥ 0 then (if x16 < (x428005.length : Int) then ((truantref09_Next.f k x428000 x428001 x428002 x428003 x428004 x428005 x15).bind fun t454 => (truantlaw09_FlowWhere.l7 k x3 x4 x10 x13 x14 x15 x16 false t454 0 x428000 x428001 x428002 x428003 x428004 x428005)) else (truantlaw09_FlowWhere.l5 k x3 x4 x10 x13 x14 (wrap64 (x15 + 1)) x428000 x428001 x428002 x428003 x428004 x428005)) else (truantlaw09_FlowWhere.l5 k x3 x4 x10 x13 x14 (wrap64 (x15 + 1)) x428000 x428001 x428002 x428003 x428004 x428005)) else (none)) else (none)
def truantlaw09_FlowWhere.l7 : Nat → List Int → List Int → List Int → List (S38) → Int → Int → Int → Bool → List Int → Int → ByteArray → List ByteArray → ByteArray → List ByteArray → List (S58) → List (S40) → Option (Bool)
 | 0, _, _, _, _, _, _, _, _, _, _, _, _, _, _, _, _ => none
 | k + 1, x3, x4, x10, x13, x14, x15, x16, x17, x18, x19, x428000, x428001, x428002, x428003, x428004, x428005 => if x19 < (x18.length : Int) then (if x17 = true then (truantlaw09_FlowWhere.l7 k x3 x4 x10 x13 x14 x15 x16 true x18 (wrap64 (x19 + 1)) x428000 x428001 x428002 x428003 x428004 x428005) else (if 0 ≤ x19 then (truantlaw09_FlowWhere.l7 k x3 x4 x10 x13 x14 x15 x16 ((rd x18 x19) == x16) x18 (wrap64 (x19 + 1)) x428000 x428001 x428002 x428003 x428004 x428005) else (none))) else (if x17 = true then (if 0 ≤ x16 then (if x16 < (x10.length : Int) then (if 0 ≤ x15 then (if x15 < (x10.length : Int) then (if (rd x10 x16) > (rd x10 x15) then (truantlaw09_FlowWhere.l6 k x3 x4 x10 x13 x14 x15 (wrap64 (x16 + 1)) x428000 x428001 x428002 x428003 x428004 x428005) else (if x14 ≥ (x13.length : Int) then (none) else (if 0 ≤ x14 then (if x14 < (x13.length : Int) then (if ((rd_T38 x13 x14).f0) = x15 then (if ((rd_T38 x13 x14).f1) = x16 then (truantlaw09_FlowWhere.l6 k x3 x4 x10 x13 (wrap64 (x14 + 1)) x15 (wrap64 (x16 + 1)) x428000 x428001 x428002 x428003 x428004 x428005) else (none)) else (none)) else (none)) else (none)))) else (none)) else (none)) else (none)) else (none)) else (truantlaw09_FlowWhere.l6 k x3 x4 x10 x13 x14 x15 (wrap64 (x16 + 1)) x428000 x428001 x428002 x428003 x428004 x428005))
end
def truantlaw09_FlowWhere.f (k : Nat) (a0_0 : ByteArray) (l0_1 : List ByteArray) (a0_2 : ByteArray) (l0_3 : List ByteArray) (l0_4 : List (S58)) (l0_5 : List (S40)) : Option (Bool) := (truantlaw09_awake.f k).bind fun t428 => (if t428 = true then ((truantlaw09_wide.f k a0_0 l0_1 a0_2 l0_3 l0_4 l0_5).bind fun t429 => (if t429 = true then (some true) else ((flow_Where.f k a0_0 l0_1 a0_2 l0_3 l0_4 l0_5).bind fun t430 => (if (t430.length : Int) = (l0_4.length : Int) then (if 0 ≤ (l0_4.length : Int) then (if ((l0_4.length : Int) : Int).toNat ≤ 35184372088832 then (truantlaw09_FlowWhere.l0 k t430 (List.replicate ((l0_4.length : Int) : Int).toNat 0) 0 a0_0 l0_1 a0_2 l0_3 l0_4 l0_5) else (none)) else (none)) else (none))))) else (none))
theorem truantlaw09_FlowWhere.mono_l : ∀ k, (∀ y0 y1 y2 y3 y4 y5 y6 y7 y8, LeO (truantlaw09_FlowWhere.l0 k y0 y1 y2 y3 y4 y5 y6 y7 y8) (truantlaw09_FlowWhere.l0 (k + 1) y0 y1 y2 y3 y4 y5 y6 y7 y8)) ∧ (∀ y0 y1 y2 y3 y4 y5 y6 y7 y8, LeO (truantlaw09_FlowWhere.l1 k y0 y1 y2 y3 y4 y5 y6 y7 y8) (truantlaw09_FlowWhere.l1 (k + 1) y0 y1 y2 y3 y4 y5 y6 y7 y8)) ∧ (∀ y0 y1 y2 y3 y4 y5 y6 y7 y8 y9, LeO (truantlaw09_FlowWhere.l2 k y0 y1 y2 y3 y4 y5 y6 y7 y8 y9) (truantlaw09_FlowWhere.l2 (k + 1) y0 y1 y2 y3 y4 y5 y6 y7 y8 y9)) ∧ (∀ y0 y1 y2 y3 y4 y5 y6 y7 y8 y9 y10, LeO (truantlaw09_FlowWhere.l3 k y0 y1 y2 y3 y4 y5 y6 y7 y8 y9 y10) (truantlaw09_FlowWhere.l3 (k + 1) y0 y1 y2 y3 y4 y5 y6 y7 y8 y9 y10)) ∧ (∀ y0 y1 y2 y3 y4 y5 y6 y7 y8 y9 y10, LeO (truantlaw09_FlowWhere.l4 k y0 y1 y2 y3 y4 y5 y6 y7 y8 y9 y10) (truantlaw09_FlowWhere.l4 (k + 1) y0 y1 y2 y3 y4 y5 y6 y7 y8 y9 y10)) ∧ (∀ y0 y1 y2 y3 y4 y5 y6 y7 y8 y9 y10 y11, LeO (truantlaw09_FlowWhere.l5 k y0 y1 y2 y3 y4 y5 y6 y7 y8 y9 y10 y11) (truantlaw09_FlowWhere.l5 (k + 1) y0 y1 y2 y3 y4 y5 y6 y7 y8 y9 y10 y11)) ∧ (∀ y0 y1 y2 y3 y4 y5 y6 y7 y8 y9 y10 y11 y12, LeO (truantlaw09_FlowWhere.l6 k y0 y1 y2 y3 y4 y5 y6 y7 y8 y9 y10 y11 y12) (truantlaw09_FlowWhere.l6 (k + 1) y0 y1 y2 y3 y4 y5 y6 y7 y8 y9 y10 y11 y12)) ∧ (∀ y0 y1 y2 y3 y4 y5 y6 y7 y8 y9 y10 y11 y12 y13 y14 y15, LeO (truantlaw09_FlowWhere.l7 k y0 y1 y2 y3 y4 y5 y6 y7 y8 y9 y10 y11 y12 y13 y14 y15) (truantlaw09_FlowWhere.l7 (k + 1) y0 y1 y2 y3 y4 y5 y6 y7 y8 y9 y10 y11 y12 y13 y14 y15))
 | 0 => ⟨fun _ _ _ _ _ _ _ _ _ r h => by simp [truantlaw09_FlowWhere.l0] at h, fun _ _ _ _ _ _ _ _ _ r h => by simp [truantlaw09_FlowWhere.l1] at h, fun _ _ _ _ _ _ _ _ _ _ r h => by simp [truantlaw09_FlowWhere.l2] at h, fun _ _ _ _ _ _ _ _ _ _ _ r h => by simp [truantlaw09_FlowWhere.l3] at h, fun _ _ _ _ _ _ _ _ _ _ _ r h => by simp [truantlaw09_FlowWhere.l4] at h, fun _ _ _ _ _ _ _ _ _ _ _ _ r h => by simp [truantlaw09_FlowWhere.l5] at h, fun _ _ _ _ _ _ _ _ _ _ _ _ _ r h => by simp [truantlaw09_FlowWhere.l6] at h, fun _ _ _ _ _ _ _ _ _ _ _ _ _ _ _ _ r h => by simp [truantlaw09_FlowWhere.l7] at h⟩
 | k + 1 => by
  obtain ⟨ih0, ih1, ih2, ih3, ih4, ih5, ih6, ih7⟩ := truantlaw09_FlowWhere.mono_l k
  refine ⟨?_, ?_, ?_, ?_, ?_, ?_, ?_, ?_⟩
  ·intro y0 y1 y2 y3 y4 y5 y6 y7 y8
   unfold truantlaw09_FlowWhere.l0
   repeat' first
   | (with_reducible exact ih0 _ _ _ _ _ _ _ _ _)
   | (with_reducible exact ih1 _ _ _ _ _ _ _ _ _)
   | (with_reducible exact ih2 _ _ _ _ _ _ _ _ _ _)
   | (with_reducible exact ih3 _ _ _ _ _ _ _ _ _ _ _)
   | (with_reducible exact ih4 _ _ _ _ _ _ _ _ _ _ _)
   | (with_reducible exact ih5 _ _ _ _ _ _ _ _ _ _ _ _)
   | (with_reducible exact ih6 _ _ _ _ _ _ _ _ _ _ _ _ _)
   | (with_reducible exact ih7 _ _ _ _ _ _ _ _ _ _ _ _ _ _ _ _)
   | (with_reducible exact flow_Where.mono _ _ _ _ _ _ _)
   | (with_reducible exact truantlaw09_awake.mono _)
   | (with_reducible exact truantlaw09_same.mono _ _ _)
   | (with_reducible exact truantlaw09_wide.mono _ _ _ _ _ _ _)
   | (with_reducible exact truantref09_Next.mono _ _ _ _ _ _ _ _)
   | (with_reducible exact truantref09_Order.mono _ _ _ _ _ _ _)
   | (with_reducible exact LeO.refl _)
   | (with_reducible exact LeO.none _)
   | (with_reducible refine LeO.ite ?_ ?_)
   | (with_reducible refine LeO.bind ?_ (fun _ => ?_))
   | exact ih0 _ _ _ _ _ _ _ _ _
   | exact ih1 _ _ _ _ _ _ _ _ _
   | exact ih2 _ _ _ _ _ _ _ _ _ _
   | exact ih3 _ _ _ _ _ _ _ _ _ _ _
   | exact ih4 _ _ _ _ _ _ _ _ _ _ _
   | exact ih5 _ _ _ _ _ _ _ _ _ _ _ _
   | exact ih6 _ _ _ _ _ _ _ _ _ _ _ _ _
   | exact ih7 _ _ _ _ _ _ _ _ _ _ _ _ _ _ _ _
   | exact flow_Where.mono _ _ _ _ _ _ _
   | exact truantlaw09_awake.mono _
   | exact truantlaw09_same.mono _ _ _
   | exact truantlaw09_wide.mono _ _ _ _ _ _ _
   | exact truantref09_Next.mono _ _ _ _ _ _ _ _
   | exact truantref09_Order.mono _ _ _ _ _ _ _
   | exact LeO.none _
   | refine LeO.ite ?_ ?_
   | refine LeO.bind ?_ (fun _ => ?_)
  ·intro y0 y1 y2 y3 y4 y5 y6 y7 y8
   unfold truantlaw09_FlowWhere.l1
   repeat' first
   | (with_reducible exact ih0 _ _ _ _ _ _ _ _ _)
   | (with_reducible exact ih1 _ _ _ _ _ _ _ _ _)
   | (with_reducible exact ih2 _ _ _ _ _ _ _ _ _ _)
   | (with_reducible exact ih3 _ _ _ _ _ _ _ _ _ _ _)
   | (with_reducible exact ih4 _ _ _ _ _ _ _ _ _ _ _)
   | (with_reducible exact ih5 _ _ _ _ _ _ _ _ _ _ _ _)
   | (with_reducible exact ih6 _ _ _ _ _ _ _ _ _ _ _ _ _)
   | (with_reducible exact ih7 _ _ _ _ _ _ _ _ _ _ _ _ _ _ _ _)
   | (with_reducible exact flow_Where.mono _ _ _ _ _ _ _)
   | (with_reducible exact truantlaw09_awake.mono _)
   | (with_reducible exact truantlaw09_same.mono _ _ _)
   | (with_reducible exact truantlaw09_wide.mono _ _ _ _ _ _ _)
   | (with_reducible exact truantref09_Next.mono _ _ _ _ _ _ _ _)
   | (with_reducible exact truantref09_Order.mono _ _ _ _ _ _ _)
   | (with_reducible exact LeO.refl _)
   | (with_reducible exact LeO.none _)
   | (with_reducible refine LeO.ite ?_ ?_)
   | (with_reducible refine LeO.bind ?_ (fun _ => ?_))
   | exact ih0 _ _ _ _ _ _ _ _ _
   | exact ih1 _ _ _ _ _ _ _ _ _
   | exact ih2 _ _ _ _ _ _ _ _ _ _
   | exact ih3 _ _ _ _ _ _ _ _ _ _ _
   | exact ih4 _ _ _ _ _ _ _ _ _ _ _
   | exact ih5 _ _ _ _ _ _ _ _ _ _ _ _
   | exact ih6 _ _ _ _ _ _ _ _ _ _ _ _ _
   | exact ih7 _ _ _ _ _ _ _ _ _ _ _ _ _ _ _ _
   | exact flow_Where.mono _ _ _ _ _ _ _
   | exact truantlaw09_awake.mono _
   | exact truantlaw09_same.mono _ _ _
   | exact truantlaw09_wide.mono _ _ _ _ _ _ _
   | exact truantref09_Next.mono _ _ _ _ _ _ _ _
   | exact truantref09_Order.mono _ _ _ _ _ _ _
   | exact LeO.none _
   | refine LeO.ite ?_ ?_
   | refine LeO.bind ?_ (fun _ => ?_)
  ·intro y0 y1 y2 y3 y4 y5 y6 y7 y8 y9
   unfold truantlaw09_FlowWhere.l2
   repeat' first
   | (with_reducible exact ih0 _ _ _ _ _ _ _ _ _)
   | (with_reducible exact ih1 _ _ _ _ _ _ _ _ _)
   | (with_reducible exact ih2 _ _ _ _ _ _ _ _ _ _)
   | (with_reducible exact ih3 _ _ _ _ _ _ _ _ _ _ _)
   | (with_reducible exact ih4 _ _ _ _ _ _ _ _ _ _ _)
   | (with_reducible exact ih5 _ _ _ _ _ _ _ _ _ _ _ _)
   | (with_reducible exact ih6 _ _ _ _ _ _ _ _ _ _ _ _ _)
   | (with_reducible exact ih7 _ _ _ _ _ _ _ _ _ _ _ _ _ _ _ _)
   | (with_reducible exact flow_Where.mono _ _ _ _ _ _ _)
   | (with_reducible exact truantlaw09_awake.mono _)
   | (with_reducible exact truantlaw09_same.mono _ _ _)
   | (with_reducible exact truantlaw09_wide.mono _ _ _ _ _ _ _)
   | (with_reducible exact truantref09_Next.mono _ _ _ _ _ _ _ _)
   | (with_reducible exact truantref09_Order.mono _ _ _ _ _ _ _)
   | (with_reducible exact LeO.refl _)
   | (with_reducible exact LeO.none _)
   | (with_reducible refine LeO.ite ?_ ?_)
   | (with_reducible refine LeO.bind ?_ (fun _ => ?_))
   | exact ih0 _ _ _ _ _ _ _ _ _
   | exact ih1 _ _ _ _ _ _ _ _ _
   | exact ih2 _ _ _ _ _ _ _ _ _ _
   | exact ih3 _ _ _ _ _ _ _ _ _ _ _
   | exact ih4 _ _ _ _ _ _ _ _ _ _ _
   | exact ih5 _ _ _ _ _ _ _ _ _ _ _ _
   | exact ih6 _ _ _ _ _ _ _ _ _ _ _ _ _
   | exact ih7 _ _ _ _ _ _ _ _ _ _ _ _ _ _ _ _
   | exact flow_Where.mono _ _ _ _ _ _ _
   | exact truantlaw09_awake.mono _
   | exact truantlaw09_same.mono _ _ _
   | exact truantlaw09_wide.mono _ _ _ _ _ _ _
   | exact truantref09_Next.mono _ _ _ _ _ _ _ _
   | exact truantref09_Order.mono _ _ _ _ _ _ _
   | exact LeO.none _
   | refine LeO.ite ?_ ?_
   | refine LeO.bind ?_ (fun _ => ?_)
  ·intro y0 y1 y2 y3 y4 y5 y6 y7 y8 y9 y10
   unfold truantlaw09_FlowWhere.l3
   repeat' first
   | (with_reducible exact ih0 _ _ _ _ _ _ _ _ _)
   | (with_reducible exact ih1 _ _ _ _ _ _ _ _ _)
   | (with_reducible exact ih2 _ _ _ _ _ _ _ _ _ _)
   | (with_reducible exact ih3 _ _ _ _ _ _ _ _ _ _ _)
   | (with_reducible exact ih4 _ _ _ _ _ _ _ _ _ _ _)
   | (with_reducible exact ih5 _ _ _ _ _ _ _ _ _ _ _ _)
   | (with_reducible exact ih6 _ _ _ _ _ _ _ _ _ _ _ _ _)
   | (with_reducible exact ih7 _ _ _ _ _ _ _ _ _ _ _ _ _ _ _ _)
   | (with_reducible exact flow_Where.mono _ _ _ _ _ _ _)
   | (with_reducible exact truantlaw09_awake.mono _)
   | (with_reducible exact truantlaw09_same.mono _ _ _)
   | (with_reducible exact truantlaw09_wide.mono _ _ _ _ _ _ _)
   | (with_reducible exact truantref09_Next.mono _ _ _ _ _ _ _ _)
   | (with_reducible exact truantref09_Order.mono _ _ _ _ _ _ _)
   | (with_reducible exact LeO.refl _)
   | (with_reducible exact LeO.none _)
   | (with_reducible refine LeO.ite ?_ ?_)
   | (with_reducible refine LeO.bind ?_ (fun _ => ?_))
   | exact ih0 _ _ _ _ _ _ _ _ _
   | exact ih1 _ _ _ _ _ _ _ _ _
   | exact ih2 _ _ _ _ _ _ _ _ _ _
   | exact ih3 _ _ _ _ _ _ _ _ _ _ _
   | exact ih4 _ _ _ _ _ _ _ _ _ _ _
   | exact ih5 _ _ _ _ _ _ _ _ _ _ _ _
   | exact ih6 _ _ _ _ _ _ _ _ _ _ _ _ _
   | exact ih7 _ _ _ _ _ _ _ _ _ _ _ _ _ _ _ _
   | exact flow_Where.mono _ _ _ _ _ _ _
   | exact truantlaw09_awake.mono _
   | exact truantlaw09_same.mono _ _ _
   | exact truantlaw09_wide.mono _ _ _ _ _ _ _
   | exact truantref09_Next.mono _ _ _ _ _ _ _ _
   | exact truantref09_Order.mono _ _ _ _ _ _ _
   | exact LeO.none _
   | refine LeO.ite ?_ ?_
   | refine LeO.bind ?_ (fun _ => ?_)
  ·intro y0 y1 y2 y3 y4 y5 y6 y7 y8 y9 y10
   unfold truantlaw09_FlowWhere.l4
   repeat' first
   | (with_reducible exact ih0 _ _ _ _ _ _ _ _ _)
   | (with_reducible exact ih1 _ _ _ _ _ _ _ _ _)
   | (with_reducible exact ih2 _ _ _ _ _ _ _ _ _ _)
   | (with_reducible exact ih3 _ _ _ _ _ _ _ _ _ _ _)
   | (with_reducible exact ih4 _ _ _ _ _ _ _ _ _ _ _)
   | (with_reducible exact ih5 _ _ _ _ _ _ _ _ _ _ _ _)
   | (with_reducible exact ih6 _ _ _ _ _ _ _ _ _ _ _ _ _)
   | (with_reducible exact ih7 _ _ _ _ _ _ _ _ _ _ _ _ _ _ _ _)
   | (with_reducible exact flow_Where.mono _ _ _ _ _ _ _)
   | (with_reducible exact truantlaw09_awake.mono _)
   | (with_reducible exact truantlaw09_same.mono _ _ _)
   | (with_reducible exact truantlaw09_wide.mono _ _ _ _ _ _ _)
   | (with_reducible exact truantref09_Next.mono _ _ _ _ _ _ _ _)
   | (with_reducible exact truantref09_Order.mono _ _ _ _ _ _ _)
   | (with_reducible exact LeO.refl _)
   | (with_reducible exact LeO.none _)
   | (with_reducible refine LeO.ite ?_ ?_)
   | (with_reducible refine LeO.bind ?_ (fun _ => ?_))
   | exact ih0 _ _ _ _ _ _ _ _ _
   | exact ih1 _ _ _ _ _ _ _ _ _
   | exact ih2 _ _ _ _ _ _ _ _ _ _
   | exact ih3 _ _ _ _ _ _ _ _ _ _ _
   | exact ih4 _ _ _ _ _ _ _ _ _ _ _
   | exact ih5 _ _ _ _ _ _ _ _ _ _ _ _
   | exact ih6 _ _ _ _ _ _ _ _ _ _ _ _ _
   | exact ih7 _ _ _ _ _ _ _ _ _ _ _ _ _ _ _ _
   | exact flow_Where.mono _ _ _ _ _ _ _
   | exact truantlaw09_awake.mono _
   | exact truantlaw09_same.mono _ _ _
   | exact truantlaw09_wide.mono _ _ _ _ _ _ _
   | exact truantref09_Next.mono _ _ _ _ _ _ _ _
   | exact truantref09_Order.mono _ _ _ _ _ _ _
   | exact LeO.none _
   | refine LeO.ite ?_ ?_
   | refine LeO.bind ?_ (fun _ => ?_)
  ·intro y0 y1 y2 y3 y4 y5 y6 y7 y8 y9 y10 y11
   unfold truantlaw09_FlowWhere.l5
   repeat' first
   | (with_reducible exact ih0 _ _ _ _ _ _ _ _ _)
   | (with_reducible exact ih1 _ _ _ _ _ _ _ _ _)
   | (with_reducible exact ih2 _ _ _ _ _ _ _ _ _ _)
   | (with_reducible exact ih3 _ _ _ _ _ _ _ _ _ _ _)
   | (with_reducible exact ih4 _ _ _ _ _ _ _ _ _ _ _)
   | (with_reducible exact ih5 _ _ _ _ _ _ _ _ _ _ _ _)
   | (with_reducible exact ih6 _ _ _ _ _ _ _ _ _ _ _ _ _)
   | (with_reducible exact ih7 _ _ _ _ _ _ _ _ _ _ _ _ _ _ _ _)
   | (with_reducible exact flow_Where.mono _ _ _ _ _ _ _)
   | (with_reducible exact truantlaw09_awake.mono _)
   | (with_reducible exact truantlaw09_same.mono _ _ _)
   | (with_reducible exact truantlaw09_wide.mono _ _ _ _ _ _ _)
   | (with_reducible exact truantref09_Next.mono _ _ _ _ _ _ _ _)
   | (with_reducible exact truantref09_Order.mono _ _ _ _ _ _ _)
   | (with_reducible exact LeO.refl _)
   | (with_reducible exact LeO.none _)
   | (with_reducible refine LeO.ite ?_ ?_)
   | (with_reducible refine LeO.bind ?_ (fun _ => ?_))
   | exact ih0 _ _ _ _ _ _ _ _ _
   | exact ih1 _ _ _ _ _ _ _ _ _
   | exact ih2 _ _ _ _ _ _ _ _ _ _
   | exact ih3 _ _ _ _ _ _ _ _ _ _ _
   | exact ih4 _ _ _ _ _ _ _ _ _ _ _
   | exact ih5 _ _ _ _ _ _ _ _ _ _ _ _
   | exact ih6 _ _ _ _ _ _ _ _ _ _ _ _ _
   | exact ih7 _ _ _ _ _ _ _ _ _ _ _ _ _ _ _ _
   | exact flow_Where.mono _ _ _ _ _ _ _
   | exact truantlaw09_awake.mono _
   | exact truantlaw09_same.mono _ _ _
   | exact truantlaw09_wide.mono _ _ _ _ _ _ _
   | exact truantref09_Next.mono _ _ _ _ _ _ _ _
   | exact truantref09_Order.mono _ _ _ _ _ _ _
   | exact LeO.none _
   | refine LeO.ite ?_ ?_
   | refine LeO.bind ?_ (fun _ => ?_)
  ·intro y0 y1 y2 y3 y4 y5 y6 y7 y8 y9 y10 y11 y12
   unfold truantlaw09_FlowWhere.l6
   repeat' first
   | (with_reducible exact ih0 _ _ _ _ _ _ _ _ _)
   | (with_reducible exact ih1 _ _ _ _ _ _ _ _ _)
   | (with_reducible exact ih2 _ _ _ _ _ _ _ _ _ _)
   | (with_reducible exact ih3 _ _ _ _ _ _ _ _ _ _ _)
   | (with_reducible exact ih4 _ _ _ _ _ _ _ _ _ _ _)
   | (with_reducible exact ih5 _ _ _ _ _ _ _ _ _ _ _ _)
   | (with_reducible exact ih6 _ _ _ _ _ _ _ _ _ _ _ _ _)
   | (with_reducible exact ih7 _ _ _ _ _ _ _ _ _ _ _ _ _ _ _ _)
   | (with_reducible exact flow_Where.mono _ _ _ _ _ _ _)
   | (with_reducible exact truantlaw09_awake.mono _)
   | (with_reducible exact truantlaw09_same.mono _ _ _)
   | (with_reducible exact truantlaw09_wide.mono _ _ _ _ _ _ _)
   | (with_reducible exact truantref09_Next.mono _ _ _ _ _ _ _ _)
   | (with_reducible exact truantref09_Order.mono _ _ _ _ _ _ _)
   | (with_reducible exact LeO.refl _)
   | (with_reducible exact LeO.none _)
   | (with_reducible refine LeO.ite ?_ ?_)
   | (with_reducible refine LeO.bind ?_ (fun _ => ?_))
   | exact ih0 _ _ _ _ _ _ _ _ _
   | exact ih1 _ _ _ _ _ _ _ _ _
   | exact ih2 _ _ _ _ _ _ _ _ _ _
   | exact ih3 _ _ _ _ _ _ _ _ _ _ _
   | exact ih4 _ _ _ _ _ _ _ _ _ _ _
   | exact ih5 _ _ _ _ _ _ _ _ _ _ _ _
   | exact ih6 _ _ _ _ _ _ _ _ _ _ _ _ _
   | exact ih7 _ _ _ _ _ _ _ _ _ _ _ _ _ _ _ _
   | exact flow_Where.mono _ _ _ _ _ _ _
   | exact truantlaw09_awake.mono _
   | exact truantlaw09_same.mono _ _ _
   | exact truantlaw09_wide.mono _ _ _ _ _ _ _
   | exact truantref09_Next.mono _ _ _ _ _ _ _ _
   | exact truantref09_Order.mono _ _ _ _ _ _ _
   | exact LeO.none _
   | refine LeO.ite ?_ ?_
   | refine LeO.bind ?_ (fun _ => ?_)
  ·intro y0 y1 y2 y3 y4 y5 y6 y7 y8 y9 y10 y11 y12 y13 y14 y15
   unfold truantlaw09_FlowWhere.l7
   repeat' first
   | (with_reducible exact ih0 _ _ _ _ _ _ _ _ _)
   | (with_reducible exact ih1 _ _ _ _ _ _ _ _ _)
   | (with_reducible exact ih2 _ _ _ _ _ _ _ _ _ _)
   | (with_reducible exact ih3 _ _ _ _ _ _ _ _ _ _ _)
   | (with_reducible exact ih4 _ _ _ _ _ _ _ _ _ _ _)
   | (with_reducible exact ih5 _ _ _ _ _ _ _ _ _ _ _ _)
   | (with_reducible exact ih6 _ _ _ _ _ _ _ _ _ _ _ _ _)
   | (with_reducible exact ih7 _ _ _ _ _ _ _ _ _ _ _ _ _ _ _ _)
   | (with_reducible exact flow_Where.mono _ _ _ _ _ _ _)
   | (with_reducible exact truantlaw09_awake.mono _)
   | (with_reducible exact truantlaw09_same.mono _ _ _)
   | (with_reducible exact truantlaw09_wide.mono _ _ _ _ _ _ _)
   | (with_reducible exact truantref09_Next.mono _ _ _ _ _ _ _ _)
   | (with_reducible exact truantref09_Order.mono _ _ _ _ _ _ _)
   | (with_reducible exact LeO.refl _)
   | (with_reducible exact LeO.none _)
   | (with_reducible refine LeO.ite ?_ ?_)
   | (with_reducible refine LeO.bind ?_ (fun _ => ?_))
   | exact ih0 _ _ _ _ _ _ _ _ _
   | exact ih1 _ _ _ _ _ _ _ _ _
   | exact ih2 _ _ _ _ _ _ _ _ _ _
   | exact ih3 _ _ _ _ _ _ _ _ _ _ _
   | exact ih4 _ _ _ _ _ _ _ _ _ _ _
   | exact ih5 _ _ _ _ _ _ _ _ _ _ _ _
   | exact ih6 _ _ _ _ _ _ _ _ _ _ _ _ _
   | exact ih7 _ _ _ _ _ _ _ _ _ _ _ _ _ _ _ _
   | exact flow_Where.mono _ _ _ _ _ _ _
   | exact truantlaw09_awake.mono _
   | exact truantlaw09_same.mono _ _ _
   | exact truantlaw09_wide.mono _ _ _ _ _ _ _
   | exact truantref09_Next.mono _ _ _ _ _ _ _ _
   | exact truantref09_Order.mono _ _ _ _ _ _ _
   | exact LeO.none _
   | refine LeO.ite ?_ ?_
   | refine LeO.bind ?_ (fun _ => ?_)
theorem truantlaw09_FlowWhere.mono : ∀ a0 a1 a2 a3 a4 a5 k, LeO (truantlaw09_FlowWhere.f k a0 a1 a2 a3 a4 a5) (truantlaw09_FlowWhere.f (k + 1) a0 a1 a2 a3 a4 a5) := by
 intro a0 a1 a2 a3 a4 a5 k
 obtain ⟨ih0, ih1, ih2, ih3, ih4, ih5, ih6, ih7⟩ := truantlaw09_FlowWhere.mono_l k
 unfold truantlaw09_FlowWhere.f
 repeat' first
   | (with_reducible exact ih0 _ _ _ _ _ _ _ _ _)
   | (with_reducible exact ih1 _ _ _ _ _ _ _ _ _)
   | (with_reducible exact ih2 _ _ _ _ _ _ _ _ _ _)
   | (with_reducible exact ih3 _ _ _ _ _ _ _ _ _ _ _)
   | (with_reducible exact ih4 _ _ _ _ _ _ _ _ _ _ _)
   | (with_reducible exact ih5 _ _ _ _ _ _ _ _ _ _ _ _)
   | (with_reducible exact ih6 _ _ _ _ _ _ _ _ _ _ _ _ _)
   | (with_reducible exact ih7 _ _ _ _ _ _ _ _ _ _ _ _ _ _ _ _)
   | (with_reducible exact flow_Where.mono _ _ _ _ _ _ _)
   | (with_reducible exact truantlaw09_awake.mono _)
   | (with_reducible exact truantlaw09_same.mono _ _ _)
   | (with_reducible exact truantlaw09_wide.mono _ _ _ _ _ _ _)
   | (with_reducible exact truantref09_Next.mono _ _ _ _ _ _ _ _)
   | (with_reducible exact truantref09_Order.mono _ _ _ _ _ _ _)
   | (with_reducible exact LeO.refl _)
   | (with_reducible exact LeO.none _)
   | (with_reducible refine LeO.ite ?_ ?_)
   | (with_reducible refine LeO.bind ?_ (fun _ => ?_))
   | exact ih0 _ _ _ _ _ _ _ _ _
   | exact ih1 _ _ _ _ _ _ _ _ _
   | exact ih2 _ _ _ _ _ _ _ _ _ _
   | exact ih3 _ _ _ _ _ _ _ _ _ _ _
   | exact ih4 _ _ _ _ _ _ _ _ _ _ _
   | exact ih5 _ _ _ _ _ _ _ _ _ _ _ _
   | exact ih6 _ _ _ _ _ _ _ _ _ _ _ _ _
   | exact ih7 _ _ _ _ _ _ _ _ _ _ _ _ _ _ _ _
   | exact flow_Where.mono _ _ _ _ _ _ _
   | exact truantlaw09_awake.mono _
   | exact truantlaw09_same.mono _ _ _
   | exact truantlaw09_wide.mono _ _ _ _ _ _ _
   | exact truantref09_Next.mono _ _ _ _ _ _ _ _
   | exact truantref09_Order.mono _ _ _ _ _ _ _
   | exact LeO.none _
   | refine LeO.ite ?_ ?_
   | refine LeO.bind ?_ (fun _ => ?_)
end Go.Proofs.Ytclhjalgflebfaa.Q

