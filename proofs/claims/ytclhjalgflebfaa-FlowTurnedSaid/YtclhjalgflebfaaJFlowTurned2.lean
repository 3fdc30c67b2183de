/- What the row of FlowTurned rests on, part 2: contracts of the functions that it reaches, and the plain law. -/
import Derived.Test.YtclhjalgflebfaaJFlowTurned1
namespace Go.Proofs.Ytclhjalgflebfaa.Q
open Go.RowKit Go.Proofs.YtclhjalgflebfaaW.PrintWords Go.Proofs.YtclhjalgflebfaaW.PrintLast Go.Proofs.YtclhjalgflebfaaW.PrintMore
attribute [local go_sem] max2_int min2_int max_two min_two max_three min_three max_four min_four   -- for this text's walks alone
set_option linter.unusedVariables false
set_option linter.unusedSimpArgs false

/-! ### truantlaw09_FlowTurned: function 6 -/
mutual
def truantlaw09_FlowTurned.l0 : Nat → List (List Int) → Int → Int → ByteArray → List ByteArray → ByteArray → List ByteArray → List (S58) → List (S40) → ByteArray → ByteArray → List (S58) → List (S40) → Option (Bool)
 | 0, _, _, _, _, _, _, _, _, _, _, _, _, _ => none
 | k + 1, x5, x6, x8, x510000, x510001, x510002, x510003, x510004, x510005, x522000, x522002, x522004, x522005 => if x8 < (x510005.length : Int) then ((flow_Next.f x510000 x510001 x510002 x510003 x510004 x510005 x8).bind fun t523 => (truantlaw09_FlowTurned.l1 k x5 x6 x8 t523 0 0 x510000 x510001 x510002 x510003 x510004 x510005 x522000 x522002 x522004 x522005)) else ((flow_Next.f x522000 ([] : List ByteArray) x522002 ([] : List ByteArray) x522004 x522005 x6).bind fun t534 => (some ((t534.length : Int) == 0)))
def truantlaw09_FlowTurned.l1 : Nat → List (List Int) → Int → Int → List Int → Int → Int → ByteArray → List ByteArray → ByteArray → List ByteArray → List (S58) → List (S40) → ByteArray → ByteArray → List (S58) → List (S40) → Option (Bool)
 | 0, _, _, _, _, _, _, _, _, _, _, _, _, _, _, _, _ => none
 | k + 1, x5, x6, x8, x9, x10, x11, x510000, x510001, x510002, x510003, x510004, x510005, x522000, x522002, x522004, x522005 => if x11 < (x510005.length : Int) then (truantlaw09_FlowTurned.l2 k x5 x6 x8 x9 x10 x11 false 0 x510000 x510001 x510002 x510003 x510004 x510005 x522000 x522002 x522004 x522005) else (if x10 = (x9.length : Int) then (if x8 = x6 then (truantlaw09_FlowTurned.l0 k x5 x6 (wrap64 (x8 + 1)) x510000 x510001 x510002 x510003 x510004 x510005 x522000 x522002 x522004 x522005) else ((flow_Next.f x522000 ([] : List ByteArray) x522002 ([] : List ByteArray) x522004 x522005 x8).bind fun t530 => ((truantlaw09_same.f k t530 x9).bind fun t533 => (if t533 = true then (truantlaw09_FlowTurned.l0 k x5 x6 (wrap64 (x8 + 1)) x510000 x510001 x510002 x510003 x510004 x510005 x522000 x522002 x522004 x522005) else (none))))) else (none))
def truantlaw09_FlowTurned.l2 : Nat → List (List Int) → Int → Int → List Int → Int → Int → Bool → Int → ByteArray → List ByteArray → ByteArray → List ByteArray → List (S58) → List (S40) → ByteArray → ByteArray → List (S58) → List (S40) → Option (Bool)
 | 0, _, _, _, _, _, _, _, _, _, _, _, _, _, _, _, _, _, _ => none
 | k + 1, x5, x6, x8, x9, x10, x11, x12, x13, x510000, x510001, x510002, x510003, x510004, x510005, x522000, x522002, x522004, x522005 => if 0 ≤ x11 then (if x11 < (x5.length : Int) then (if x13 < ((rd_L2 x5 x11).length : Int) then (if x12 = true then (truantlaw09_FlowTurned.l2 k x5 x6 x8 x9 x10 x11 true (wrap64 (x13 + 1)) x510000 x510001 x510002 x510003 x510004 x510005 x522000 x522002 x522004 x522005) else (if 0 ≤ x13 then (truantlaw09_FlowTurned.l2 k x5 x6 x8 x9 x10 x11 ((rd (rd_L2 x5 x11) x13) == x8) (wrap64 (x13 + 1)) x510000 x510001 x510002 x510003 x510004 x510005 x522000 x522002 x522004 x522005) else (none))) else (truantlaw09_FlowTurned.l3 k x5 x6 x8 x9 x10 x11 x12 false 0 x510000 x510001 x510002 x510003 x510004 x510005 x522000 x522002 x522004 x522005)) else (none)) else (none)
def truantlaw09_FlowTurned.l3 : Nat → List (List Int) → Int → Int → List Int → Int → Int → Bool → Bool → Int → ByteArray → List ByteArray → ByteArray → List ByteArray → List (S58) → List (S40) → ByteArray → ByteArray → List (S58) → List (S40) → Option (Bool)
 | 0, _, _, _, _, _, _, _, _, _, _, _, _, _, _, _, _, _, _, _ => none
 | k + 1, x5, x6, x8, x9, x10, x11, x12, x14, x15, x510000, x510001, x510002, x510003, x510004, x510005, x522000, x522002, x522004, x522005 => if x15 < (x9.length : Int) then (if x14 = true then (truantlaw09_FlowTurned.l3 k x5 x6 x8 x9 x10 x11 x12 true (wrap64 (x15 + 1)) x510000 x510001 x510002 x510003 x510004 x510005 x522000 x522002 x522004 x522005) else (if 0 ≤ x15 then (truantlaw09_FlowTurned.l3 k x5 x6 x8 x9 x10 x11 x12 ((rd x9 x15) == x11) (wrap64 (x15 + 1)) x510000 x510001 x510002 x510003 x510004 x510005 x522000 x522002 x522004 x522005) else (none))) else (if (x12 != x14) = true then (none) else (if x14 = true then (truantlaw09_FlowTurned.l1 k x5 x6 x8 x9 (wrap64 (x10 + 1)) (wrap64 (x11 + 1)) x510000 x510001 x510002 x510003 x510004 x510005 x522000 x522002 x522004 x522005) else (truantlaw09_FlowTurned.l1 k x5 x6 x8 x9 x10 (wrap64 (x11 + 1)) x510000 x510001 x510002 x510003 x510004 x510005 x522000 x522002 x522004 x522005)))
end
def truantlaw09_FlowTurned.f (k : Nat) (a0_0 : ByteArray) (l0_1 : List ByteArray) (a0_2 : ByteArray) (l0_3 : List ByteArray) (l0_4 : List (S58)) (l0_5 : List (S40)) (a1 : Int) : Option (Bool) := (truantlaw09_awake.f k).bind fun t510 => (if t510 = true then ((truantlaw09_wide.f k a0_0 l0_1 a0_2 l0_3 l0_4 l0_5).bind fun t511 => (if t511 = true then (some true) else (if (l0_5.length : Int) = 0 then (some true) else ((flow_Ahead.f k a0_0 l0_1 a0_2 l0_3 l0_4 l0_5).bind fun t512 => (if (IntKind.u64.wrap ((l0_5.length : Int))) = 0 then (none) else ((some (([] : List (S40)) : List (S40))).bind fun y515 => (if y515.length + l0_5.length < 2513169434916 then ((some (y515 ++ l0_5 : List (S40))).bind fun y518 => (if 0 ≤ (wrap64 (Int.tmod (IntKind.u64.wrap (a1)) (IntKind.u64.wrap ((l0_5.length : Int))))) then (if (wrap64 (Int.tmod (IntKind.u64.wrap (a1)) (IntKind.u64.wrap ((l0_5.length : Int))))) < (y518.length : Int) then (truantlaw09_FlowTurned.l0 k t512 (wrap64 (Int.tmod (IntKind.u64.wrap (a1)) (IntKind.u64.wrap ((l0_5.length : Int))))) 0 a0_0 l0_1 a0_2 l0_3 l0_4 l0_5 (⟨#[]⟩ : ByteArray) (⟨#[]⟩ : ByteArray) l0_4 (y518.set ((wrap64 (Int.tmod (IntKind.u64.wrap (a1)) (IntKind.u64.wrap ((l0_5.length : Int))))) : Int).toNat (⟨(rd_T40 y518 (wrap64 (Int.tmod (IntKind.u64.wrap (a1)) (IntKind.u64.wrap ((l0_5.length : Int)))))).f0, 3, (rd_T40 y518 (wrap64 (Int.tmod (IntKind.u64.wrap (a1)) (IntKind.u64.wrap ((l0_5.length : Int)))))).f2, (⟨(rd_T40 y518 (wrap64 (Int.tmod (IntKind.u64.wrap (a1)) (IntKind.u64.wrap ((l0_5.length : Int)))))).f3.f0, (rd_T40 y518 (wrap64 (Int.tmod (IntKind.u64.wrap (a1)) (IntKind.u64.wrap ((l0_5.length : Int)))))).f3.f1⟩ : S38)⟩ : S40))) else (none)) else (none))) else (none)))))))) else (none))
theorem truantlaw09_FlowTurned.mono_l : ∀ k, (∀ y0 y1 y2 y3 y4 y5 y6 y7 y8 y9 y10 y11 y12, LeO (truantlaw09_FlowTurned.l0 k y0 y1 y2 y3 y4 y5 y6 y7 y8 y9 y10 y11 y12) (truantlaw09_FlowTurned.l0 (k + 1) y0 y1 y2 y3 y4 y5 y6 y7 y8 y9 y10 y11 y12)) ∧ (∀ y0 y1 y2 y3 y4 y5 y6 y7 y8 y9 y10 y11 y12 y13 y14 y15, LeO (truantlaw09_FlowTurned.l1 k y0 y1 y2 y3 y4 y5 y6 y7 y8 y9 y10 y11 y12 y13 y14 y15) (truantlaw09_FlowTurned.l1 (k + 1) y0 y1 y2 y3 y4 y5 y6 y7 y8 y9 y10 y11 y12 y13 y14 y15)) ∧ (∀ y0 y1 y2 y3 y4 y5 y6 y7 y8 y9 y10 y11 y12 y13 y14 y15 y16 y17, LeO (truantlaw09_FlowTurned.l2 k y0 y1 y2 y3 y4 y5 y6 y7 y8 y9 y10 y11 y12 y13 y14 y15 y16 y17) (truantlaw09_FlowTurned.l2 (k + 1) y0 y1 y2 y3 y4 y5 y6 y7 y8 y9 y10 y11 y12 y13 y14 y15 y16 y17)) ∧ (∀ y0 y1 y2 y3 y4 y5 y6 y7 y8 y9 y10 y11 y12 y13 y14 y15 y16 y17 y18, LeO (truantlaw09_FlowTurned.l3 k y0 y1 y2 y3 y4 y5 y6 y7 y8 y9 y10 y11 y12 y13 y14 y15 y16 y17 y18) (truantlaw09_FlowTurned.l3 (k + 1) y0 y1 y2 y3 y4 y5 y6 y7 y8 y9 y10 y11 y12 y13 y14 y15 y16 y17 y18))
 | 0 => ⟨fun _ _ _ _ _ _ _ _ _ _ _ _ _ r h => by simp [truantlaw09_FlowTurned.l0] at h, fun _ _ _ _ _ _ _ _ _ _ _ _ _ _ _ _ r h => by simp [truantlaw09_FlowTurned.l1] at h, fun _ _ _ _ _ _ _ _ _ _ _ _ _ _ _ _ _ _ r h => by simp [truantlaw09_FlowTurned.l2] at h, fun _ _ _ _ _ _ _ _ _ _ _ _ _ _ _ _ _ _ _ r h => by simp [truantlaw09_FlowTurned.l3] at h⟩
 | k + 1 => by
  obtain ⟨ih0, ih1, ih2, ih3⟩ := truantlaw09_FlowTurned.mono_l k
  refine ⟨?_, ?_, ?_, ?_⟩
  ·intro y0 y1 y2 y3 y4 y5 y6 y7 y8 y9 y10 y11 y12
   unfold truantlaw09_FlowTurned.l0
   repeat' first
   | (with_reducible exact ih0 _ _ _ _ _ _ _ _ _ _ _ _ _)
   | (with_reducible exact ih1 _ _ _ _ _ _ _ _ _ _ _ _ _ _ _ _)
   | (with_reducible exact ih2 _ _ _ _ _ _ _ _ _ _ _ _ _ _ _ _ _ _)
   | (with_reducible exact ih3 _ _ _ _ _ _ _ _ _ _ _ _ _ _ _ _ _ _ _)
   | (with_reducible exact flow_Ahead.mono _ _ _ _ _ _ _)
   | (with_reducible exact truantlaw09_awake.mono _)
   | (with_reducible exact truantlaw09_same.mono _ _ _)
   | (with_reducible exact truantlaw09_wide.mono _ _ _ _ _ _ _)
   | (with_reducible exact LeO.refl _)
   | (with_reducible exact LeO.none _)
   | (with_reducible refine LeO.ite ?_ ?_)
   | (with_reducible refine LeO.bind ?_ (fun _ => ?_))
   | exact ih0 _ _ _ _ _ _ _ _ _ _ _ _ _
   | exact ih1 _ _ _ _ _ _ _ _ _ _ _ _ _ _ _ _
   | exact ih2 _ _ _ _ _ _ _ _ _ _ _ _ _ _ _ _ _ _
   | exact ih3 _ _ _ _ _ _ _ _ _ _ _ _ _ _ _ _ _ _ _
   | exact flow_Ahead.mono _ _ _ _ _ _ _
   | exact truantlaw09_awake.mono _
   | exact truantlaw09_same.mono _ _ _
   | exact truantlaw09_wide.mono _ _ _ _ _ _ _
   | exact LeO.none _
   | refine LeO.ite ?_ ?_
   | refine LeO.bind ?_ (fun _ => ?_)
  ·intro y0 y1 y2 y3 y4 y5 y6 y7 y8 y9 y10 y11 y12 y13 y14 y15
   unfold truantlaw09_FlowTurned.l1
   repeat' first
   | (with_reducible exact ih0 _ _ _ _ _ _ _ _ _ _ _ _ _)
   | (with_reducible exact ih1 _ _ _ _ _ _ _ _ _ _ _ _ _ _ _ _)
   | (with_reducible exact ih2 _ _ _ _ _ _ _ _ _ _ _ _ _ _ _ _ _ _)
   | (with_reducible exact ih3 _ _ _ _ _ _ _ _ _ _ _ _ _ _ _ _ _ _ _)
   | (with_reducible exact flow_Ahead.mono _ _ _ _ _ _ _)
   | (with_reducible exact truantlaw09_awake.mono _)
   | (with_reducible exact truantlaw09_same.mono _ _ _)
   | (with_reducible exact truantlaw09_wide.mono _ _ _ _ _ _ _)
   | (with_reducible exact LeO.refl _)
   | (with_reducible exact LeO.none _)
   | (with_reducible refine LeO.ite ?_ ?_)
   | (with_reducible refine LeO.bind ?_ (fun _ => ?_))
   | exact ih0 _ _ _ _ _ _ _ _ _ _ _ _ _
   | exact ih1 _ _ _ _ _ _ _ _ _ _ _ _ _ _ _ _
   | exact ih2 _ _ _ _ _ _ _ _ _ _ _ _ _ _ _ _ _ _
   | exact ih3 _ _ _ _ _ _ _ _ _ _ _ _ _ _ _ _ _ _ _
   | exact flow_Ahead.mono _ _ _ _ _ _ _
   | exact truantlaw09_awake.mono _
   | exact truantlaw09_same.mono _ _ _
   | exact truantlaw09_wide.mono _ _ _ _ _ _ _
   | exact LeO.none _
   | refine LeO.ite ?_ ?_
   | refine LeO.bind ?_ (fun _ => ?_)
  ·intro y0 y1 y2 y3 y4 y5 y6 y7 y8 y9 y10 y11 y12 y13 y14 y15 y16 y17
   unfold truantlaw09_FlowTurned.l2
   repeat' first
   | (with_reducible exact ih0 _ _ _ _ _ _ _ _ _ _ _ _ _)
   | (with_reducible exact ih1 _ _ _ _ _ _ _ _ _ _ _ _ _ _ _ _)
   | (with_reducible exact ih2 _ _ _ _ _ _ _ _ _ _ _ _ _ _ _ _ _ _)
   | (with_reducible exact ih3 _ _ _ _ _ _ _ _ _ _ _ _ _ _ _ _ _ _ _)
   | (with_reducible exact flow_Ahead.mono _ _ _ _ _ _ _)
   | (with_reducible exact truantlaw09_awake.mono _)
   | (with_reducible exact truantlaw09_same.mono _ _ _)
   | (with_reducible exact truantlaw09_wide.mono _ _ _ _ _ _ _)
   | (with_reducible exact LeO.refl _)
   | (with_reducible exact LeO.none _)
   | (with_reducible refine LeO.ite ?_ ?_)
   | (with_reducible refine LeO.bind ?_ (fun _ => ?_))
   | exact ih0 _ _ _ _ _ _ _ _ _ _ _ _ _
   | exact ih1 _ _ _ _ _ _ _ _ _ _ _ _ _ _ _ _
   | exact ih2 _ _ _ _ _ _ _ _ _ _ _ _ _ _ _ _ _ _
   | exact ih3 _ _ _ _ _ _ _ _ _ _ _ _ _ _ _ _ _ _ _
   | exact flow_Ahead.mono _ _ _ _ _ _ _
   | exact truantlaw09_awake.mono _
   | exact truantlaw09_same.mono _ _ _
   | exact truantlaw09_wide.mono _ _ _ _ _ _ _
   | exact LeO.none _
   | refine LeO.ite ?_ ?_
   | refine LeO.bind ?_ (fun _ => ?_)
  ·intro y0 y1 y2 y3 y4 y5 y6 y7 y8 y9 y10 y11 y12 y13 y14 y15 y16 y17 y18
   unfold truantlaw09_FlowTurned.l3
   repeat' first
   | (with_reducible exact ih0 _ _ _ _ _ _ _ _ _ _ _ _ _)
   | (with_reducible exact ih1 _ _ _ _ _ _ _ _ _ _ _ _ _ _ _ _)
   | (with_reducible exact ih2 _ _ _ _ _ _ _ _ _ _ _ _ _ _ _ _ _ _)
   | (with_reducible exact ih3 _ _ _ _ _ _ _ _ _ _ _ _ _ _ _ _ _ _ _)
   | (with_reducible exact flow_Ahead.mono _ _ _ _ _ _ _)
   | (with_reducible exact truantlaw09_awake.mono _)
   | (with_reducible exact truantlaw09_same.mono _ _ _)
   | (with_reducible exact truantlaw09_wide.mono _ _ _ _ _ _ _)
   | (with_reducible exact LeO.refl _)
   | (with_reducible exact LeO.none _)
   | (with_reducible refine LeO.ite ?_ ?_)
   | (with_reducible refine LeO.bind ?_ (fun _ => ?_))
   | exact ih0 _ _ _ _ _ _ _ _ _ _ _ _ _
   | exact ih1 _ _ _ _ _ _ _ _ _ _ _ _ _ _ _ _
   | exact ih2 _ _ _ _ _ _ _ _ _ _ _ _ _ _ _ _ _ _
   | exact ih3 _ _ _ _ _ _ _ _ _ _ _ _ _ _ _ _ _ _ _
   | exact flow_Ahead.mono _ _ _ _ _ _ _
   | exact truantlaw09_awake.mono _
   | exact truantlaw09_same.mono _ _ _
   | exact truantlaw09_wide.mono _ _ _ _ _ _ _
   | exact LeO.none _
   | refine LeO.ite ?_ ?_
   | refine LeO.bind ?_ (fun _ => ?_)
theorem truantlaw09_FlowTurned.mono : ∀ a0 a1 a2 a3 a4 a5 a6 k, LeO (truantlaw09_FlowTurned.f k a0 a1 a2 a3 a4 a5 a6) (truantlaw09_FlowTurned.f (k + 1) a0 a1 a2 a3 a4 a5 a6) := by
 intro a0 a1 a2 a3 a4 a5 a6 k
 obtain ⟨ih0, ih1, ih2, ih3⟩ := truantlaw09_FlowTurned.mono_l k
 unfold truantlaw09_FlowTurned.f
 repeat' first
   | (with_reducible exact ih0 _ _ _ _ _ _ _ _ _ _ _ _ _)
   | (with_reducible exact ih1 _ _ _ _ _ _ _ _ _ _ _ _ _ _ _ _)
   | (with_reducible exact ih2 _ _ _ _ _ _ _ _ _ _ _ _ _ _ _ _ _ _)
   | (with_reducible exact ih3 _ _ _ _ _ _ _ _ _ _ _ _ _ _ _ _ _ _ _)
   | (with_reducible exact flow_Ahead.mono _ _ _ _ _ _ _)
   | (with_reducible exact truantlaw09_awake.mono _)
   | (with_reducible exact truantlaw09_same.mono _ _ _)
   | (with_reducible exact truantlaw09_wide.mono _ _ _ _ _ _ _)
   | (with_reducible exact LeO.refl _)
   | (with_reducible exact LeO.none _)
   | (with_reducible refine LeO.ite ?_ ?_)
   | (with_reducible refine LeO.bind ?_ (fun _ => ?_))
   | exact ih0 _ _ _ _ _ _ _ _ _ _ _ _ _
   | exact ih1 _ _ _ _ _ _ _ _ _ _ _ _ _ _ _ _
   | exact ih2 _ _ _ _ _ _ _ _ _ _ _ _ _ _ _ _ _ _
   | exact ih3 _ _ _ _ _ _ _ _ _ _ _ _ _ _ _ _ _ _ _
   | exact flow_Ahead.mono _ _ _ _ _ _ _
   | exact truantlaw09_awake.mono _
   | exact truantlaw09_same.mono _ _ _
   | exact truantlaw09_wide.mono _ _ _ _ _ _ _
   | exact LeO.none _
   | refine LeO.ite ?_ ?_
   | refine LeO.bind ?_ (fun _ => ?_)
def truantlaw09_FlowTurned.T7 : Bool × List (List Nat × List Nat) := (true, [([], []), ([0], [0]), ([], []), ([], []), ([3], [3]), ([2, 4], [2, 4]), ([1, 5], [1, 5]), ([], []), ([7, 6, 5, 0, 1, 2, 3, 4, 5, 6, 7], [6, 7])])
def truantlaw09_FlowTurned.B7 : List Nat := [0, 1, 0, 0, 8, 28, 63, 0, 255]
theorem truantlaw09_FlowTurned.tab7 : rtab .any (opsOf Try.f6 7) = truantlaw09_FlowTurned.T7 := by kernel_rfl
theorem truantlaw09_FlowTurned.bits7 : waitsOk truantlaw09_FlowTurned.T7.2 truantlaw09_FlowTurned.B7 = true := by kernel_rfl
set_option maxHeartbeats 8000000 in
set_option maxRecDepth 100000 in
theorem truantlaw09_FlowTurned.calls (k : Nat) (a0_0 : ByteArray) (A0_1 : Option Addr) (c0_1 : Nat) (l0_1 : List ByteArray) (a0_2 : ByteArray) (A0_3 : Option Addr) (c0_3 : Nat) (l0_3 : List ByteArray) (A0_4 : Option Addr) (c0_4 : Nat) (l0_4 : List (S58)) (P0_5_ : Nat → Prop) (A0_5 : Option Addr) (c0_5 : Nat) (l0_5 : List (S40)) (a1 : Int) (r : Bool) (w : World) (hr0_1 : Kd.C Kd.string w A0_1 l0_1.length l0_1) (hc0_1 : l0_1.length ≤ c0_1) (hr0_3 : Kd.C Kd.string w A0_3 l0_3.length l0_3) (hc0_3 : l0_3.length ≤ c0_3) (hr0_4 : Kd.C k58 w A0_4 l0_4.length l0_4) (hc0_4 : l0_4.length ≤ c0_4) (hs0_5 : Kd.V k40 40 w w.heap.size (fun k_ => P0_5_ k_) (.slice A0_5 l0_5.length c0_5) l0_5) (h : truantlaw09_FlowTurned.f k a0_0 l0_1 a0_2 l0_3 l0_4 l0_5 a1 = some r) :
  Calls Try.prog 6 #[.agg #[.string a0_0, .slice A0_1 l0_1.length c0_1, .string a0_2, .slice A0_3 l0_3.length c0_3, .slice A0_4 l0_4.length c0_4, .slice A0_5 l0_5.length c0_5], .int .i64 a1] w fun e w' => e = .returned (.bool r) ∧ Below w.heap.size w w' := by
 have hu26 := Try.underlying26
 have HR0_1 := Aside0.mk hr0_1
 have HC0_1 := Aside0.mk hc0_1
 clear hr0_1 hc0_1
 have HR0_3 := Aside0.mk hr0_3
 have HC0_3 := Aside0.mk hc0_3
 clear hr0_3 hc0_3
 have HR0_4 := Aside0.mk hr0_4
 have HC0_4 := Aside0.mk hc0_4
 clear hr0_4 hc0_4
 have HO0_5 := Aside0.mk (show Kd.V k40 40 w w.heap.size (fun k_ => (P0_5_ k_ ∨ w.heap.size ≤ k_)) (.slice A0_5 l0_5.length c0_5) l0_5 from Kd.V_mono hs0_5 (fun k_ hk => .inl hk))
 have HB := Aside0.mk (Below.refl w.heap.size w)
 have H : ((truantlaw09_awake.f k).bind fun t510 => (if t510 = true then ((truantlaw09_wide.f k a0_0 l0_1 a0_2 l0_3 l0_4 l0_5).bind fun t511 => (if t511 = true then (some true) else (if (l0_5.length : Int) = 0 then (some true) else ((flow_Ahead.f k a0_0 l0_1 a0_2 l0_3 l0_4 l0_5).bind fun t512 => (if (IntKind.u64.wrap ((l0_5.length : Int))) = 0 then (none) else ((some (([] : List (S40)) : List (S40))).bind fun y515 => (if y515.length + l0_5.length < 2513169434916 then ((some (y515 ++ l0_5 : List (S40))).bind fun y518 => (if 0 ≤ (wrap64 (Int.tmod (IntKind.u64.wrap (a1)) (IntKind.u64.wrap ((l0_5.length : Int))))) then (if (wrap64 (Int.tmod (IntKind.u64.wrap (a1)) (IntKind.u64.wrap ((l0_5.length : Int))))) < (y518.length : Int) then (truantlaw09_FlowTurned.l0 k t512 (wrap64 (Int.tmod (IntKind.u64.wrap (a1)) (IntKind.u64.wrap ((l0_5.length : Int))))) 0 a0_0 l0_1 a0_2 l0_3 l0_4 l0_5 (⟨#[]⟩ : ByteArray) (⟨#[]⟩ : ByteArray) l0_4 (y518.set ((wrap64 (Int.tmod (IntKind.u64.wrap (a1)) (IntKind.u64.wrap ((l0_5.length : Int))))) : Int).toNat (⟨(rd_T40 y518 (wrap64 (Int.tmod (IntKind.u64.wrap (a1)) (IntKind.u64.wrap ((l0_5.length : Int)))))).f0, 3, (rd_T40 y518 (wrap64 (Int.tmod (IntKind.u64.wrap (a1)) (IntKind.u64.wrap ((l0_5.length : Int)))))).f2, (⟨(rd_T40 y518 (wrap64 (Int.tmod (IntKind.u64.wrap (a1)) (IntKind.u64.wrap ((l0_5.length : Int)))))).f3.f0, (rd_T40 y518 (wrap64 (Int.tmod (IntKind.u64.wrap (a1)) (IntKind.u64.wrap ((l0_5.length : Int)))))).f3.f1⟩ : S38)⟩ : S40))) else (none)) else (none))) else (none)))))))) else (none))) = some r := h
 clear h
 replace H := Option.bind_eq_some_iff.mp H
 obtain ⟨t510, A30, H⟩ := H
 replace H : (if t510 = true then ((truantlaw09_wide.f k a0_0 l0_1 a0_2 l0_3 l0_4 l0_5).bind fun t511 => (if t511 = true then (some true) else (if (l0_5.length : Int) = 0 then (some true) else ((flow_Ahead.f k a0_0 l0_1 a0_2 l0_3 l0_4 l0_5).bind fun t512 => (if (IntKind.u64.wrap ((l0_5.length : Int))) = 0 then (none) else ((some (([] : List (S40)) : List (S40))).bind fun y515 => (if y515.length + l0_5.length < 2513169434916 then ((some (y515 ++ l0_5 : List (S40))).bind fun y518 => (if 0 ≤ (wrap64 (Int.tmod (IntKind.u64.wrap (a1)) (IntKind.u64.wrap ((l0_5.length : Int))))) then (if (wrap64 (Int.tmod (IntKind.u64.wrap (a1)) (IntKind.u64.wrap ((l0_5.length : Int))))) < (y518.length : Int) then (truantlaw09_FlowTurned.l0 k t512 (wrap64 (Int.tmod (IntKind.u64.wrap (a1)) (IntKind.u64.wrap ((l0_5.length : Int))))) 0 a0_0 l0_1 a0_2 l0_3 l0_4 l0_5 (⟨#[]⟩ : ByteArray) (⟨#[]⟩ : ByteArray) l0_4 (y518.set ((wrap64 (Int.tmod (IntKind.u64.wrap (a1)) (IntKind.u64.wrap ((l0_5.length : Int))))) : Int).toNat (⟨(rd_T40 y518 (wrap64 (Int.tmod (IntKind.u64.wrap (a1)) (IntKind.u64.wrap ((l0_5.length : Int)))))).f0, 3, (rd_T40 y518 (wrap64 (Int.tmod (IntKind.u64.wrap (a1)) (IntKind.u64.wrap ((l0_5.length : Int)))))).f2, (⟨(rd_T40 y518 (wrap64 (Int.tmod (IntKind.u64.wrap (a1)) (IntKind.u64.wrap ((l0_5.length : Int)))))).f3.f0, (rd_T40 y518 (wrap64 (Int.tmod (IntKind.u64.wrap (a1)) (IntKind.u64.wrap ((l0_5.length : Int)))))).f3.f1⟩ : S38)⟩ : S40))) else (none)) else (none))) else (none)))))))) else (none)) = some r := H
 have A3 := Aside0.mk A30
 clear A30
 by_cases c4 : t510 = true
 ·subst c4
  have H1 : ((truantlaw09_wide.f k a0_0 l0_1 a0_2 l0_3 l0_4 l0_5).bind fun t511 => (if t511 = true then (some true) else (if (l0_5.length : Int) = 0 then (some true) else ((flow_Ahead.f k a0_0 l0_1 a0_2 l0_3 l0_4 l0_5).bind fun t512 => (if (IntKind.u64.wrap ((l0_5.length : Int))) = 0 then (none) else ((some (([] : List (S40)) : List (S40))).bind fun y515 => (if y515.length + l0_5.length < 2513169434916 then ((some (y515 ++ l0_5 : List (S40))).bind fun y518 => (if 0 ≤ (wrap64 (Int.tmod (IntKind.u64.wrap (a1)) (IntKind.u64.wrap ((l0_5.length : Int))))) then (if (wrap64 (Int.tmod (IntKind.u64.wrap (a1)) (IntKind.u64.wrap ((l0_5.length : Int))))) < (y518.length : Int) then (truantlaw09_FlowTurned.l0 k t512 (wrap64 (Int.tmod (IntKind.u64.wrap (a1)) (IntKind.u64.wrap ((l0_5.length : Int))))) 0 a0_0 l0_1 a0_2 l0_3 l0_4 l0_5 (⟨#[]⟩ : ByteArray) (⟨#[]⟩ : ByteArray) l0_4 (y518.set ((wrap64 (Int.tmod (IntKind.u64.wrap (a1)) (IntKind.u64.wrap ((l0_5.length : Int))))) : Int).toNat (⟨(rd_T40 y518 (wrap64 (Int.tmod (IntKind.u64.wrap (a1)) (IntKind.u64.wrap ((l0_5.length : Int)))))).f0, 3, (rd_T40 y518 (wrap64 (Int.tmod (IntKind.u64.wrap (a1)) (IntKind.u64.wrap ((l0_5.length : Int)))))).f2, (⟨(rd_T40 y518 (wrap64 (Int.tmod (IntKind.u64.wrap (a1)) (IntKind.u64.wrap ((l0_5.length : Int)))))).f3.f0, (rd_T40 y518 (wrap64 (Int.tmod (IntKind.u64.wrap (a1)) (IntKind.u64.wrap ((l0_5.length : Int)))))).f3.f1⟩ : S38)⟩ : S40))) else (none)) else (none))) else (none)))))))) = some r := by rw [if_pos rfl] at H; exact H
  clear H
  have H := H1
  clear H1
  replace H := Option.bind_eq_some_iff.mp H
  obtain ⟨t511, A50, H⟩ := H
  replace H : (if t511 = true then (some true) else (if (l0_5.length : Int) = 0 then (some true) else ((flow_Ahead.f k a0_0 l0_1 a0_2 l0_3 l0_4 l0_5).bind fun t512 => (if (IntKind.u64.wrap ((l0_5.length : Int))) = 0 then (none) else ((some (([] : List (S40)) : List (S40))).bind fun y515 => (if y515.length + l0_5.length < 2513169434916 then ((some (y515 ++ l0_5 : List (S40))).bind fun y518 => (if 0 ≤ (wrap64 (Int.tmod (IntKind.u64.wrap (a1)) (IntKind.u64.wrap ((l0_5.length : Int))))) then (if (wrap64 (Int.tmod (IntKind.u64.wrap (a1)) (IntKind.u64.wrap ((l0_5.length : Int))))) < (y518.length : Int) then (truantlaw09_FlowTurned.l0 k t512 (wrap64 (Int.tmod (IntKind.u64.wrap (a1)) (IntKind.u64.wrap ((l0_5.length : Int))))) 0 a0_0 l0_1 a0_2 l0_3 l0_4 l0_5 (⟨#[]⟩ : ByteArray) (⟨#[]⟩ : ByteArray) l0_4 (y518.set ((wrap64 (Int.tmod (IntKind.u64.wrap (a1)) (IntKind.u64.wrap ((l0_5.length : Int))))) : Int).toNat (⟨(rd_T40 y518 (wrap64 (Int.tmod (IntKind.u64.wrap (a1)) (IntKind.u64.wrap ((l0_5.length : Int)))))).f0, 3, (rd_T40 y518 (wrap64 (Int.tmod (IntKind.u64.wrap (a1)) (IntKind.u64.wrap ((l0_5.length : Int)))))).f2, (⟨(rd_T40 y518 (wrap64 (Int.tmod (IntKind.u64.wrap (a1)) (IntKind.u64.wrap ((l0_5.length : Int)))))).f3.f0, (rd_T40 y518 (wrap64 (Int.tmod (IntKind.u64.wrap (a1)) (IntKind.u64.wrap ((l0_5.length : Int)))))).f3.f1⟩ : S38)⟩ : S40))) else (none)) else (none))) else (none))))))) = some r := H
  have A5 := Aside0.mk A50
  clear A50
  by_cases c6 : t511 = true
  ·subst c6
   have H1 : (some true) = some r := by rw [if_pos rfl] at H; exact H
   clear H
   have H := H1
   clear H1
   obtain rfl := Option.some.inj H
   go_enter Try.func6, Try.ntmps6
   go_wp2_with (first | ((with_reducible refine gate_dst (N := 2) rfl ?_); (try (refine gate_guard (by rfl) ?_; dsimp only)); refine box_event ?hg (N := 2) ?hd (cs := #[.string a0_0, .slice A0_1 l0_1.length c0_1, .string a0_2, .slice A0_3 l0_3.length c0_3, .slice A0_4 l0_4.length c0_4, .slice A0_5 l0_5.length c0_5]) (t := 26) ?hr ?_; (case hd => rfl); (case hg => rfl); (case hr => first | (go_simp; done) | (go_simp; rfl)); intro gb509 hg w7 hbox hb; have n0_ := Aside0.mk (Kd.V_below (Kd.V_elderB (by (with_reducible repeat (first | apply Kd.V_alloc | apply Kd.V_drewN | apply Kd.V_drew)); exact HO0_5.out) gb509 (Nat.le_of_eq hg.symm)) hb); have n1_ := Aside0.mk (below_step (by repeat (first | (with_reducible first | exact HB.out | apply below_alloc | apply pw_below_drewN | apply below_drew1) | exact HB.out)) hb); have n2_ := Aside0.mk (hbox); have n3_ := Aside0.mk ((by rw [hg]; exact (below_size (by repeat (first | (with_reducible first | exact HB.out | apply below_alloc | apply pw_below_drewN | apply below_drew1) | exact HB.out))) : w.heap.size ≤ gb509)); have n4_ := Aside0.mk ((by rw [hg]; exact (below_size (by repeat (first | (with_reducible first | exact HB.out | apply below_alloc | apply pw_below_drewN | apply below_drew1) | exact HB.out))) : w.heap.size ≤ gb509)); clear HO0_5; clear HB; have HO0_5 := n0_; have HB := n1_; have BK509 := n2_; have GW509 := n3_; have GE509 := n4_; clear n0_ n1_ n2_ n3_ n4_; clear hb hbox hg) | ((with_reducible refine gate_callee (f := 14) rfl ?_); refine goesL_ (some 16) rfl rfl Try.func14 (by kernel_rfl) rfl #[] rfl (by (try simp only [List.map_toArray, List.map_cons, List.map_nil]); first | done | rfl | (simp only [List.length_drop, List.length_take]; rfl)) ?_; (with_reducible refine (truantlaw09_awake.calls k  true _ A3.out).mono ?_); rintro e w8 ⟨rfl, hb⟩; refine ⟨_, rfl, ?_⟩; have n0_ := Aside0.mk (Kd.V_below (by (with_reducible repeat (first | apply Kd.V_alloc | apply Kd.V_drewN | apply Kd.V_drew)); exact HO0_5.out) hb); have n1_ := Aside0.mk (blk_below (g := gb509) (o := .cells #[.string a0_0, .slice A0_1 l0_1.length c0_1, .string a0_2, .slice A0_3 l0_3.length c0_3, .slice A0_4 l0_4.length c0_4, .slice A0_5 l0_5.length c0_5] 26 (0, 0)) (by (with_reducible repeat (first | refine blk_drewN ?_ _ | refine blk_drew ?_ | refine blk_alloc ?_ _)); exact BK509.out) hb); have n2_ := Aside0.mk (below_step (by repeat (first | (with_reducible first | exact HB.out | apply below_alloc | apply pw_below_drewN | apply below_drew1 | refine below_set ?_ GE509.out) | exact HB.out)) hb); clear HO0_5; clear BK509; clear HB; have HO0_5 := n0_; have BK509 := n1_; have HB := n2_; clear n0_ n1_ n2_; (try clear hb); (try clear hb2); (try clear hk); (try clear hi); have hcz9_0 : w8.cell? ⟨gb509, 0, none⟩ = some (.string a0_0) := (blk_cell BK509.out 0).trans rfl; have hcz9_1 : w8.cell? ⟨gb509, 1, none⟩ = some (.slice A0_1 l0_1.length c0_1) := (blk_cell BK509.out 1).trans rfl; have hcz9_2 : w8.cell? ⟨gb509, 2, none⟩ = some (.string a0_2) := (blk_cell BK509.out 2).trans rfl; have hcz9_3 : w8.cell? ⟨gb509, 3, none⟩ = some (.slice A0_3 l0_3.length c0_3) := (blk_cell BK509.out 3).trans rfl; have hcz9_4 : w8.cell? ⟨gb509, 4, none⟩ = some (.slice A0_4 l0_4.length c0_4) := (blk_cell BK509.out 4).trans rfl; have hcz9_5 : w8.cell? ⟨gb509, 5, none⟩ = some (.slice A0_5 l0_5.length c0_5) := (blk_cell BK509.out 5).trans rfl; have hfz9_0 := blk_frozen BK509.out 0; have hfz9_1 := blk_frozen BK509.out 1; have hfz9_2 := blk_frozen BK509.out 2; have hfz9_3 := blk_frozen BK509.out 3; have hfz9_4 := blk_frozen BK509.out 4; have hfz9_5 := blk_frozen BK509.out 5) | ((with_reducible refine gate_callee (f := 15) rfl ?_); refine goesL_ (some 19) rfl rfl Try.func15 (by kernel_rfl) rfl #[.agg #[.string a0_0, .slice A0_1 l0_1.length c0_1, .string a0_2, .slice A0_3 l0_3.length c0_3, .slice A0_4 l0_4.length c0_4, .slice A0_5 l0_5.length c0_5]] rfl (by (try simp only [List.map_toArray, List.map_cons, List.map_nil]); first | done | rfl | (simp only [List.length_drop, List.length_take]; rfl)) ?_; (with_reducible refine (truantlaw09_wide.calls k a0_0 _ _ l0_1 a0_2 _ _ l0_3 _ _ l0_4 _ _ l0_5 true _ ?side1 ?side2 ?side3 ?side4 ?side5 ?side6 ?side7 ?side8 A5.out).mono ?_); (case side1 => repeat (first | exact (Kd.C_below HR0_1.out HB.out) | (with_reducible refine Kd.C_alloc ?_ _) | (with_reducible refine Kd.C_drewN ?_ _) | (with_reducible refine Kd.C_drew ?_))); (case side2 => exact HC0_1.out); (case side3 => repeat (first | exact (Kd.C_below HR0_3.out HB.out) | (with_reducible refine Kd.C_alloc ?_ _) | (with_reducible refine Kd.C_drewN ?_ _) | (with_reducible refine Kd.C_drew ?_))); (case side4 => exact HC0_3.out); (case side5 => repeat (first | exact (Kd.C_below HR0_4.out HB.out) | (with_reducible refine Kd.C_alloc ?_ _) | (with_reducible refine Kd.C_drewN ?_ _) | (with_reducible refine Kd.C_drew ?_))); (case side6 => exact HC0_4.out); (case side7 => repeat (first | exact (Kd.V_reads' HO0_5.out).2.2 | (with_reducible refine Kd.C_alloc ?_ _) | (with_reducible refine Kd.C_drewN ?_ _) | (with_reducible refine Kd.C_drew ?_))); (case side8 => exact (Kd.V_reads' HO0_5.out).2.1); rintro e w10 ⟨rfl, hb⟩; refine ⟨_, rfl, ?_⟩; have n0_ := Aside0.mk (Kd.V_below (by (with_reducible repeat (first | apply Kd.V_alloc | apply Kd.V_drewN | apply Kd.V_drew)); exact HO0_5.out) hb); have n1_ := Aside0.mk (blk_below (g := gb509) (o := .cells #[.string a0_0, .slice A0_1 l0_1.length c0_1, .string a0_2, .slice A0_3 l0_3.length c0_3, .slice A0_4 l0_4.length c0_4, .slice A0_5 l0_5.length c0_5] 26 (0, 0)) (by (with_reducible repeat (first | refine blk_drewN ?_ _ | refine blk_drew ?_ | refine blk_alloc ?_ _)); exact BK509.out) hb); have n2_ := Aside0.mk (below_step (by repeat (first | (with_reducible first | exact HB.out | apply below_alloc | apply pw_below_drewN | apply below_drew1 | refine below_set ?_ GE509.out) | exact HB.out)) hb); clear HO0_5; clear BK509; clear HB; have HO0_5 := n0_; have BK509 := n1_; have HB := n2_; clear n0_ n1_ n2_; (try clear hb); (try clear hb2); (try clear hk); (try clear hi)))
   go_ret
   exact ⟨by first | rfl | (simp [errW_none, errW_some] <;> rfl) | (simp [*, errW_none, errW_some] <;> rfl), by repeat (first | (with_reducible first | exact HB.out | apply below_alloc | apply pw_below_drewN | apply below_drew1 | refine below_set ?_ GE509.out) | exact HB.out)⟩
  ·replace c6 := Bool.eq_false_iff.mpr c6
   subst c6
   have H1 : (if (l0_5.length : Int) = 0 then (some true) else ((flow_Ahead.f k a0_0 l0_1 a0_2 l0_3 l0_4 l0_5).bind fun t512 => (if (IntKind.u64.wrap ((l0_5.length : Int))) = 0 then (none) else ((some (([] : List (S40)) : List (S40))).bind fun y515 => (if y515.length + l0_5.length < 2513169434916 then ((some (y515 ++ l0_5 : List (S40))).bind fun y518 => (if 0 ≤ (wrap64 (Int.tmod (IntKind.u64.wrap (a1)) (IntKind.u64.wrap ((l0_5.length : Int))))) then (if (wrap64 (Int.tmod (IntKind.u64.wrap (a1)) (IntKind.u64.wrap ((l0_5.length : Int))))) < (y518.length : Int) then (truantlaw09_FlowTurned.l0 k t512 (wrap64 (Int.tmod (IntKind.u64.wrap (a1)) (IntKind.u64.wrap ((l0_5.length : Int))))) 0 a0_0 l0_1 a0_2 l0_3 l0_4 l0_5 (⟨#[]⟩ : ByteArray) (⟨#[]⟩ : ByteArray) l0_4 (y518.set ((wrap64 (Int.tmod (IntKind.u64.wrap (a1)) (IntKind.u64.wrap ((l0_5.length : Int))))) : Int).toNat (⟨(rd_T40 y518 (wrap64 (Int.tmod (IntKind.u64.wrap (a1)) (IntKind.u64.wrap ((l0_5.length : Int)))))).f0, 3, (rd_T40 y518 (wrap64 (Int.tmod (IntKind.u64.wrap (a1)) (IntKind.u64.wrap ((l0_5.length : Int)))))).f2, (⟨(rd_T40 y518 (wrap64 (Int.tmod (IntKind.u64.wrap (a1)) (IntKind.u64.wrap ((l0_5.length : Int)))))).f3.f0, (rd_T40 y518 (wrap64 (Int.tmod (IntKind.u64.wrap (a1)) (IntKind.u64.wrap ((l0_5.length : Int)))))).f3.f1⟩ : S38)⟩ : S40))) else (none)) else (none))) else (none)))))) = some r := by rw [if_neg (show ¬ (false = true) by decide)] at H; exact H
   clear H
   have H := H1
   clear H1
   by_cases c11 : (l0_5.length : Int) = 0
   ·rw [if_pos c11] at H
    have c11b0 : ((l0_5.length : Int) == 0) = true := beq_iff_eq.mpr c11
    have c11b1 : ((l0_5.length : Int) != 0) = false := bne_eq_false_iff_eq.mpr c11
    clear c11
    obtain rfl := Option.some.inj H
    go_enter Try.func6, Try.ntmps6
    go_wp2_with (first | ((with_reducible refine gate_dst (N := 2) rfl ?_); (try (refine gate_guard (by rfl) ?_; dsimp only)); refine box_event ?hg (N := 2) ?hd (cs := #[.string a0_0, .slice A0_1 l0_1.length c0_1, .string a0_2, .slice A0_3 l0_3.length c0_3, .slice A0_4 l0_4.length c0_4, .slice A0_5 l0_5.length c0_5]) (t := 26) ?hr ?_; (case hd => rfl); (case hg => rfl); (case hr => first | (go_simp; done) | (go_simp; rfl)); intro gb509 hg w12 hbox hb; have n0_ := Aside0.mk (Kd.V_below (Kd.V_elderB (by (with_reducible repeat (first | apply Kd.V_alloc | apply Kd.V_drewN | apply Kd.V_drew)); exact HO0_5.out) gb509 (Nat.le_of_eq hg.symm)) hb); have n1_ := Aside0.mk (below_step (by repeat (first | (with_reducible first | exact HB.out | apply below_alloc | apply pw_below_drewN | apply below_drew1) | exact HB.out)) hb); have n2_ := Aside0.mk (hbox); have n3_ := Aside0.mk ((by rw [hg]; exact (below_size (by repeat (first | (with_reducible first | exact HB.out | apply below_alloc | apply pw_below_drewN | apply below_drew1) | exact HB.out))) : w.heap.size ≤ gb509)); have n4_ := Aside0.mk ((by rw [hg]; exact (below_size (by repeat (first | (with_reducible first | exact HB.out | apply below_alloc | apply pw_below_drewN | apply below_drew1) | exact HB.out))) : w.heap.size ≤ gb509)); clear HO0_5; clear HB; have HO0_5 := n0_; have HB := n1_; have BK509 := n2_; have GW509 := n3_; have GE509 := n4_; clear n0_ n1_ n2_ n3_ n4_; clear hb hbox hg) | ((with_reducible refine gate_callee (f := 14) rfl ?_); refine goesL_ (some 16) rfl rfl Try.func14 (by kernel_rfl) rfl #[] rfl (by (try simp only [List.map_toArray, List.map_cons, List.map_nil]); first | done | rfl | (simp only [List.length_drop, List.length_take]; rfl)) ?_; (with_reducible refine (truantlaw09_awake.calls k  true _ A3.out).mono ?_); rintro e w13 ⟨rfl, hb⟩; refine ⟨_, rfl, ?_⟩; have n0_ := Aside0.mk (Kd.V_below (by (with_reducible repeat (first | apply Kd.V_alloc | apply Kd.V_drewN | apply Kd.V_drew)); exact HO0_5.out) hb); have n1_ := Aside0.mk (blk_below (g := gb509) (o := .cells #[.string a0_0, .slice A0_1 l0_1.length c0_1, .string a0_2, .slice A0_3 l0_3.length c0_3, .slice A0_4 l0_4.length c0_4, .slice A0_5 l0_5.length c0_5] 26 (0, 0)) (by (with_reducible repeat (first | refine blk_drewN ?_ _ | refine blk_drew ?_ | refine blk_alloc ?_ _)); exact BK509.out) hb); have n2_ := Aside0.mk (below_step (by repeat (first | (with_reducible first | exact HB.out | apply below_alloc | apply pw_below_drewN | apply below_drew1 | refine below_set ?_ GE509.out) | exact HB.out)) hb); clear HO0_5; clear BK509; clear HB; have HO0_5 := n0_; have BK509 := n1_; have HB := n2_; clear n0_ n1_ n2_; (try clear hb); (try clear hb2); (try clear hk); (try clear hi); have hcz14_0 : w13.cell? ⟨gb509, 0, none⟩ = some (.string a0_0) := (blk_cell BK509.out 0).trans rfl; have hcz14_1 : w13.cell? ⟨gb509, 1, none⟩ = some (.slice A0_1 l0_1.length c0_1) := (blk_cell BK509.out 1).trans rfl; have hcz14_2 : w13.cell? ⟨gb509, 2, none⟩ = some (.string a0_2) := (blk_cell BK509.out 2).trans rfl; have hcz14_3 : w13.cell? ⟨gb509, 3, none⟩ = some (.slice A0_3 l0_3.length c0_3) := (blk_cell BK509.out 3).trans rfl; have hcz14_4 : w13.cell? ⟨gb509, 4, none⟩ = some (.slice A0_4 l0_4.length c0_4) := (blk_cell BK509.out 4).trans rfl; have hcz14_5 : w13.cell? ⟨gb509, 5, none⟩ = some (.slice A0_5 l0_5.length c0_5) := (blk_cell BK509.out 5).trans rfl; have hfz14_0 := blk_frozen BK509.out 0; have hfz14_1 := blk_frozen BK509.out 1; have hfz14_2 := blk_frozen BK509.out 2; have hfz14_3 := blk_frozen BK509.out 3; have hfz14_4 := blk_frozen BK509.out 4; have hfz14_5 := blk_frozen BK509.out 5) | ((with_reducible refine gate_callee (f := 15) rfl ?_); refine goesL_ (some 19) rfl rfl Try.func15 (by kernel_rfl) rfl #[.agg #[.string a0_0, .slice A0_1 l0_1.length c0_1, .string a0_2, .slice A0_3 l0_3.length c0_3, .slice A0_4 l0_4.length c0_4, .slice A0_5 l0_5.length c0_5]] rfl (by (try simp only [List.map_toArray, List.map_cons, List.map_nil]); first | done | rfl | (simp only [List.length_drop, List.length_take]; rfl)) ?_; (with_reducible refine (truantlaw09_wide.calls k a0_0 _ _ l0_1 a0_2 _ _ l0_3 _ _ l0_4 _ _ l0_5 false _ ?side1 ?side2 ?side3 ?side4 ?side5 ?side6 ?side7 ?side8 A5.out).mono ?_); (case side1 => repeat (first | exact (Kd.C_below HR0_1.out HB.out) | (with_reducible refine Kd.C_alloc ?_ _) | (with_reducible refine Kd.C_drewN ?_ _) | (with_reducible refine Kd.C_drew ?_))); (case side2 => exact HC0_1.out); (case side3 => repeat (first | exact (Kd.C_below HR0_3.out HB.out) | (with_reducible refine Kd.C_alloc ?_ _) | (with_reducible refine Kd.C_drewN ?_ _) | (with_reducible refine Kd.C_drew ?_))); (case side4 => exact HC0_3.out); (case side5 => repeat (first | exact (Kd.C_below HR0_4.out HB.out) | (with_reducible refine Kd.C_alloc ?_ _) | (with_reducible refine Kd.C_drewN ?_ _) | (with_reducible refine Kd.C_drew ?_))); (case side6 => exact HC0_4.out); (case side7 => repeat (first | exact (Kd.V_reads' HO0_5.out).2.2 | (with_reducible refine Kd.C_alloc ?_ _) | (with_reducible refine Kd.C_drewN ?_ _) | (with_reducible refine Kd.C_drew ?_))); (case side8 => exact (Kd.V_reads' HO0_5.out).2.1); rintro e w15 ⟨rfl, hb⟩; refine ⟨_, rfl, ?_⟩; have n0_ := Aside0.mk (Kd.V_below (by (with_reducible repeat (first | apply Kd.V_alloc | apply Kd.V_drewN | apply Kd.V_drew)); exact HO0_5.out) hb); have n1_ := Aside0.mk (blk_below (g := gb509) (o := .cells #[.string a0_0, .slice A0_1 l0_1.length c0_1, .string a0_2, .slice A0_3 l0_3.length c0_3, .slice A0_4 l0_4.length c0_4, .slice A0_5 l0_5.length c0_5] 26 (0, 0)) (by (with_reducible repeat (first | refine blk_drewN ?_ _ | refine blk_drew ?_ | refine blk_alloc ?_ _)); exact BK509.out) hb); have n2_ := Aside0.mk (below_step (by repeat (first | (with_reducible first | exact HB.out | apply below_alloc | apply pw_below_drewN | apply below_drew1 | refine below_set ?_ GE509.out) | exact HB.out)) hb); clear HO0_5; clear BK509; clear HB; have HO0_5 := n0_; have BK509 := n1_; have HB := n2_; clear n0_ n1_ n2_; (try clear hb); (try clear hb2); (try clear hk); (try clear hi); have hcz16_0 : w15.cell? ⟨gb509, 0, none⟩ = some (.string a0_0) := (blk_cell BK509.out 0).trans rfl; have hcz16_1 : w15.cell? ⟨gb509, 1, none⟩ = some (.slice A0_1 l0_1.length c0_1) := (blk_cell BK509.out 1).trans rfl; have hcz16_2 : w15.cell? ⟨gb509, 2, none⟩ = some (.string a0_2) := (blk_cell BK509.out 2).trans rfl; have hcz16_3 : w15.cell? ⟨gb509, 3, none⟩ = some (.slice A0_3 l0_3.length c0_3) := (blk_cell BK509.out 3).trans rfl; have hcz16_4 : w15.cell? ⟨gb509, 4, none⟩ = some (.slice A0_4 l0_4.length c0_4) := (blk_cell BK509.out 4).trans rfl; have hcz16_5 : w15.cell? ⟨gb509, 5, none⟩ = some (.slice A0_5 l0_5.length c0_5) := (blk_cell BK509.out 5).trans rfl; have hfz16_0 := blk_frozen BK509.out 0; have hfz16_1 := blk_frozen BK509.out 1; have hfz16_2 := blk_frozen BK509.out 2; have hfz16_3 := blk_frozen BK509.out 3; have hfz16_4 := blk_frozen BK509.out 4; have hfz16_5 := blk_frozen BK509.out 5))
    go_ret
    exact ⟨by first | rfl | (simp [errW_none, errW_some] <;> rfl) | (simp [*, errW_none, errW_some] <;> rfl), by repeat (first | (with_reducible first | exact HB.out | apply below_alloc | apply pw_below_drewN | apply below_drew1 | refine below_set ?_ GE509.out) | exact HB.out)⟩
   ·rw [if_neg c11] at H
    have c11b0 : ((l0_5.length : Int) == 0) = false := beq_eq_false_iff_ne.mpr c11
    have c11b1 : ((l0_5.length : Int) != 0) = true := bne_iff_ne.mpr c11
    have c11b2 : ¬ (l0_5 = []) := fun h_ => c11 (by rw [h_]; rfl)
    replace H := Option.bind_eq_some_iff.mp H
    obtain ⟨t512, A170, H⟩ := H
    replace H : (if (IntKind.u64.wrap ((l0_5.length : Int))) = 0 then (none) else ((some (([] : List (S40)) : List (S40))).bind fun y515 => (if y515.length + l0_5.length < 2513169434916 then ((some (y515 ++ l0_5 : List (S40))).bind fun y518 => (if 0 ≤ (wrap64 (Int.tmod (IntKind.u64.wrap (a1)) (IntKind.u64.wrap ((l0_5.length : Int))))) then (if (wrap64 (Int.tmod (IntKind.u64.wrap (a1)) (IntKind.u64.wrap ((l0_5.length : Int))))) < (y518.length : Int) then (truantlaw09_FlowTurned.l0 k t512 (wrap64 (Int.tmod (IntKind.u64.wrap (a1)) (IntKind.u64.wrap ((l0_5.length : Int))))) 0 a0_0 l0_1 a0_2 l0_3 l0_4 l0_5 (⟨#[]⟩ : ByteArray) (⟨#[]⟩ : ByteArray) l0_4 (y518.set ((wrap64 (Int.tmod (IntKind.u64.wrap (a1)) (IntKind.u64.wrap ((l0_5.length : Int))))) : Int).toNat (⟨(rd_T40 y518 (wrap64 (Int.tmod (IntKind.u64.wrap (a1)) (IntKind.u64.wrap ((l0_5.length : Int)))))).f0, 3, (rd_T40 y518 (wrap64 (Int.tmod (IntKind.u64.wrap (a1)) (IntKind.u64.wrap ((l0_5.length : Int)))))).f2, (⟨(rd_T40 y518 (wrap64 (Int.tmod (IntKind.u64.wrap (a1)) (IntKind.u64.wrap ((l0_5.length : Int)))))).f3.f0, (rd_T40 y518 (wrap64 (Int.tmod (IntKind.u64.wrap (a1)) (IntKind.u64.wrap ((l0_5.length : Int)))))).f3.f1⟩ : S38)⟩ : S40))) else (none)) else (none))) else (none)))) = some r := H
    have A17 := Aside0.mk A170
    clear A170
    by_cases c18 : (IntKind.u64.wrap ((l0_5.length : Int))) = 0
    ·rw [if_pos c18] at H
     exact absurd H (by simp)
    ·rw [if_neg c18] at H
     have c18b0 : ((IntKind.u64.wrap ((l0_5.length : Int))) == 0) = false := beq_eq_false_iff_ne.mpr c18
     have c18b1 : ((IntKind.u64.wrap ((l0_5.length : Int))) != 0) = true := bne_iff_ne.mpr c18
     obtain ⟨y515, hy515⟩ : ∃ y_ : List (S40), y_ = (([] : List (S40))) := ⟨_, rfl⟩
     replace H : (if y515.length + l0_5.length < 2513169434916 then ((some (y515 ++ l0_5 : List (S40))).bind fun y518 => (if 0 ≤ (wrap64 (Int.tmod (IntKind.u64.wrap (a1)) (IntKind.u64.wrap ((l0_5.length : Int))))) then (if (wrap64 (Int.tmod (IntKind.u64.wrap (a1)) (IntKind.u64.wrap ((l0_5.length : Int))))) < (y518.length : Int) then (truantlaw09_FlowTurned.l0 k t512 (wrap64 (Int.tmod (IntKind.u64.wrap (a1)) (IntKind.u64.wrap ((l0_5.length : Int))))) 0 a0_0 l0_1 a0_2 l0_3 l0_4 l0_5 (⟨#[]⟩ : ByteArray) (⟨#[]⟩ : ByteArray) l0_4 (y518.set ((wrap64 (Int.tmod (IntKind.u64.wrap (a1)) (IntKind.u64.wrap ((l0_5.length : Int))))) : Int).toNat (⟨(rd_T40 y518 (wrap64 (Int.tmod (IntKind.u64.wrap (a1)) (IntKind.u64.wrap ((l0_5.length : Int)))))).f0, 3, (rd_T40 y518 (wrap64 (Int.tmod (IntKind.u64.wrap (a1)) (IntKind.u64.wrap ((l0_5.length : Int)))))).f2, (⟨(rd_T40 y518 (wrap64 (Int.tmod (IntKind.u64.wrap (a1)) (IntKind.u64.wrap ((l0_5.length : Int)))))).f3.f0, (rd_T40 y518 (wrap64 (Int.tmod (IntKind.u64.wrap (a1)) (IntKind.u64.wrap ((l0_5.length : Int)))))).f3.f1⟩ : S38)⟩ : S40))) else (none)) else (none))) else (none)) = some r := by first | (rw [hy515]; with_reducible exact H) | (have H2_ := (Option.bind_some _ _).symm.trans H; rw [hy515]; with_reducible exact H2_) | (have H2_ := (Option.bind_some _ _).symm.trans H; with_reducible exact H2_) | with_reducible exact H | (rw [hy515]; exact H) | exact H
     have Ny515 := Aside0.mk hy515
     clear hy515
     by_cases c19 : y515.length + l0_5.length < 2513169434916
     ·rw [if_pos c19] at H
      have LMc19 := Aside0.mk c19
      clear c19
      obtain ⟨y518, hy518⟩ : ∃ y_ : List (S40), y_ = (y515 ++ l0_5) := ⟨_, rfl⟩
      replace H : (if 0 ≤ (wrap64 (Int.tmod (IntKind.u64.wrap (a1)) (IntKind.u64.wrap ((l0_5.length : Int))))) then (if (wrap64 (Int.tmod (IntKind.u64.wrap (a1)) (IntKind.u64.wrap ((l0_5.length : Int))))) < (y518.length : Int) then (truantlaw09_FlowTurned.l0 k t512 (wrap64 (Int.tmod (IntKind.u64.wrap (a1)) (IntKind.u64.wrap ((l0_5.length : Int))))) 0 a0_0 l0_1 a0_2 l0_3 l0_4 l0_5 (⟨#[]⟩ : ByteArray) (⟨#[]⟩ : ByteArray) l0_4 (y518.set ((wrap64 (Int.tmod (IntKind.u64.wrap (a1)) (IntKind.u64.wrap ((l0_5.length : Int))))) : Int).toNat (⟨(rd_T40 y518 (wrap64 (Int.tmod (IntKind.u64.wrap (a1)) (IntKind.u64.wrap ((l0_5.length : Int)))))).f0, 3, (rd_T40 y518 (wrap64 (Int.tmod (IntKind.u64.wrap (a1)) (IntKind.u64.wrap ((l0_5.length : Int)))))).f2, (⟨(rd_T40 y518 (wrap64 (Int.tmod (IntKind.u64.wrap (a1)) (IntKind.u64.wrap ((l0_5.length : Int)))))).f3.f0, (rd_T40 y518 (wrap64 (Int.tmod (IntKind.u64.wrap (a1)) (IntKind.u64.wrap ((l0_5.length : Int)))))).f3.f1⟩ : S38)⟩ : S40))) else (none)) else (none)) = some r := by first | (rw [hy518]; with_reducible exact H) | (have H2_ := (Option.bind_some _ _).symm.trans H; rw [hy518]; with_reducible exact H2_) | (have H2_ := (Option.bind_some _ _).symm.trans H; with_reducible exact H2_) | with_reducible exact H | (rw [hy518]; exact H) | exact H
      have Ny518 := Aside0.mk hy518
      clear hy518
      obtain ⟨ji20, hji20⟩ : ∃ j_ : Int, (wrap64 (Int.tmod (IntKind.u64.wrap (a1)) (IntKind.u64.wrap ((l0_5.length : Int))))) = j_ := ⟨_, rfl⟩
      replace H : (if 0 ≤ (ji20) then (if (ji20) < (y518.length : Int) then (truantlaw09_FlowTurned.l0 k t512 ji20 0 a0_0 l0_1 a0_2 l0_3 l0_4 l0_5 (⟨#[]⟩ : ByteArray) (⟨#[]⟩ : ByteArray) l0_4 (y518.set ((ji20) : Int).toNat (⟨(rd_T40 y518 (ji20)).f0, 3, (rd_T40 y518 (ji20)).f2, (⟨(rd_T40 y518 (ji20)).f3.f0, (rd_T40 y518 (ji20)).f3.f1⟩ : S38)⟩ : S40))) else (none)) else (none)) = some r := by first | (rw [hji20] at H; exact H) | (simp only [hji20] at H ⊢; exact H)
      (try rw [hji20] at A3)
      (try rw [hji20] at A5)
      (try rw [hji20] at A17)
      have hji20w : (IntKind.i64.wrap (Int.tmod (IntKind.u64.wrap (a1)) (IntKind.u64.wrap ((l0_5.length : Int))))) = ji20 := (i64_w _).trans hji20
      by_cases c21 : 0 ≤ (ji20)
      ·rw [if_pos c21] at H
       have c21b0 : decide (0 ≤ (ji20)) = true := decide_eq_true c21
       clear c21
       by_cases c22 : (ji20) < (y518.length : Int)
       ·rw [if_pos c22] at H
        have c22b0 : decide ((ji20) < (y518.length : Int)) = true := decide_eq_true c22
        clear c22
        obtain ⟨y522, hy522⟩ : ∃ y_ : List (S40), y_ = (y518.set ((ji20) : Int).toNat (⟨(rd_T40 y518 (ji20)).f0, 3, (rd_T40 y518 (ji20)).f2, (⟨(rd_T40 y518 (ji20)).f3.f0, (rd_T40 y518 (ji20)).f3.f1⟩ : S38)⟩ : S40)) := ⟨_, rfl⟩
        replace H : (truantlaw09_FlowTurned.l0 k t512 ji20 0 a0_0 l0_1 a0_2 l0_3 l0_4 l0_5 (⟨#[]⟩ : ByteArray) (⟨#[]⟩ : ByteArray) l0_4 y522) = some r := by first | (rw [hy522]; with_reducible exact H) | (have H2_ := (Option.bind_some _ _).symm.trans H; rw [hy522]; with_reducible exact H2_) | (have H2_ := (Option.bind_some _ _).symm.trans H; with_reducible exact H2_) | with_reducible exact H | (rw [hy522]; exact H) | exact H
        have Ny522 := Aside0.mk hy522
        clear hy522
        have H' := Aside0.mk H
        clear H
        go_enter Try.func6, Try.ntmps6
        try go_wp2_with (first | ((with_reducible refine gate_dst (N := 2) rfl ?_); (try (refine gate_guard (by rfl) ?_; dsimp only)); refine box_event ?hg (N := 2) ?hd (cs := #[.string a0_0, .slice A0_1 l0_1.length c0_1, .string a0_2, .slice A0_3 l0_3.length c0_3, .slice A0_4 l0_4.length c0_4, .slice A0_5 l0_5.length c0_5]) (t := 26) ?hr ?_; (case hd => rfl); (case hg => rfl); (case hr => first | (go_simp; done) | (go_simp; rfl)); intro gb509 hg w24 hbox hb; have n0_ := Aside0.mk (Kd.V_below (Kd.V_elderB (by (with_reducible repeat (first | apply Kd.V_alloc | apply Kd.V_drewN | apply Kd.V_drew)); exact HO0_5.out) gb509 (Nat.le_of_eq hg.symm)) hb); have n1_ := Aside0.mk (below_step (by repeat (first | (with_reducible first | exact HB.out | apply below_alloc | apply pw_below_drewN | apply below_drew1) | exact HB.out)) hb); have n2_ := Aside0.mk (hbox); have n3_ := Aside0.mk ((by rw [hg]; exact (below_size (by repeat (first | (with_reducible first | exact HB.out | apply below_alloc | apply pw_below_drewN | apply below_drew1) | exact HB.out))) : w.heap.size ≤ gb509)); have n4_ := Aside0.mk ((by rw [hg]; exact (below_size (by repeat (first | (with_reducible first | exact HB.out | apply below_alloc | apply pw_below_drewN | apply below_drew1) | exact HB.out))) : w.heap.size ≤ gb509)); clear HO0_5; clear HB; have HO0_5 := n0_; have HB := n1_; have BK509 := n2_; have GW509 := n3_; have GE509 := n4_; clear n0_ n1_ n2_ n3_ n4_; clear hb hbox hg) | ((with_reducible refine gate_callee (f := 14) rfl ?_); refine goesL_ (some 16) rfl rfl Try.func14 (by kernel_rfl) rfl #[] rfl (by (try simp only [List.map_toArray, List.map_cons, List.map_nil]); first | done | rfl | (simp only [List.length_drop, List.length_take]; rfl)) ?_; (with_reducible refine (truantlaw09_awake.calls k  true _ A3.out).mono ?_); rintro e w25 ⟨rfl, hb⟩; refine ⟨_, rfl, ?_⟩; have n0_ := Aside0.mk (Kd.V_below (by (with_reducible repeat (first | apply Kd.V_alloc | apply Kd.V_drewN | apply Kd.V_drew)); exact HO0_5.out) hb); have n1_ := Aside0.mk (blk_below (g := gb509) (o := .cells #[.string a0_0, .slice A0_1 l0_1.length c0_1, .string a0_2, .slice A0_3 l0_3.length c0_3, .slice A0_4 l0_4.length c0_4, .slice A0_5 l0_5.length c0_5] 26 (0, 0)) (by (with_reducible repeat (first | refine blk_drewN ?_ _ | refine blk_drew ?_ | refine blk_alloc ?_ _)); exact BK509.out) hb); have n2_ := Aside0.mk (below_step (by repeat (first | (with_reducible first | exact HB.out | apply below_alloc | apply pw_below_drewN | apply below_drew1 | refine below_set ?_ GE509.out) | exact HB.out)) hb); clear HO0_5; clear BK509; clear HB; have HO0_5 := n0_; have BK509 := n1_; have HB := n2_; clear n0_ n1_ n2_; (try clear hb); (try clear hb2); (try clear hk); (try clear hi); have hcz26_0 : w25.cell? ⟨gb509, 0, none⟩ = some (.string a0_0) := (blk_cell BK509.out 0).trans rfl; have hcz26_1 : w25.cell? ⟨gb509, 1, none⟩ = some (.slice A0_1 l0_1.length c0_1) := (blk_cell BK509.out 1).trans rfl; have hcz26_2 : w25.cell? ⟨gb509, 2, none⟩ = some (.string a0_2) := (blk_cell BK509.out 2).trans rfl; have hcz26_3 : w25.cell? ⟨gb509, 3, none⟩ = some (.slice A0_3 l0_3.length c0_3) := (blk_cell BK509.out 3).trans rfl; have hcz26_4 : w25.cell? ⟨gb509, 4, none⟩ = some (.slice A0_4 l0_4.length c0_4) := (blk_cell BK509.out 4).trans rfl; have hcz26_5 : w25.cell? ⟨gb509, 5, none⟩ = some (.slice A0_5 l0_5.length c0_5) := (blk_cell BK509.out 5).trans rfl; have hfz26_0 := blk_frozen BK509.out 0; have hfz26_1 := blk_frozen BK509.out 1; have hfz26_2 := blk_frozen BK509.out 2; have hfz26_3 := blk_frozen BK509.out 3; have hfz26_4 := blk_frozen BK509.out 4; have hfz26_5 := blk_frozen BK509.out 5) | ((with_reducible refine gate_callee (f := 15) rfl ?_); refine goesL_ (some 19) rfl rfl Try.func15 (by kernel_rfl) rfl #[.agg #[.string a0_0, .slice A0_1 l0_1.length c0_1, .string a0_2, .slice A0_3 l0_3.length c0_3, .slice A0_4 l0_4.length c0_4, .slice A0_5 l0_5.length c0_5]] rfl (by (try simp only [List.map_toArray, List.map_cons, List.map_nil]); first | done | rfl | (simp only [List.length_drop, List.length_take]; rfl)) ?_; (with_reducible refine (truantlaw09_wide.calls k a0_0 _ _ l0_1 a0_2 _ _ l0_3 _ _ l0_4 _ _ l0_5 false _ ?side1 ?side2 ?side3 ?side4 ?side5 ?side6 ?side7 ?side8 A5.out).mono ?_); (case side1 => repeat (first | exact (Kd.C_below HR0_1.out HB.out) | (with_reducible refine Kd.C_alloc ?_ _) | (with_reducible refine Kd.C_drewN ?_ _) | (with_reducible refine Kd.C_drew ?_))); (case side2 => exact HC0_1.out); (case side3 => repeat (first | exact (Kd.C_below HR0_3.out HB.out) | (with_reducible refine Kd.C_alloc ?_ _) | (with_reducible refine Kd.C_drewN ?_ _) | (with_reducible refine Kd.C_drew ?_))); (case side4 => exact HC0_3.out); (case side5 => repeat (first | exact (Kd.C_below HR0_4.out HB.out) | (with_reducible refine Kd.C_alloc ?_ _) | (with_reducible refine Kd.C_drewN ?_ _) | (with_reducible refine Kd.C_drew ?_))); (case side6 => exact HC0_4.out); (case side7 => repeat (first | exact (Kd.V_reads' HO0_5.out).2.2 | (with_reducible refine Kd.C_alloc ?_ _) | (with_reducible refine Kd.C_drewN ?_ _) | (with_reducible refine Kd.C_drew ?_))); (case side8 => exact (Kd.V_reads' HO0_5.out).2.1); rintro e w27 ⟨rfl, hb⟩; refine ⟨_, rfl, ?_⟩; have n0_ := Aside0.mk (Kd.V_below (by (with_reducible repeat (first | apply Kd.V_alloc | apply Kd.V_drewN | apply Kd.V_drew)); exact HO0_5.out) hb); have n1_ := Aside0.mk (blk_below (g := gb509) (o := .cells #[.string a0_0, .slice A0_1 l0_1.length c0_1, .string a0_2, .slice A0_3 l0_3.length c0_3, .slice A0_4 l0_4.length c0_4, .slice A0_5 l0_5.length c0_5] 26 (0, 0)) (by (with_reducible repeat (first | refine blk_drewN ?_ _ | refine blk_drew ?_ | refine blk_alloc ?_ _)); exact BK509.out) hb); have n2_ := Aside0.mk (below_step (by repeat (first | (with_reducible first | exact HB.out | apply below_alloc | apply pw_below_drewN | apply below_drew1 | refine below_set ?_ GE509.out) | exact HB.out)) hb); clear HO0_5; clear BK509; clear HB; have HO0_5 := n0_; have BK509 := n1_; have HB := n2_; clear n0_ n1_ n2_; (try clear hb); (try clear hb2); (try clear hk); (try clear hi); have hcz28_0 : w27.cell? ⟨gb509, 0, none⟩ = some (.string a0_0) := (blk_cell BK509.out 0).trans rfl; have hcz28_1 : w27.cell? ⟨gb509, 1, none⟩ = some (.slice A0_1 l0_1.length c0_1) := (blk_cell BK509.out 1).trans rfl; have hcz28_2 : w27.cell? ⟨gb509, 2, none⟩ = some (.string a0_2) := (blk_cell BK509.out 2).trans rfl; have hcz28_3 : w27.cell? ⟨gb509, 3, none⟩ = some (.slice A0_3 l0_3.length c0_3) := (blk_cell BK509.out 3).trans rfl; have hcz28_4 : w27.cell? ⟨gb509, 4, none⟩ = some (.slice A0_4 l0_4.length c0_4) := (blk_cell BK509.out 4).trans rfl; have hcz28_5 : w27.cell? ⟨gb509, 5, none⟩ = some (.slice A0_5 l0_5.length c0_5) := (blk_cell BK509.out 5).trans rfl; have hfz28_0 := blk_frozen BK509.out 0; have hfz28_1 := blk_frozen BK509.out 1; have hfz28_2 := blk_frozen BK509.out 2; have hfz28_3 := blk_frozen BK509.out 3; have hfz28_4 := blk_frozen BK509.out 4; have hfz28_5 := blk_frozen BK509.out 5) | ((with_reducible refine gate_callee (f := 16) rfl ?_); refine goesL_ (some 27) rfl rfl Try.func16 (by kernel_rfl) rfl #[.agg #[.string a0_0, .slice A0_1 l0_1.length c0_1, .string a0_2, .slice A0_3 l0_3.length c0_3, .slice A0_4 l0_4.length c0_4, .slice A0_5 l0_5.length c0_5]] rfl (by (try simp only [List.map_toArray, List.map_cons, List.map_nil]); first | done | rfl | (simp only [List.length_drop, List.length_take]; rfl)) ?_; (with_reducible refine (flow_Ahead.calls k a0_0 _ _ l0_1 a0_2 _ _ l0_3 _ _ l0_4 _ _ l0_5 t512 _ ?side1 ?side2 ?side3 ?side4 ?side5 ?side6 ?side7 ?side8 A17.out).mono ?_); (case side1 => repeat (first | exact (Kd.C_below HR0_1.out HB.out) | (with_reducible refine Kd.C_alloc ?_ _) | (with_reducible refine Kd.C_drewN ?_ _) | (with_reducible refine Kd.C_drew ?_))); (case side2 => exact HC0_1.out); (case side3 => repeat (first | exact (Kd.C_below HR0_3.out HB.out) | (with_reducible refine Kd.C_alloc ?_ _) | (with_reducible refine Kd.C_drewN ?_ _) | (with_reducible refine Kd.C_drew ?_))); (case side4 => exact HC0_3.out); (case side5 => repeat (first | exact (Kd.C_below HR0_4.out HB.out) | (with_reducible refine Kd.C_alloc ?_ _) | (with_reducible refine Kd.C_drewN ?_ _) | (with_reducible refine Kd.C_drew ?_))); (case side6 => exact HC0_4.out); (case side7 => repeat (first | exact (Kd.V_reads' HO0_5.out).2.2 | (with_reducible refine Kd.C_alloc ?_ _) | (with_reducible refine Kd.C_drewN ?_ _) | (with_reducible refine Kd.C_drew ?_))); (case side8 => exact (Kd.V_reads' HO0_5.out).2.1); rintro e w29 ⟨v513, rfl, ho0, hb⟩; refine ⟨_, rfl, ?_⟩; have n0_ := Aside0.mk (Kd.V_elder' (by (with_reducible repeat (first | apply Kd.V_alloc | apply Kd.V_drewN | apply Kd.V_drew)); exact HO0_5.out) (by first | exact Kd.N_base ho0 | exact Kd.S_base ho0 | exact Kd.R_base ho0) hb); have n1_ := Aside0.mk (Kd.N_lower (Kd.N_mono (ok' := fun k_ => (P0_5_ k_ ∨ w.heap.size ≤ k_) ∧ k_ ≠ gb509) (Kd.S_N (Kd.S_bound ho0)) (fun k_ hk_ => ⟨(.inr (Nat.le_trans (below_size (by repeat (first | (with_reducible first | exact HB.out | apply below_alloc | apply pw_below_drewN | apply below_drew1 | refine below_set ?_ GE509.out) | exact HB.out))) hk_.2.1)), (Kd.freshB (g := gb509) (o := .cells #[.string a0_0, .slice A0_1 l0_1.length c0_1, .string a0_2, .slice A0_3 l0_3.length c0_3, .slice A0_4 l0_4.length c0_4, .slice A0_5 l0_5.length c0_5] 26 (0, 0)) (by (with_reducible repeat (first | refine blk_drewN ?_ _ | refine blk_drew ?_ | refine blk_alloc ?_ _)); exact BK509.out) k_ hk_.2.1)⟩)) (below_size (by repeat (first | (with_reducible first | exact HB.out | apply below_alloc | apply pw_below_drewN | apply below_drew1 | refine below_set ?_ GE509.out) | exact HB.out)))); have n2_ := Aside0.mk (blk_below (g := gb509) (o := .cells #[.string a0_0, .slice A0_1 l0_1.length c0_1, .string a0_2, .slice A0_3 l0_3.length c0_3, .slice A0_4 l0_4.length c0_4, .slice A0_5 l0_5.length c0_5] 26 (0, 0)) (by (with_reducible repeat (first | refine blk_drewN ?_ _ | refine blk_drew ?_ | refine blk_alloc ?_ _)); exact BK509.out) hb); have n3_ := Aside0.mk (below_step (by repeat (first | (with_reducible first | exact HB.out | apply below_alloc | apply pw_below_drewN | apply below_drew1 | refine below_set ?_ GE509.out) | exact HB.out)) hb); clear HO0_5; clear BK509; clear HB; have HO0_5 := n0_; have HO514 := n1_; have BK509 := n2_; have HB := n3_; clear n0_ n1_ n2_ n3_; (try clear hb); (try clear hb2); (try clear hk); (try clear hi); (try clear ho0); have hcz30_0 : w29.cell? ⟨gb509, 0, none⟩ = some (.string a0_0) := (blk_cell BK509.out 0).trans rfl; have hcz30_1 : w29.cell? ⟨gb509, 1, none⟩ = some (.slice A0_1 l0_1.length c0_1) := (blk_cell BK509.out 1).trans rfl; have hcz30_2 : w29.cell? ⟨gb509, 2, none⟩ = some (.string a0_2) := (blk_cell BK509.out 2).trans rfl; have hcz30_3 : w29.cell? ⟨gb509, 3, none⟩ = some (.slice A0_3 l0_3.length c0_3) := (blk_cell BK509.out 3).trans rfl; have hcz30_4 : w29.cell? ⟨gb509, 4, none⟩ = some (.slice A0_4 l0_4.length c0_4) := (blk_cell BK509.out 4).trans rfl; have hcz30_5 : w29.cell? ⟨gb509, 5, none⟩ = some (.slice A0_5 l0_5.length c0_5) := (blk_cell BK509.out 5).trans rfl; have hfz30_0 := blk_frozen BK509.out 0; have hfz30_1 := blk_frozen BK509.out 1; have hfz30_2 := blk_frozen BK509.out 2; have hfz30_3 := blk_frozen BK509.out 3; have hfz30_4 := blk_frozen BK509.out 4; have hfz30_5 := blk_frozen BK509.out 5))
        have n0_ := Aside0.mk (Kd.V_drew HO0_5.out)
        have n1_ := Aside0.mk (Kd.N_drew HO514.out)
        have n2_ := Aside0.mk (blk_drew BK509.out)
        have n3_ := Aside0.mk (below_drew1 HB.out)
        clear HO0_5
        clear HO514
        clear BK509
        clear HB
        have HO0_5 := n0_
        have HO514 := n1_
        have BK509 := n2_
        have HB := n3_
        clear n0_ n1_ n2_ n3_
        refine start_ (n := 9) (S := fun w' => w'.cell? ⟨gb509, 0, none⟩ = some (.string a0_0) ∧ w'.cell? ⟨gb509, 1, none⟩ = some (.slice A0_1 l0_1.length c0_1) ∧ w'.cell? ⟨gb509, 2, none⟩ = some (.string a0_2) ∧ w'.cell? ⟨gb509, 3, none⟩ = some (.slice A0_3 l0_3.length c0_3) ∧ w'.cell? ⟨gb509, 4, none⟩ = some (.slice A0_4 l0_4.length c0_4) ∧ w'.cell? ⟨gb509, 5, none⟩ = some (.slice A0_5 l0_5.length c0_5)) (ds := []) #[false, false, false, false, false, false, false, false, false] (by kernel_rfl) rfl rfl ⟨(blk_cell BK509.out 0).trans rfl, (blk_cell BK509.out 1).trans rfl, (blk_cell BK509.out 2).trans rfl, (blk_cell BK509.out 3).trans rfl, (blk_cell BK509.out 4).trans rfl, (blk_cell BK509.out 5).trans rfl⟩ (fun hHeld => ?_); refine with_tabW truantlaw09_FlowTurned.tab7 truantlaw09_FlowTurned.bits7 (fun HT_ HW_ => ?_)
        generalize w29.drew = w31 at HO0_5 HO514 BK509 HB hHeld ⊢
        refine pure_ (i := 0) (N := some 36) (v := ?_) (a' := ?_) #[true, false, false, false, false, false, false, false, false] rfl rfl (any_of HT_.out (by kernel_rfl)) (fun _ _ _ h => h) (Or.inl ⟨by rfl, ?_⟩) ?_ ?_
        rotate_left
        ·intro w'
         go_simp
         with_reducible rfl
        rotate_left
        ·simp only [Act.put, List.setIfInBounds_toArray, List.set_cons_zero, List.set_cons_succ, i64_w, i32_w]
         rfl
        refine pure_ (i := 3) (N := some 39) (v := ?_) (a' := ?_) #[true, false, false, true, false, false, false, false, false] rfl rfl (any_of HT_.out (by kernel_rfl)) (fun _ _ _ h => h) (Or.inl ⟨by rfl, ?_⟩) ?_ ?_
        rotate_left
        ·intro w'
         go_simp
         with_reducible rfl
        rotate_left
        ·simp only [Act.put, List.setIfInBounds_toArray, List.set_cons_zero, List.set_cons_succ, i64_w, i32_w]
         rfl
        refine take_ (i := 1) (N := some 37) (v := ?_) (a' := ?_) #[true, true, false, true, false, false, false, false, false] rfl rfl (take_ofW HT_.out HW_.out (by kernel_rfl)) (fun _ _ _ h => h) (Or.inl ⟨by rfl, ?_⟩) hHeld ?_ ?_
        rotate_left
        ·rintro w' ⟨s0, s1, s2, s3, s4, s5⟩
         go_simp
         with_reducible rfl
        rotate_left
        ·simp only [Act.put, List.setIfInBounds_toArray, List.set_cons_zero, List.set_cons_succ, i64_w, i32_w]
         rfl
        refine take_ (i := 4) (N := some 40) (v := ?_) (a' := ?_) #[true, true, false, true, true, false, false, false, false] rfl rfl (take_ofW HT_.out HW_.out (by kernel_rfl)) (fun _ _ _ h => h) (Or.inl ⟨by rfl, ?_⟩) hHeld ?_ ?_
        rotate_left
        ·rintro w' ⟨s0, s1, s2, s3, s4, s5⟩
         go_simp
         with_reducible rfl
        rotate_left
        ·simp only [Act.put, List.setIfInBounds_toArray, List.set_cons_zero, List.set_cons_succ, i64_w, i32_w]
         rfl
        refine join_ (σ := Value × Value × Nat) 1 #[true, true, true, true, true, true, true, true, false] (fun s_ => [(38, s_.1), (41, s_.2.1), (7, .pointer (some ⟨s_.2.2, 0, none⟩)), (42, .agg #[.string (⟨#[]⟩ : ByteArray), .slice none 0 0, .string (⟨#[]⟩ : ByteArray), .slice none 0 0, .slice A0_4 l0_4.length c0_4, s_.2.1])]) (fun s_ w' => (w'.cell? ⟨gb509, 0, none⟩ = some (.string a0_0) ∧ w'.cell? ⟨gb509, 1, none⟩ = some (.slice A0_1 l0_1.length c0_1) ∧ w'.cell? ⟨gb509, 2, none⟩ = some (.string a0_2) ∧ w'.cell? ⟨gb509, 3, none⟩ = some (.slice A0_3 l0_3.length c0_3) ∧ w'.cell? ⟨gb509, 4, none⟩ = some (.slice A0_4 l0_4.length c0_4) ∧ w'.cell? ⟨gb509, 5, none⟩ = some (.slice A0_5 l0_5.length c0_5)) ∧ (Kd.V k40 40 w' w.heap.size (fun k_ => (P0_5_ k_ ∨ w.heap.size ≤ k_) ∧ some k_ ≠ (v513 : Value).ownBlock ∧ some k_ ≠ (s_.2.1 : Value).ownBlock ∧ k_ ≠ gb509 ∧ k_ ≠ s_.2.2) (.slice A0_5 l0_5.length c0_5) l0_5) ∧ (Kd.N (Kd.slice 3 (Kd.int .i64)) 34 w' w.heap.size (fun k_ => (P0_5_ k_ ∨ w.heap.size ≤ k_) ∧ some k_ ≠ (s_.2.1 : Value).ownBlock ∧ k_ ≠ gb509 ∧ k_ ≠ s_.2.2) v513 t512) ∧ (Kd.N k40 40 w' w.heap.size (fun k_ => (P0_5_ k_ ∨ w.heap.size ≤ k_) ∧ some k_ ≠ (v513 : Value).ownBlock ∧ k_ ≠ gb509 ∧ k_ ≠ s_.2.2) s_.2.1 y518) ∧ (w'.heap[gb509]? = some (.cells #[.string a0_0, .slice A0_1 l0_1.length c0_1, .string a0_2, .slice A0_3 l0_3.length c0_3, .slice A0_4 l0_4.length c0_4, .slice A0_5 l0_5.length c0_5] 26 (0, 0))) ∧ (w'.heap[s_.2.2]? = some (.cells #[.string (⟨#[]⟩ : ByteArray), .slice none 0 0, .string (⟨#[]⟩ : ByteArray), .slice none 0 0, .slice none 0 0, .slice none 0 0] 26 (0, 0))) ∧ (w.heap.size ≤ s_.2.2) ∧ (w.heap.size ≤ s_.2.2) ∧ (gb509 ≠ s_.2.2) ∧ (s_.2.2 ≠ gb509) ∧ (Below w.heap.size w w')) ?_ ?_
        rotate_left
        ·intro hCont
         refine two_ (i := 2) (j := 7) (Ni := some 38) (Nj := some 7) #[true, true, true, true, true, false, false, false, false] #[true, true, false, true, true, false, false, true, false] rfl rfl rfl rfl (two_of HT_.out (by kernel_rfl)) (by decide) (by decide) (fun K hK => ?_) (fun K hK => ?_)
         ·skip
          refine Kd.N_lit_step k40 _ 40 ?hg (N' := 38) ?hd (xs := ([] : List (S40))) (inner := []) (ok := (fun k_ => (P0_5_ k_ ∨ w.heap.size ≤ k_) ∧ some k_ ≠ (v513 : Value).ownBlock ∧ k_ ≠ gb509)) (okp := (fun k_ => (P0_5_ k_ ∨ w.heap.size ≤ k_) ∧ some k_ ≠ (v513 : Value).ownBlock ∧ k_ ≠ gb509)) ?hr ?hp (fun _ hk => hk) ((show ∀ k_, w31.heap.size ≤ k_ → (fun k_ => (P0_5_ k_ ∨ w.heap.size ≤ k_) ∧ some k_ ≠ (v513 : Value).ownBlock ∧ k_ ≠ gb509) k_ from fun k_ hk => ⟨(.inr (Nat.le_trans (below_size (by repeat (first | (with_reducible first | exact HB.out | apply below_alloc | apply pw_below_drewN | apply below_drew1 | refine below_set ?_ GE509.out) | exact HB.out))) hk)), Kd.fresh' (Kd.N_lt (by (with_reducible repeat (first | apply Kd.N_alloc | apply Kd.N_drewN | apply Kd.N_drew)); exact HO514.out)) k_ hk, Kd.freshB (g := gb509) (o := .cells #[.string a0_0, .slice A0_1 l0_1.length c0_1, .string a0_2, .slice A0_3 l0_3.length c0_3, .slice A0_4 l0_4.length c0_4, .slice A0_5 l0_5.length c0_5] 26 (0, 0)) (by (with_reducible repeat (first | refine blk_drewN ?_ _ | refine blk_drew ?_ | refine blk_alloc ?_ _)); exact BK509.out) k_ hk⟩) _ (Nat.le_refl _)) (Below.refl _ _) (Nat.le_refl _) (by simp) ?_; (case hd => rfl); (case hg => rfl); (case hr => first | (go_simp; done) | (go_simp; rfl)); (case hp => exact (Reps.none _ _))
          intro v516 w32 ho33 hb hg_ hnew_
          clear hg_ hnew_
          (first | rw [← Ny515.out] at ho33 | (simp only [Int.reduceToNat] at ho33; rw [← Ny515.out] at ho33))
          have n0_ := Aside0.mk (Kd.V_elder' (by (with_reducible repeat (first | apply Kd.V_alloc | apply Kd.V_drewN | apply Kd.V_drew)); exact HO0_5.out) (by first | exact Kd.N_base ho33 | exact Kd.S_base ho33 | exact Kd.R_base ho33) hb)
          have n1_ := Aside0.mk (Kd.N_elder' (by (with_reducible repeat (first | apply Kd.N_alloc | apply Kd.N_drewN | apply Kd.N_drew)); exact HO514.out) (by first | exact Kd.N_base ho33 | exact Kd.S_base ho33 | exact Kd.R_base ho33) hb)
          have n2_ := Aside0.mk (Kd.N_lower ho33 (below_size (by repeat (first | (with_reducible first | exact HB.out | apply below_alloc | apply pw_below_drewN | apply below_drew1 | refine below_set ?_ GE509.out) | exact HB.out))))
          have n3_ := Aside0.mk (blk_below (g := gb509) (o := .cells #[.string a0_0, .slice A0_1 l0_1.length c0_1, .string a0_2, .slice A0_3 l0_3.length c0_3, .slice A0_4 l0_4.length c0_4, .slice A0_5 l0_5.length c0_5] 26 (0, 0)) (by (with_reducible repeat (first | refine blk_drewN ?_ _ | refine blk_drew ?_ | refine blk_alloc ?_ _)); exact BK509.out) hb)
          have n4_ := Aside0.mk (below_step (by repeat (first | (with_reducible first | exact HB.out | apply below_alloc | apply pw_below_drewN | apply below_drew1 | refine below_set ?_ GE509.out) | exact HB.out)) hb)
          clear HO0_5
          clear HO514
          clear BK509
          clear HB
          have HO0_5 := n0_
          have HO514 := n1_
          have HO517 := n2_
          have BK509 := n3_
          have HB := n4_
          clear n0_ n1_ n2_ n3_ n4_
          clear hb ho33
          refine hK.out _ _ ⟨(blk_cell BK509.out 0).trans rfl, (blk_cell BK509.out 1).trans rfl, (blk_cell BK509.out 2).trans rfl, (blk_cell BK509.out 3).trans rfl, (blk_cell BK509.out 4).trans rfl, (blk_cell BK509.out 5).trans rfl⟩ (fun hHeld => ?_)
          clear hK K
          refine norm_ (a' := ?_) ?_ ?_
          rotate_left
          ·show Act.put _ (some 38) _ = _
           simp only [Act.put, List.setIfInBounds_toArray, List.set_cons_zero, List.set_cons_succ, i64_w, i32_w]
           rfl
          refine two_ (i := 5) (j := 7) (Ni := some 41) (Nj := some 7) #[true, true, true, true, true, true, false, false, false] #[true, true, true, true, true, false, false, true, false] rfl rfl rfl rfl (two_of HT_.out (by kernel_rfl)) (by decide) (by decide) (fun K hK => ?_) (fun K hK => ?_)
          ·skip
           refine Kd.N_append_rows_step k40 (w0 := w) w.heap.size (by rfl) (.tmp 38) (.tmp 40) 24 40 (.agg #[(.slice none 0 0), (.int .i64 0), (.int .i64 0), (.int .i64 0), (.int .i64 0)]) 56 rfl Try.underlying24 info40 rfl (by decide) (by omega) v516 y515 l0_5 _ _ _ (fun k_ => (P0_5_ k_ ∨ w.heap.size ≤ k_) ∧ some k_ ≠ (v513 : Value).ownBlock ∧ k_ ≠ gb509) (fun k_ => ((fun k_ => (P0_5_ k_ ∨ w.heap.size ≤ k_) ∧ some k_ ≠ (v513 : Value).ownBlock ∧ k_ ≠ gb509)) k_ ∧ some k_ ≠ (v516 : Value).ownBlock) rfl rfl ?aO ?aR (fun _ hk => hk) ?aF ?aB ?aS ?aL ?_
           (case aR => exact (by skip; exact Kd.V_F (Kd.V_mono (ok' := (fun k_ => ((fun k_ => (P0_5_ k_ ∨ w.heap.size ≤ k_) ∧ some k_ ≠ (v513 : Value).ownBlock ∧ k_ ≠ gb509)) k_ ∧ some k_ ≠ (v516 : Value).ownBlock)) (HO0_5.out) (fun k_ hk => ⟨⟨hk.1.1.1, ⟨hk.1.2, hk.1.1.2⟩⟩, hk.2⟩))))
           (case aB => exact (by repeat (first | (with_reducible first | exact HB.out | apply below_alloc | apply pw_below_drewN | apply below_drew1 | refine below_set ?_ GE509.out) | exact HB.out)))
           (case aF => exact (fun k_ hk => ⟨(.inr (Nat.le_trans (below_size (by repeat (first | (with_reducible first | exact HB.out | apply below_alloc | apply pw_below_drewN | apply below_drew1 | refine below_set ?_ GE509.out) | exact HB.out))) hk)), Kd.fresh' (Kd.N_lt (by (with_reducible repeat (first | apply Kd.N_alloc | apply Kd.N_drewN | apply Kd.N_drew)); exact HO514.out)) k_ hk, Kd.freshB (g := gb509) (o := .cells #[.string a0_0, .slice A0_1 l0_1.length c0_1, .string a0_2, .slice A0_3 l0_3.length c0_3, .slice A0_4 l0_4.length c0_4, .slice A0_5 l0_5.length c0_5] 26 (0, 0)) (by (with_reducible repeat (first | refine blk_drewN ?_ _ | refine blk_drew ?_ | refine blk_alloc ?_ _)); exact BK509.out) k_ hk⟩))
           (case aO => exact (by (with_reducible repeat (first | apply Kd.N_alloc | apply Kd.N_drewN | apply Kd.N_drew)); exact HO517.out))
           (case aS => exact (below_size (by repeat (first | (with_reducible first | exact HB.out | apply below_alloc | apply pw_below_drewN | apply below_drew1 | refine below_set ?_ GE509.out) | exact HB.out))))
           (case aL => have := LMc19.out; omega)
           intro v519 w34 ho hb hg hat
           rw [← Ny518.out] at ho
           have n0_ := Aside0.mk (Kd.V_afterv (ok := (fun k_ => (P0_5_ k_ ∨ w.heap.size ≤ k_) ∧ some k_ ≠ (v513 : Value).ownBlock ∧ k_ ≠ gb509)) (by (with_reducible repeat (first | apply Kd.V_alloc | apply Kd.V_drewN | apply Kd.V_drew)); exact Kd.V_mono HO0_5.out (fun _ hk => ⟨⟨hk.1.1.1, ⟨hk.1.2, hk.1.1.2⟩⟩, hk.2⟩)) hg hat)
           have n1_ := Aside0.mk (blk_grown (g := gb509) (o := .cells #[.string a0_0, .slice A0_1 l0_1.length c0_1, .string a0_2, .slice A0_3 l0_3.length c0_3, .slice A0_4 l0_4.length c0_4, .slice A0_5 l0_5.length c0_5] 26 (0, 0)) (by (with_reducible repeat (first | refine blk_drewN ?_ _ | refine blk_drew ?_ | refine blk_alloc ?_ _)); exact BK509.out) hg (Kd.N_ne HO517.out BK509.out (by decide)))
           have n2_ := Aside0.mk (Kd.N_afterv (ok := (fun k_ => (P0_5_ k_ ∨ w.heap.size ≤ k_) ∧ k_ ≠ gb509)) (by (with_reducible repeat (first | apply Kd.N_alloc | apply Kd.N_drewN | apply Kd.N_drew)); exact HO514.out) hg hat)
           have n3_ := Aside0.mk (hb)
           have n4_ := Aside0.mk (ho)
           clear HO0_5
           clear BK509
           clear HO514
           clear HB
           clear HO517
           have HO0_5 := n0_
           have BK509 := n1_
           have HO514 := n2_
           have HB := n3_
           have HO520 := n4_
           clear n0_ n1_ n2_ n3_ n4_
           clear ho hb hg hat
           obtain ⟨Ao35, co35, eo35⟩ := Kd.N_slice HO520.out
           (first | subst eo35 | (injection eo35 with f1_ f2_ f3_; have f4_ := f1_.symm; have f5_ := f3_.symm; clear f1_ f2_ f3_; subst f4_; subst f5_))
           refine hK.out _ _ ⟨(blk_cell BK509.out 0).trans rfl, (blk_cell BK509.out 1).trans rfl, (blk_cell BK509.out 2).trans rfl, (blk_cell BK509.out 3).trans rfl, (blk_cell BK509.out 4).trans rfl, (blk_cell BK509.out 5).trans rfl⟩ (fun hHeld => ?_)
           clear hK K
           refine norm_ (a' := ?_) ?_ ?_
           rotate_left
           ·show Act.put _ (some 41) _ = _
            simp only [Act.put, List.setIfInBounds_toArray, List.set_cons_zero, List.set_cons_succ, i64_w, i32_w]
            rfl
           refine pure_ (i := 6) (N := some 42) (v := ?_) (a' := ?_) #[true, true, true, true, true, true, true, false, false] rfl rfl (any_of HT_.out (by kernel_rfl)) (fun _ _ _ h => h) (Or.inl ⟨by rfl, ?_⟩) ?_ ?_
           rotate_left
           ·intro w'
            go_simp
            with_reducible rfl
           rotate_left
           ·simp only [Act.put, List.setIfInBounds_toArray, List.set_cons_zero, List.set_cons_succ, i64_w, i32_w]
            rfl
           refine one_ (i := 7) (N := some 7) #[true, true, true, true, true, true, true, true, false] rfl rfl (one_of HT_.out (by kernel_rfl)) (by decide) (fun K hK => ?_)
           refine box_step ?hg (N := 7) ?hd (cs := #[.string (⟨#[]⟩ : ByteArray), .slice none 0 0, .string (⟨#[]⟩ : ByteArray), .slice none 0 0, .slice none 0 0, .slice none 0 0]) (t := 26) ?hr ?_; (case hd => rfl); (case hg => rfl); (case hr => first | (go_simp; done) | (go_simp; rfl))
           intro gb521 hg w36 hbox hb
           have n0_ := Aside0.mk (Kd.V_below (Kd.V_elderB (by (with_reducible repeat (first | apply Kd.V_alloc | apply Kd.V_drewN | apply Kd.V_drew)); exact HO0_5.out) gb521 (Nat.le_of_eq hg.symm)) hb)
           have n1_ := Aside0.mk (Kd.N_below (Kd.N_elderB (by (with_reducible repeat (first | apply Kd.N_alloc | apply Kd.N_drewN | apply Kd.N_drew)); exact HO514.out) gb521 (Nat.le_of_eq hg.symm)) hb)
           have n2_ := Aside0.mk (Kd.N_below (Kd.N_elderB (by (with_reducible repeat (first | apply Kd.N_alloc | apply Kd.N_drewN | apply Kd.N_drew)); exact HO520.out) gb521 (Nat.le_of_eq hg.symm)) hb)
           have n3_ := Aside0.mk (blk_below (g := gb509) (o := .cells #[.string a0_0, .slice A0_1 l0_1.length c0_1, .string a0_2, .slice A0_3 l0_3.length c0_3, .slice A0_4 l0_4.length c0_4, .slice A0_5 l0_5.length c0_5] 26 (0, 0)) (by (with_reducible repeat (first | refine blk_drewN ?_ _ | refine blk_drew ?_ | refine blk_alloc ?_ _)); exact BK509.out) hb)
           have n4_ := Aside0.mk (below_step (by repeat (first | (with_reducible first | exact HB.out | apply below_alloc | apply pw_below_drewN | apply below_drew1 | refine below_set ?_ GE509.out) | exact HB.out)) hb)
           have n5_ := Aside0.mk (hbox)
           have n6_ := Aside0.mk ((by rw [hg]; exact (below_size (by repeat (first | (with_reducible first | exact HB.out | apply below_alloc | apply pw_below_drewN | apply below_drew1 | refine below_set ?_ GE509.out) | exact HB.out))) : w.heap.size ≤ gb521))
           have n7_ := Aside0.mk ((by rw [hg]; exact (below_size (by repeat (first | (with_reducible first | exact HB.out | apply below_alloc | apply pw_below_drewN | apply below_drew1 | refine below_set ?_ GE509.out) | exact HB.out))) : w.heap.size ≤ gb521))
           have n8_ := Aside0.mk ((by rw [hg]; exact Nat.ne_of_lt (blk_lt (g := gb509) (o := .cells #[.string a0_0, .slice A0_1 l0_1.length c0_1, .string a0_2, .slice A0_3 l0_3.length c0_3, .slice A0_4 l0_4.length c0_4, .slice A0_5 l0_5.length c0_5] 26 (0, 0)) (by (with_reducible repeat (first | refine blk_drewN ?_ _ | refine blk_drew ?_ | refine blk_alloc ?_ _)); exact BK509.out)) : gb509 ≠ gb521))
           have n9_ := Aside0.mk ((by rw [hg]; exact Nat.ne_of_gt (blk_lt (g := gb509) (o := .cells #[.string a0_0, .slice A0_1 l0_1.length c0_1, .string a0_2, .slice A0_3 l0_3.length c0_3, .slice A0_4 l0_4.length c0_4, .slice A0_5 l0_5.length c0_5] 26 (0, 0)) (by (with_reducible repeat (first | refine blk_drewN ?_ _ | refine blk_drew ?_ | refine blk_alloc ?_ _)); exact BK509.out)) : gb521 ≠ gb509))
           clear HO0_5
           clear HO514
           clear HO520
           clear BK509
           clear HB
           have HO0_5 := n0_
           have HO514 := n1_
           have HO520 := n2_
           have BK509 := n3_
           have HB := n4_
           have BK521 := n5_
           have GW521 := n6_
           have GE521 := n7_
           have NB509_521 := n8_
           have NB521_509 := n9_
           clear n0_ n1_ n2_ n3_ n4_ n5_ n6_ n7_ n8_ n9_
           clear hb hbox hg
           refine hK.out _ _ ⟨(blk_cell BK509.out 0).trans rfl, (blk_cell BK509.out 1).trans rfl, (blk_cell BK509.out 2).trans rfl, (blk_cell BK509.out 3).trans rfl, (blk_cell BK509.out 4).trans rfl, (blk_cell BK509.out 5).trans rfl⟩ (fun hHeld => ?_)
           clear hK K
           refine norm_ (a' := ?_) ?_ ?_
           rotate_left
           ·show Act.put _ (some 7) _ = _
            simp only [Act.put, List.setIfInBounds_toArray, List.set_cons_zero, List.set_cons_succ, i64_w, i32_w]
            rfl
           exact norm_ (by simp only [putAll, Act.put, List.setIfInBounds_toArray, List.set_cons_zero, List.set_cons_succ]) (hCont (v516, .slice Ao35 y518.length co35, gb521) _ ⟨hHeld, (by (with_reducible repeat (first | apply Kd.V_alloc | apply Kd.V_drewN | apply Kd.V_drew)); exact Kd.V_mono HO0_5.out (fun _ hk => ⟨hk.1.1.1, ⟨hk.1.1.2.1, ⟨hk.1.2, ⟨hk.1.1.2.2, hk.2⟩⟩⟩⟩)), (by (with_reducible repeat (first | apply Kd.N_alloc | apply Kd.N_drewN | apply Kd.N_drew)); exact Kd.N_mono HO514.out (fun _ hk => ⟨hk.1.1.1, ⟨hk.1.2, ⟨hk.1.1.2, hk.2⟩⟩⟩)), (by (with_reducible repeat (first | apply Kd.N_alloc | apply Kd.N_drewN | apply Kd.N_drew)); exact Kd.N_mono HO520.out (fun _ hk => ⟨hk.1.1, ⟨hk.1.2.1, ⟨hk.1.2.2, hk.2⟩⟩⟩)), (by (with_reducible repeat (first | refine blk_drewN ?_ _ | refine blk_drew ?_ | refine blk_alloc ?_ _)); exact BK509.out), (by (with_reducible repeat (first | refine blk_drewN ?_ _ | refine blk_drew ?_ | refine blk_alloc ?_ _)); exact BK521.out), GW521.out, GE521.out, NB509_521.out, NB521_509.out, (by repeat (first | (with_reducible first | exact HB.out | apply below_alloc | apply pw_below_drewN | apply below_drew1 | refine below_set ?_ GE509.out | refine below_set ?_ GE521.out) | exact HB.out))⟩)
          ·skip
           refine box_step ?hg (N := 7) ?hd (cs := #[.string (⟨#[]⟩ : ByteArray), .slice none 0 0, .string (⟨#[]⟩ : ByteArray), .slice none 0 0, .slice none 0 0, .slice none 0 0]) (t := 26) ?hr ?_; (case hd => rfl); (case hg => rfl); (case hr => first | (go_simp; done) | (go_simp; rfl))
           intro gb521 hg w34 hbox hb
           have n0_ := Aside0.mk (Kd.V_below (Kd.V_elderB (by (with_reducible repeat (first | apply Kd.V_alloc | apply Kd.V_drewN | apply Kd.V_drew)); exact HO0_5.out) gb521 (Nat.le_of_eq hg.symm)) hb)
           have n1_ := Aside0.mk (Kd.N_below (Kd.N_elderB (by (with_reducible repeat (first | apply Kd.N_alloc | apply Kd.N_drewN | apply Kd.N_drew)); exact HO514.out) gb521 (Nat.le_of_eq hg.symm)) hb)
           have n2_ := Aside0.mk (Kd.N_below (Kd.N_elderB (by (with_reducible repeat (first | apply Kd.N_alloc | apply Kd.N_drewN | apply Kd.N_drew)); exact HO517.out) gb521 (Nat.le_of_eq hg.symm)) hb)
           have n3_ := Aside0.mk (blk_below (g := gb509) (o := .cells #[.string a0_0, .slice A0_1 l0_1.length c0_1, .string a0_2, .slice A0_3 l0_3.length c0_3, .slice A0_4 l0_4.length c0_4, .slice A0_5 l0_5.length c0_5] 26 (0, 0)) (by (with_reducible repeat (first | refine blk_drewN ?_ _ | refine blk_drew ?_ | refine blk_alloc ?_ _)); exact BK509.out) hb)
           have n4_ := Aside0.mk (below_step (by repeat (first | (with_reducible first | exact HB.out | apply below_alloc | apply pw_below_drewN | apply below_drew1 | refine below_set ?_ GE509.out) | exact HB.out)) hb)
           have n5_ := Aside0.mk (hbox)
           have n6_ := Aside0.mk ((by rw [hg]; exact (below_size (by repeat (first | (with_reducible first | exact HB.out | apply below_alloc | apply pw_below_drewN | apply below_drew1 | refine below_set ?_ GE509.out) | exact HB.out))) : w.heap.size ≤ gb521))
           have n7_ := Aside0.mk ((by rw [hg]; exact (below_size (by repeat (first | (with_reducible first | exact HB.out | apply below_alloc | apply pw_below_drewN | apply below_drew1 | refine below_set ?_ GE509.out) | exact HB.out))) : w.heap.size ≤ gb521))
           have n8_ := Aside0.mk ((by rw [hg]; exact Nat.ne_of_lt (blk_lt (g := gb509) (o := .cells #[.string a0_0, .slice A0_1 l0_1.length c0_1, .string a0_2, .slice A0_3 l0_3.length c0_3, .slice A0_4 l0_4.length c0_4, .slice A0_5 l0_5.length c0_5] 26 (0, 0)) (by (with_reducible repeat (first | refine blk_drewN ?_ _ | refine blk_drew ?_ | refine blk_alloc ?_ _)); exact BK509.out)) : gb509 ≠ gb521))
           have n9_ := Aside0.mk ((by rw [hg]; exact Nat.ne_of_gt (blk_lt (g := gb509) (o := .cells #[.string a0_0, .slice A0_1 l0_1.length c0_1, .string a0_2, .slice A0_3 l0_3.length c0_3, .slice A0_4 l0_4.length c0_4, .slice A0_5 l0_5.length c0_5] 26 (0, 0)) (by (with_reducible repeat (first | refine blk_drewN ?_ _ | refine blk_drew ?_ | refine blk_alloc ?_ _)); exact BK509.out)) : gb521 ≠ gb509))
           clear HO0_5
           clear HO514
           clear HO517
           clear BK509
           clear HB
           have HO0_5 := n0_
           have HO514 := n1_
           have HO517 := n2_
           have BK509 := n3_
           have HB := n4_
           have BK521 := n5_
           have GW521 := n6_
           have GE521 := n7_
           have NB509_521 := n8_
           have NB521_509 := n9_
           clear n0_ n1_ n2_ n3_ n4_ n5_ n6_ n7_ n8_ n9_
           clear hb hbox hg
           refine hK.out _ _ ⟨(blk_cell BK509.out 0).trans rfl, (blk_cell BK509.out 1).trans rfl, (blk_cell BK509.out 2).trans rfl, (blk_cell BK509.out 3).trans rfl, (blk_cell BK509.out 4).trans rfl, (blk_cell BK509.out 5).trans rfl⟩ (fun hHeld => ?_)
           clear hK K
           refine norm_ (a' := ?_) ?_ ?_
           rotate_left
           ·show Act.put _ (some 7) _ = _
            simp only [Act.put, List.setIfInBounds_toArray, List.set_cons_zero, List.set_cons_succ, i64_w, i32_w]
            rfl
           refine one_ (i := 5) (N := some 41) #[true, true, true, true, true, true, false, true, false] rfl rfl (one_of HT_.out (by kernel_rfl)) (by decide) (fun K hK => ?_)
           refine Kd.N_append_rows_step k40 (w0 := w) w.heap.size (by rfl) (.tmp 38) (.tmp 40) 24 40 (.agg #[(.slice none 0 0), (.int .i64 0), (.int .i64 0), (.int .i64 0), (.int .i64 0)]) 56 rfl Try.underlying24 info40 rfl (by decide) (by omega) v516 y515 l0_5 _ _ _ (fun k_ => (P0_5_ k_ ∨ w.heap.size ≤ k_) ∧ some k_ ≠ (v513 : Value).ownBlock ∧ k_ ≠ gb509 ∧ k_ ≠ gb521) (fun k_ => ((fun k_ => (P0_5_ k_ ∨ w.heap.size ≤ k_) ∧ some k_ ≠ (v513 : Value).ownBlock ∧ k_ ≠ gb509 ∧ k_ ≠ gb521)) k_ ∧ some k_ ≠ (v516 : Value).ownBlock) rfl rfl ?aO ?aR (fun _ hk => hk) ?aF ?aB ?aS ?aL ?_
           (case aR => exact (by skip; exact Kd.V_F (Kd.V_mono (ok' := (fun k_ => ((fun k_ => (P0_5_ k_ ∨ w.heap.size ≤ k_) ∧ some k_ ≠ (v513 : Value).ownBlock ∧ k_ ≠ gb509 ∧ k_ ≠ gb521)) k_ ∧ some k_ ≠ (v516 : Value).ownBlock)) (HO0_5.out) (fun k_ hk => ⟨⟨hk.1.1.1.1, ⟨hk.1.1.2, ⟨hk.1.1.1.2, hk.2⟩⟩⟩, hk.1.2⟩))))
           (case aB => exact (by repeat (first | (with_reducible first | exact HB.out | apply below_alloc | apply pw_below_drewN | apply below_drew1 | refine below_set ?_ GE509.out | refine below_set ?_ GE521.out) | exact HB.out)))
           (case aF => exact (fun k_ hk => ⟨(.inr (Nat.le_trans (below_size (by repeat (first | (with_reducible first | exact HB.out | apply below_alloc | apply pw_below_drewN | apply below_drew1 | refine below_set ?_ GE509.out | refine below_set ?_ GE521.out) | exact HB.out))) hk)), Kd.fresh' (Kd.N_lt (by (with_reducible repeat (first | apply Kd.N_alloc | apply Kd.N_drewN | apply Kd.N_drew)); exact HO514.out)) k_ hk, Kd.freshB (g := gb509) (o := .cells #[.string a0_0, .slice A0_1 l0_1.length c0_1, .string a0_2, .slice A0_3 l0_3.length c0_3, .slice A0_4 l0_4.length c0_4, .slice A0_5 l0_5.length c0_5] 26 (0, 0)) (by (with_reducible repeat (first | refine blk_drewN ?_ _ | refine blk_drew ?_ | refine blk_alloc ?_ _)); exact BK509.out) k_ hk, Kd.freshB (g := gb521) (o := .cells #[.string (⟨#[]⟩ : ByteArray), .slice none 0 0, .string (⟨#[]⟩ : ByteArray), .slice none 0 0, .slice none 0 0, .slice none 0 0] 26 (0, 0)) (by (with_reducible repeat (first | refine blk_drewN ?_ _ | refine blk_drew ?_ | refine blk_alloc ?_ _)); exact BK521.out) k_ hk⟩))
           (case aO => exact (by (with_reducible repeat (first | apply Kd.N_alloc | apply Kd.N_drewN | apply Kd.N_drew)); exact Kd.N_mono HO517.out (fun _ hk => ⟨hk.1.1, ⟨hk.1.2.1, ⟨hk.1.2.2, hk.2⟩⟩⟩)))
           (case aS => exact (below_size (by repeat (first | (with_reducible first | exact HB.out | apply below_alloc | apply pw_below_drewN | apply below_drew1 | refine below_set ?_ GE509.out | refine below_set ?_ GE521.out) | exact HB.out))))
           (case aL => have := LMc19.out; omega)
           intro v519 w35 ho hb hg hat
           rw [← Ny518.out] at ho
           have n0_ := Aside0.mk (Kd.V_afterv (ok := (fun k_ => (P0_5_ k_ ∨ w.heap.size ≤ k_) ∧ some k_ ≠ (v513 : Value).ownBlock ∧ k_ ≠ gb509 ∧ k_ ≠ gb521)) (by (with_reducible repeat (first | apply Kd.V_alloc | apply Kd.V_drewN | apply Kd.V_drew)); exact Kd.V_mono HO0_5.out (fun _ hk => ⟨⟨hk.1.1.1.1, ⟨hk.1.1.2, ⟨hk.1.1.1.2, hk.2⟩⟩⟩, hk.1.2⟩)) hg hat)
           have n1_ := Aside0.mk (blk_grown (g := gb509) (o := .cells #[.string a0_0, .slice A0_1 l0_1.length c0_1, .string a0_2, .slice A0_3 l0_3.length c0_3, .slice A0_4 l0_4.length c0_4, .slice A0_5 l0_5.length c0_5] 26 (0, 0)) (by (with_reducible repeat (first | refine blk_drewN ?_ _ | refine blk_drew ?_ | refine blk_alloc ?_ _)); exact BK509.out) hg (Kd.N_ne HO517.out BK509.out (by decide)))
           have n2_ := Aside0.mk (Kd.N_afterv (ok := (fun k_ => (P0_5_ k_ ∨ w.heap.size ≤ k_) ∧ k_ ≠ gb509 ∧ k_ ≠ gb521)) (by (with_reducible repeat (first | apply Kd.N_alloc | apply Kd.N_drewN | apply Kd.N_drew)); exact Kd.N_mono HO514.out (fun _ hk => ⟨⟨hk.1.1.1, ⟨hk.1.1.2, hk.2⟩⟩, hk.1.2⟩)) hg hat)
           have n3_ := Aside0.mk (blk_grown (g := gb521) (o := .cells #[.string (⟨#[]⟩ : ByteArray), .slice none 0 0, .string (⟨#[]⟩ : ByteArray), .slice none 0 0, .slice none 0 0, .slice none 0 0] 26 (0, 0)) (by (with_reducible repeat (first | refine blk_drewN ?_ _ | refine blk_drew ?_ | refine blk_alloc ?_ _)); exact BK521.out) hg (Kd.N_ne HO517.out BK521.out (by decide)))
           have n4_ := Aside0.mk (hb)
           have n5_ := Aside0.mk (ho)
           clear HO0_5
           clear BK509
           clear HO514
           clear BK521
           clear HB
           clear HO517
           have HO0_5 := n0_
           have BK509 := n1_
           have HO514 := n2_
           have BK521 := n3_
           have HB := n4_
           have HO520 := n5_
           clear n0_ n1_ n2_ n3_ n4_ n5_
           clear ho hb hg hat
           obtain ⟨Ao36, co36, eo36⟩ := Kd.N_slice HO520.out
           (first | subst eo36 | (injection eo36 with f1_ f2_ f3_; have f4_ := f1_.symm; have f5_ := f3_.symm; clear f1_ f2_ f3_; subst f4_; subst f5_))
           refine hK.out _ _ ⟨(blk_cell BK509.out 0).trans rfl, (blk_cell BK509.out 1).trans rfl, (blk_cell BK509.out 2).trans rfl, (blk_cell BK509.out 3).trans rfl, (blk_cell BK509.out 4).trans rfl, (blk_cell BK509.out 5).trans rfl⟩ (fun hHeld => ?_)
           clear hK K
           refine norm_ (a' := ?_) ?_ ?_
           rotate_left
           ·show Act.put _ (some 41) _ = _
            simp only [Act.put, List.setIfInBounds_toArray, List.set_cons_zero, List.set_cons_succ, i64_w, i32_w]
            rfl
           refine pure_ (i := 6) (N := some 42) (v := ?_) (a' := ?_) #[true, true, true, true, true, true, true, true, false] rfl rfl (any_of HT_.out (by kernel_rfl)) (fun _ _ _ h => h) (Or.inl ⟨by rfl, ?_⟩) ?_ ?_
           rotate_left
           ·intro w'
            go_simp
            with_reducible rfl
           rotate_left
           ·simp only [Act.put, List.setIfInBounds_toArray, List.set_cons_zero, List.set_cons_succ, i64_w, i32_w]
            rfl
           exact norm_ (by simp only [putAll, Act.put, List.setIfInBounds_toArray, List.set_cons_zero, List.set_cons_succ]) (hCont (v516, .slice Ao36 y518.length co36, gb521) _ ⟨hHeld, (by (with_reducible repeat (first | apply Kd.V_alloc | apply Kd.V_drewN | apply Kd.V_drew)); exact Kd.V_mono HO0_5.out (fun _ hk => ⟨hk.1.1, ⟨hk.1.2.1, ⟨hk.2, ⟨hk.1.2.2.1, hk.1.2.2.2⟩⟩⟩⟩)), (by (with_reducible repeat (first | apply Kd.N_alloc | apply Kd.N_drewN | apply Kd.N_drew)); exact Kd.N_mono HO514.out (fun _ hk => ⟨hk.1.1, ⟨hk.2, ⟨hk.1.2.1, hk.1.2.2⟩⟩⟩)), (by (with_reducible repeat (first | apply Kd.N_alloc | apply Kd.N_drewN | apply Kd.N_drew)); exact HO520.out), (by (with_reducible repeat (first | refine blk_drewN ?_ _ | refine blk_drew ?_ | refine blk_alloc ?_ _)); exact BK509.out), (by (with_reducible repeat (first | refine blk_drewN ?_ _ | refine blk_drew ?_ | refine blk_alloc ?_ _)); exact BK521.out), GW521.out, GE521.out, NB509_521.out, NB521_509.out, (by repeat (first | (with_reducible first | exact HB.out | apply below_alloc | apply pw_below_drewN | apply below_drew1 | refine below_set ?_ GE509.out | refine below_set ?_ GE521.out) | exact HB.out))⟩)
         ·skip
          refine box_step ?hg (N := 7) ?hd (cs := #[.string (⟨#[]⟩ : ByteArray), .slice none 0 0, .string (⟨#[]⟩ : ByteArray), .slice none 0 0, .slice none 0 0, .slice none 0 0]) (t := 26) ?hr ?_; (case hd => rfl); (case hg => rfl); (case hr => first | (go_simp; done) | (go_simp; rfl))
          intro gb521 hg w32 hbox hb
          have n0_ := Aside0.mk (Kd.V_below (Kd.V_elderB (by (with_reducible repeat (first | apply Kd.V_alloc | apply Kd.V_drewN | apply Kd.V_drew)); exact HO0_5.out) gb521 (Nat.le_of_eq hg.symm)) hb)
          have n1_ := Aside0.mk (Kd.N_below (Kd.N_elderB (by (with_reducible repeat (first | apply Kd.N_alloc | apply Kd.N_drewN | apply Kd.N_drew)); exact HO514.out) gb521 (Nat.le_of_eq hg.symm)) hb)
          have n2_ := Aside0.mk (blk_below (g := gb509) (o := .cells #[.string a0_0, .slice A0_1 l0_1.length c0_1, .string a0_2, .slice A0_3 l0_3.length c0_3, .slice A0_4 l0_4.length c0_4, .slice A0_5 l0_5.length c0_5] 26 (0, 0)) (by (with_reducible repeat (first | refine blk_drewN ?_ _ | refine blk_drew ?_ | refine blk_alloc ?_ _)); exact BK509.out) hb)
          have n3_ := Aside0.mk (below_step (by repeat (first | (with_reducible first | exact HB.out | apply below_alloc | apply pw_below_drewN | apply below_drew1 | refine below_set ?_ GE509.out) | exact HB.out)) hb)
          have n4_ := Aside0.mk (hbox)
          have n5_ := Aside0.mk ((by rw [hg]; exact (below_size (by repeat (first | (with_reducible first | exact HB.out | apply below_alloc | apply pw_below_drewN | apply below_drew1 | refine below_set ?_ GE509.out) | exact HB.out))) : w.heap.size ≤ gb521))
          have n6_ := Aside0.mk ((by rw [hg]; exact (below_size (by repeat (first | (with_reducible first | exact HB.out | apply below_alloc | apply pw_below_drewN | apply below_drew1 | refine below_set ?_ GE509.out) | exact HB.out))) : w.heap.size ≤ gb521))
          have n7_ := Aside0.mk ((by rw [hg]; exact Nat.ne_of_lt (blk_lt (g := gb509) (o := .cells #[.string a0_0, .slice A0_1 l0_1.length c0_1, .string a0_2, .slice A0_3 l0_3.length c0_3, .slice A0_4 l0_4.length c0_4, .slice A0_5 l0_5.length c0_5] 26 (0, 0)) (by (with_reducible repeat (first | refine blk_drewN ?_ _ | refine blk_drew ?_ | refine blk_alloc ?_ _)); exact BK509.out)) : gb509 ≠ gb521))
          have n8_ := Aside0.mk ((by rw [hg]; exact Nat.ne_of_gt (blk_lt (g := gb509) (o := .cells #[.string a0_0, .slice A0_1 l0_1.length c0_1, .string a0_2, .slice A0_3 l0_3.length c0_3, .slice A0_4 l0_4.length c0_4, .slice A0_5 l0_5.length c0_5] 26 (0, 0)) (by (with_reducible repeat (first | refine blk_drewN ?_ _ | refine blk_drew ?_ | refine blk_alloc ?_ _)); exact BK509.out)) : gb521 ≠ gb509))
          clear HO0_5
          clear HO514
          clear BK509
          clear HB
          have HO0_5 := n0_
          have HO514 := n1_
          have BK509 := n2_
          have HB := n3_
          have BK521 := n4_
          have GW521 := n5_
          have GE521 := n6_
          have NB509_521 := n7_
          have NB521_509 := n8_
          clear n0_ n1_ n2_ n3_ n4_ n5_ n6_ n7_ n8_
          clear hb hbox hg
          refine hK.out _ _ ⟨(blk_cell BK509.out 0).trans rfl, (blk_cell BK509.out 1).trans rfl, (blk_cell BK509.out 2).trans rfl, (blk_cell BK509.out 3).trans rfl, (blk_cell BK509.out 4).trans rfl, (blk_cell BK509.out 5).trans rfl⟩ (fun hHeld => ?_)
          clear hK K
          refine norm_ (a' := ?_) ?_ ?_
          rotate_left
          ·show Act.put _ (some 7) _ = _
           simp only [Act.put, List.setIfInBounds_toArray, List.set_cons_zero, List.set_cons_succ, i64_w, i32_w]
           rfl
          refine one_ (i := 2) (N := some 38) #[true, true, true, true, true, false, false, true, false] rfl rfl (one_of HT_.out (by kernel_rfl)) (by decide) (fun K hK => ?_)
          refine Kd.N_lit_step k40 _ 40 ?hg (N' := 38) ?hd (xs := ([] : List (S40))) (inner := []) (ok := (fun k_ => (P0_5_ k_ ∨ w.heap.size ≤ k_) ∧ some k_ ≠ (v513 : Value).ownBlock ∧ k_ ≠ gb509 ∧ k_ ≠ gb521)) (okp := (fun k_ => (P0_5_ k_ ∨ w.heap.size ≤ k_) ∧ some k_ ≠ (v513 : Value).ownBlock ∧ k_ ≠ gb509 ∧ k_ ≠ gb521)) ?hr ?hp (fun _ hk => hk) ((show ∀ k_, w32.heap.size ≤ k_ → (fun k_ => (P0_5_ k_ ∨ w.heap.size ≤ k_) ∧ some k_ ≠ (v513 : Value).ownBlock ∧ k_ ≠ gb509 ∧ k_ ≠ gb521) k_ from fun k_ hk => ⟨(.inr (Nat.le_trans (below_size (by repeat (first | (with_reducible first | exact HB.out | apply below_alloc | apply pw_below_drewN | apply below_drew1 | refine below_set ?_ GE509.out | refine below_set ?_ GE521.out) | exact HB.out))) hk)), Kd.fresh' (Kd.N_lt (by (with_reducible repeat (first | apply Kd.N_alloc | apply Kd.N_drewN | apply Kd.N_drew)); exact HO514.out)) k_ hk, Kd.freshB (g := gb509) (o := .cells #[.string a0_0, .slice A0_1 l0_1.length c0_1, .string a0_2, .slice A0_3 l0_3.length c0_3, .slice A0_4 l0_4.length c0_4, .slice A0_5 l0_5.length c0_5] 26 (0, 0)) (by (with_reducible repeat (first | refine blk_drewN ?_ _ | refine blk_drew ?_ | refine blk_alloc ?_ _)); exact BK509.out) k_ hk, Kd.freshB (g := gb521) (o := .cells #[.string (⟨#[]⟩ : ByteArray), .slice none 0 0, .string (⟨#[]⟩ : ByteArray), .slice none 0 0, .slice none 0 0, .slice none 0 0] 26 (0, 0)) (by (with_reducible repeat (first | refine blk_drewN ?_ _ | refine blk_drew ?_ | refine blk_alloc ?_ _)); exact BK521.out) k_ hk⟩) _ (Nat.le_refl _)) (Below.refl _ _) (Nat.le_refl _) (by simp) ?_; (case hd => rfl); (case hg => rfl); (case hr => first | (go_simp; done) | (go_simp; rfl)); (case hp => exact (Reps.none _ _))
          intro v516 w33 ho34 hb hg_ hnew_
          clear hg_ hnew_
          (first | rw [← Ny515.out] at ho34 | (simp only [Int.reduceToNat] at ho34; rw [← Ny515.out] at ho34))
          have n0_ := Aside0.mk (Kd.V_elder' (by (with_reducible repeat (first | apply Kd.V_alloc | apply Kd.V_drewN | apply Kd.V_drew)); exact HO0_5.out) (by first | exact Kd.N_base ho34 | exact Kd.S_base ho34 | exact Kd.R_base ho34) hb)
          have n1_ := Aside0.mk (Kd.N_elder' (by (with_reducible repeat (first | apply Kd.N_alloc | apply Kd.N_drewN | apply Kd.N_drew)); exact HO514.out) (by first | exact Kd.N_base ho34 | exact Kd.S_base ho34 | exact Kd.R_base ho34) hb)
          have n2_ := Aside0.mk (Kd.N_lower ho34 (below_size (by repeat (first | (with_reducible first | exact HB.out | apply below_alloc | apply pw_below_drewN | apply below_drew1 | refine below_set ?_ GE509.out | refine below_set ?_ GE521.out) | exact HB.out))))
          have n3_ := Aside0.mk (blk_below (g := gb509) (o := .cells #[.string a0_0, .slice A0_1 l0_1.length c0_1, .string a0_2, .slice A0_3 l0_3.length c0_3, .slice A0_4 l0_4.length c0_4, .slice A0_5 l0_5.length c0_5] 26 (0, 0)) (by (with_reducible repeat (first | refine blk_drewN ?_ _ | refine blk_drew ?_ | refine blk_alloc ?_ _)); exact BK509.out) hb)
          have n4_ := Aside0.mk (blk_below (g := gb521) (o := .cells #[.string (⟨#[]⟩ : ByteArray), .slice none 0 0, .string (⟨#[]⟩ : ByteArray), .slice none 0 0, .slice none 0 0, .slice none 0 0] 26 (0, 0)) (by (with_reducible repeat (first | refine blk_drewN ?_ _ | refine blk_drew ?_ | refine blk_alloc ?_ _)); exact BK521.out) hb)
          have n5_ := Aside0.mk (below_step (by repeat (first | (with_reducible first | exact HB.out | apply below_alloc | apply pw_below_drewN | apply below_drew1 | refine below_set ?_ GE509.out | refine below_set ?_ GE521.out) | exact HB.out)) hb)
          clear HO0_5
          clear HO514
          clear BK509
          clear BK521
          clear HB
          have HO0_5 := n0_
          have HO514 := n1_
          have HO517 := n2_
          have BK509 := n3_
          have BK521 := n4_
          have HB := n5_
          clear n0_ n1_ n2_ n3_ n4_ n5_
          clear hb ho34
          refine hK.out _ _ ⟨(blk_cell BK509.out 0).trans rfl, (blk_cell BK509.out 1).trans rfl, (blk_cell BK509.out 2).trans rfl, (blk_cell BK509.out 3).trans rfl, (blk_cell BK509.out 4).trans rfl, (blk_cell BK509.out 5).trans rfl⟩ (fun hHeld => ?_)
          clear hK K
          refine norm_ (a' := ?_) ?_ ?_
          rotate_left
          ·show Act.put _ (some 38) _ = _
           simp only [Act.put, List.setIfInBounds_toArray, List.set_cons_zero, List.set_cons_succ, i64_w, i32_w]
           rfl
          refine one_ (i := 5) (N := some 41) #[true, true, true, true, true, true, false, true, false] rfl rfl (one_of HT_.out (by kernel_rfl)) (by decide) (fun K hK => ?_)
          refine Kd.N_append_rows_step k40 (w0 := w) w.heap.size (by rfl) (.tmp 38) (.tmp 40) 24 40 (.agg #[(.slice none 0 0), (.int .i64 0), (.int .i64 0), (.int .i64 0), (.int .i64 0)]) 56 rfl Try.underlying24 info40 rfl (by decide) (by omega) v516 y515 l0_5 _ _ _ (fun k_ => (P0_5_ k_ ∨ w.heap.size ≤ k_) ∧ some k_ ≠ (v513 : Value).ownBlock ∧ k_ ≠ gb509 ∧ k_ ≠ gb521) (fun k_ => ((fun k_ => (P0_5_ k_ ∨ w.heap.size ≤ k_) ∧ some k_ ≠ (v513 : Value).ownBlock ∧ k_ ≠ gb509 ∧ k_ ≠ gb521)) k_ ∧ some k_ ≠ (v516 : Value).ownBlock) rfl rfl ?aO ?aR (fun _ hk => hk) ?aF ?aB ?aS ?aL ?_
          (case aR => exact (by skip; exact Kd.V_F (Kd.V_mono (ok' := (fun k_ => ((fun k_ => (P0_5_ k_ ∨ w.heap.size ≤ k_) ∧ some k_ ≠ (v513 : Value).ownBlock ∧ k_ ≠ gb509 ∧ k_ ≠ gb521)) k_ ∧ some k_ ≠ (v516 : Value).ownBlock)) (HO0_5.out) (fun k_ hk => ⟨⟨hk.1.1.1.1, ⟨hk.1.1.2, ⟨hk.1.1.1.2, hk.1.2⟩⟩⟩, hk.2⟩))))
          (case aB => exact (by repeat (first | (with_reducible first | exact HB.out | apply below_alloc | apply pw_below_drewN | apply below_drew1 | refine below_set ?_ GE509.out | refine below_set ?_ GE521.out) | exact HB.out)))
          (case aF => exact (fun k_ hk => ⟨(.inr (Nat.le_trans (below_size (by repeat (first | (with_reducible first | exact HB.out | apply below_alloc | apply pw_below_drewN | apply below_drew1 | refine below_set ?_ GE509.out | refine below_set ?_ GE521.out) | exact HB.out))) hk)), Kd.fresh' (Kd.N_lt (by (with_reducible repeat (first | apply Kd.N_alloc | apply Kd.N_drewN | apply Kd.N_drew)); exact HO514.out)) k_ hk, Kd.freshB (g := gb509) (o := .cells #[.string a0_0, .slice A0_1 l0_1.length c0_1, .string a0_2, .slice A0_3 l0_3.length c0_3, .slice A0_4 l0_4.length c0_4, .slice A0_5 l0_5.length c0_5] 26 (0, 0)) (by (with_reducible repeat (first | refine blk_drewN ?_ _ | refine blk_drew ?_ | refine blk_alloc ?_ _)); exact BK509.out) k_ hk, Kd.freshB (g := gb521) (o := .cells #[.string (⟨#[]⟩ : ByteArray), .slice none 0 0, .string (⟨#[]⟩ : ByteArray), .slice none 0 0, .slice none 0 0, .slice none 0 0] 26 (0, 0)) (by (with_reducible repeat (first | refine blk_drewN ?_ _ | refine blk_drew ?_ | refine blk_alloc ?_ _)); exact BK521.out) k_ hk⟩))
          (case aO => exact (by (with_reducible repeat (first | apply Kd.N_alloc | apply Kd.N_drewN | apply Kd.N_drew)); exact HO517.out))
          (case aS => exact (below_size (by repeat (first | (with_reducible first | exact HB.out | apply below_alloc | apply pw_below_drewN | apply below_drew1 | refine below_set ?_ GE509.out | refine below_set ?_ GE521.out) | exact HB.out))))
          (case aL => have := LMc19.out; omega)
          intro v519 w35 ho hb hg hat
          rw [← Ny518.out] at ho
          have n0_ := Aside0.mk (Kd.V_afterv (ok := (fun k_ => (P0_5_ k_ ∨ w.heap.size ≤ k_) ∧ some k_ ≠ (v513 : Value).ownBlock ∧ k_ ≠ gb509 ∧ k_ ≠ gb521)) (by (with_reducible repeat (first | apply Kd.V_alloc | apply Kd.V_drewN | apply Kd.V_drew)); exact Kd.V_mono HO0_5.out (fun _ hk => ⟨⟨hk.1.1.1.1, ⟨hk.1.1.2, ⟨hk.1.1.1.2, hk.1.2⟩⟩⟩, hk.2⟩)) hg hat)
          have n1_ := Aside0.mk (blk_grown (g := gb509) (o := .cells #[.string a0_0, .slice A0_1 l0_1.length c0_1, .string a0_2, .slice A0_3 l0_3.length c0_3, .slice A0_4 l0_4.length c0_4, .slice A0_5 l0_5.length c0_5] 26 (0, 0)) (by (with_reducible repeat (first | refine blk_drewN ?_ _ | refine blk_drew ?_ | refine blk_alloc ?_ _)); exact BK509.out) hg (Kd.N_ne HO517.out BK509.out (by decide)))
          have n2_ := Aside0.mk (Kd.N_afterv (ok := (fun k_ => (P0_5_ k_ ∨ w.heap.size ≤ k_) ∧ k_ ≠ gb509 ∧ k_ ≠ gb521)) (by (with_reducible repeat (first | apply Kd.N_alloc | apply Kd.N_drewN | apply Kd.N_drew)); exact Kd.N_mono HO514.out (fun _ hk => ⟨⟨hk.1.1.1, ⟨hk.1.1.2, hk.1.2⟩⟩, hk.2⟩)) hg hat)
          have n3_ := Aside0.mk (blk_grown (g := gb521) (o := .cells #[.string (⟨#[]⟩ : ByteArray), .slice none 0 0, .string (⟨#[]⟩ : ByteArray), .slice none 0 0, .slice none 0 0, .slice none 0 0] 26 (0, 0)) (by (with_reducible repeat (first | refine blk_drewN ?_ _ | refine blk_drew ?_ | refine blk_alloc ?_ _)); exact BK521.out) hg (Kd.N_ne HO517.out BK521.out (by decide)))
          have n4_ := Aside0.mk (hb)
          have n5_ := Aside0.mk (ho)
          clear HO0_5
          clear BK509
          clear HO514
          clear BK521
          clear HB
          clear HO517
          have HO0_5 := n0_
          have BK509 := n1_
          have HO514 := n2_
          have BK521 := n3_
          have HB := n4_
          have HO520 := n5_
          clear n0_ n1_ n2_ n3_ n4_ n5_
          clear ho hb hg hat
          obtain ⟨Ao36, co36, eo36⟩ := Kd.N_slice HO520.out
          (first | subst eo36 | (injection eo36 with f1_ f2_ f3_; have f4_ := f1_.symm; have f5_ := f3_.symm; clear f1_ f2_ f3_; subst f4_; subst f5_))
          refine hK.out _ _ ⟨(blk_cell BK509.out 0).trans rfl, (blk_cell BK509.out 1).trans rfl, (blk_cell BK509.out 2).trans rfl, (blk_cell BK509.out 3).trans rfl, (blk_cell BK509.out 4).trans rfl, (blk_cell BK509.out 5).trans rfl⟩ (fun hHeld => ?_)
          clear hK K
          refine norm_ (a' := ?_) ?_ ?_
          rotate_left
          ·show Act.put _ (some 41) _ = _
           simp only [Act.put, List.setIfInBounds_toArray, List.set_cons_zero, List.set_cons_succ, i64_w, i32_w]
           rfl
          refine pure_ (i := 6) (N := some 42) (v := ?_) (a' := ?_) #[true, true, true, true, true, true, true, true, false] rfl rfl (any_of HT_.out (by kernel_rfl)) (fun _ _ _ h => h) (Or.inl ⟨by rfl, ?_⟩) ?_ ?_
          rotate_left
          ·intro w'
           go_simp
           with_reducible rfl
          rotate_left
          ·simp only [Act.put, List.setIfInBounds_toArray, List.set_cons_zero, List.set_cons_succ, i64_w, i32_w]
           rfl
          exact norm_ (by simp only [putAll, Act.put, List.setIfInBounds_toArray, List.set_cons_zero, List.set_cons_succ]) (hCont (v516, .slice Ao36 y518.length co36, gb521) _ ⟨hHeld, (by (with_reducible repeat (first | apply Kd.V_alloc | apply Kd.V_drewN | apply Kd.V_drew)); exact Kd.V_mono HO0_5.out (fun _ hk => ⟨hk.1.1, ⟨hk.1.2.1, ⟨hk.2, ⟨hk.1.2.2.1, hk.1.2.2.2⟩⟩⟩⟩)), (by (with_reducible repeat (first | apply Kd.N_alloc | apply Kd.N_drewN | apply Kd.N_drew)); exact Kd.N_mono HO514.out (fun _ hk => ⟨hk.1.1, ⟨hk.2, ⟨hk.1.2.1, hk.1.2.2⟩⟩⟩)), (by (with_reducible repeat (first | apply Kd.N_alloc | apply Kd.N_drewN | apply Kd.N_drew)); exact HO520.out), (by (with_reducible repeat (first | refine blk_drewN ?_ _ | refine blk_drew ?_ | refine blk_alloc ?_ _)); exact BK509.out), (by (with_reducible repeat (first | refine blk_drewN ?_ _ | refine blk_drew ?_ | refine blk_alloc ?_ _)); exact BK521.out), GW521.out, GE521.out, NB509_521.out, NB521_509.out, (by repeat (first | (with_reducible first | exact HB.out | apply below_alloc | apply pw_below_drewN | apply below_drew1 | refine below_set ?_ GE509.out | refine below_set ?_ GE521.out) | exact HB.out))⟩)
        rintro ⟨v516, v519, gb521⟩ w37 ⟨hS_, h0_, h1_, h2_, h3_, h4_, h5_, h6_, h7_, h8_, h9_⟩
        have n0_ : Aside0 (Kd.V k40 40 w37 w.heap.size (fun k_ => (P0_5_ k_ ∨ w.heap.size ≤ k_) ∧ some k_ ≠ (v513 : Value).ownBlock ∧ some k_ ≠ (v519 : Value).ownBlock ∧ k_ ≠ gb509 ∧ k_ ≠ gb521) (.slice A0_5 l0_5.length c0_5) l0_5) := ⟨h0_⟩
        have n1_ : Aside0 (Kd.N (Kd.slice 3 (Kd.int .i64)) 34 w37 w.heap.size (fun k_ => (P0_5_ k_ ∨ w.heap.size ≤ k_) ∧ some k_ ≠ (v519 : Value).ownBlock ∧ k_ ≠ gb509 ∧ k_ ≠ gb521) v513 t512) := ⟨h1_⟩
        have n2_ : Aside0 (Kd.N k40 40 w37 w.heap.size (fun k_ => (P0_5_ k_ ∨ w.heap.size ≤ k_) ∧ some k_ ≠ (v513 : Value).ownBlock ∧ k_ ≠ gb509 ∧ k_ ≠ gb521) v519 y518) := ⟨h2_⟩
        have n3_ : Aside0 (w37.heap[gb509]? = some (.cells #[.string a0_0, .slice A0_1 l0_1.length c0_1, .string a0_2, .slice A0_3 l0_3.length c0_3, .slice A0_4 l0_4.length c0_4, .slice A0_5 l0_5.length c0_5] 26 (0, 0))) := ⟨h3_⟩
        have n4_ : Aside0 (w37.heap[gb521]? = some (.cells #[.string (⟨#[]⟩ : ByteArray), .slice none 0 0, .string (⟨#[]⟩ : ByteArray), .slice none 0 0, .slice none 0 0, .slice none 0 0] 26 (0, 0))) := ⟨h4_⟩
        have n5_ : Aside0 (w.heap.size ≤ gb521) := ⟨h5_⟩
        have n6_ : Aside0 (w.heap.size ≤ gb521) := ⟨h6_⟩
        have n7_ : Aside0 (gb509 ≠ gb521) := ⟨h7_⟩
        have n8_ : Aside0 (gb521 ≠ gb509) := ⟨h8_⟩
        have n9_ : Aside0 (Below w.heap.size w w37) := ⟨h9_⟩
        clear HO0_5
        clear HO514
        clear BK509
        clear HB
        clear h0_ h1_ h2_ h3_ h4_ h5_ h6_ h7_ h8_ h9_
        have HO0_5 := n0_
        have HO514 := n1_
        have HO520 := n2_
        have BK509 := n3_
        have BK521 := n4_
        have GW521 := n5_
        have GE521 := n6_
        have NB509_521 := n7_
        have NB521_509 := n8_
        have HB := n9_
        clear n0_ n1_ n2_ n3_ n4_ n5_ n6_ n7_ n8_ n9_
        have hHeld : w37.cell? ⟨gb509, 0, none⟩ = some (.string a0_0) ∧ w37.cell? ⟨gb509, 1, none⟩ = some (.slice A0_1 l0_1.length c0_1) ∧ w37.cell? ⟨gb509, 2, none⟩ = some (.string a0_2) ∧ w37.cell? ⟨gb509, 3, none⟩ = some (.slice A0_3 l0_3.length c0_3) ∧ w37.cell? ⟨gb509, 4, none⟩ = some (.slice A0_4 l0_4.length c0_4) ∧ w37.cell? ⟨gb509, 5, none⟩ = some (.slice A0_5 l0_5.length c0_5) := hS_
        obtain ⟨Ao38, co38, eo38⟩ := Kd.N_slice HO520.out
        (first | subst eo38 | (injection eo38 with f1_ f2_ f3_; have f4_ := f1_.symm; have f5_ := f3_.symm; clear f1_ f2_ f3_; subst f4_; subst f5_))
        refine norm_ (a' := ?_) ?_ ?_
        rotate_left
        ·simp only [putAll, Act.put, List.setIfInBounds_toArray, List.set_cons_zero, List.set_cons_succ]
         rfl
        refine one_ (i := 8) (N := none) #[true, true, true, true, true, true, true, true, true] rfl rfl (one_of HT_.out (by kernel_rfl)) (by decide) (fun K hK => ?_)
        have hs39 : w37.cell? ⟨gb521, 0, none⟩ = some (.string (⟨#[]⟩ : ByteArray)) := (blk_cell BK521.out 0).trans rfl
        have hfs39 := blk_frozen BK521.out 0
        have hns39_0 := NB509_521.out
        have hms39_0 := NB521_509.out
        have hs40 : w37.cell? ⟨gb521, 1, none⟩ = some (.slice none 0 0) := (blk_cell BK521.out 1).trans rfl
        have hfs40 := blk_frozen BK521.out 1
        have hns40_0 := NB509_521.out
        have hms40_0 := NB521_509.out
        have hs41 : w37.cell? ⟨gb521, 2, none⟩ = some (.string (⟨#[]⟩ : ByteArray)) := (blk_cell BK521.out 2).trans rfl
        have hfs41 := blk_frozen BK521.out 2
        have hns41_0 := NB509_521.out
        have hms41_0 := NB521_509.out
        have hs42 : w37.cell? ⟨gb521, 3, none⟩ = some (.slice none 0 0) := (blk_cell BK521.out 3).trans rfl
        have hfs42 := blk_frozen BK521.out 3
        have hns42_0 := NB509_521.out
        have hms42_0 := NB521_509.out
        have hs43 : w37.cell? ⟨gb521, 4, none⟩ = some (.slice none 0 0) := (blk_cell BK521.out 4).trans rfl
        have hfs43 := blk_frozen BK521.out 4
        have hns43_0 := NB509_521.out
        have hms43_0 := NB521_509.out
        have hs44 : w37.cell? ⟨gb521, 5, none⟩ = some (.slice none 0 0) := (blk_cell BK521.out 5).trans rfl
        have hfs44 := blk_frozen BK521.out 5
        have hns44_0 := NB509_521.out
        have hms44_0 := NB521_509.out
        refine skip_ (w1 := ?_) (by rfl) rfl ?_ ?_
        rotate_left
        ·go_simp
         rfl
        refine hK.out _ _ ⟨((cell_far (p := ⟨gb521, _, none⟩) NB509_521.out _).trans (((cell_far (p := ⟨gb521, _, none⟩) NB509_521.out _).trans (((cell_far (p := ⟨gb521, _, none⟩) NB509_521.out _).trans (((cell_far (p := ⟨gb521, _, none⟩) NB509_521.out _).trans (((cell_far (p := ⟨gb521, _, none⟩) NB509_521.out _).trans (((cell_far (p := ⟨gb521, _, none⟩) NB509_521.out _).trans (hHeld.1)))))))))))), ((cell_far (p := ⟨gb521, _, none⟩) NB509_521.out _).trans (((cell_far (p := ⟨gb521, _, none⟩) NB509_521.out _).trans (((cell_far (p := ⟨gb521, _, none⟩) NB509_521.out _).trans (((cell_far (p := ⟨gb521, _, none⟩) NB509_521.out _).trans (((cell_far (p := ⟨gb521, _, none⟩) NB509_521.out _).trans (((cell_far (p := ⟨gb521, _, none⟩) NB509_521.out _).trans (hHeld.2.1)))))))))))), ((cell_far (p := ⟨gb521, _, none⟩) NB509_521.out _).trans (((cell_far (p := ⟨gb521, _, none⟩) NB509_521.out _).trans (((cell_far (p := ⟨gb521, _, none⟩) NB509_521.out _).trans (((cell_far (p := ⟨gb521, _, none⟩) NB509_521.out _).trans (((cell_far (p := ⟨gb521, _, none⟩) NB509_521.out _).trans (((cell_far (p := ⟨gb521, _, none⟩) NB509_521.out _).trans (hHeld.2.2.1)))))))))))), ((cell_far (p := ⟨gb521, _, none⟩) NB509_521.out _).trans (((cell_far (p := ⟨gb521, _, none⟩) NB509_521.out _).trans (((cell_far (p := ⟨gb521, _, none⟩) NB509_521.out _).trans (((cell_far (p := ⟨gb521, _, none⟩) NB509_521.out _).trans (((cell_far (p := ⟨gb521, _, none⟩) NB509_521.out _).trans (((cell_far (p := ⟨gb521, _, none⟩) NB509_521.out _).trans (hHeld.2.2.2.1)))))))))))), ((cell_far (p := ⟨gb521, _, none⟩) NB509_521.out _).trans (((cell_far (p := ⟨gb521, _, none⟩) NB509_521.out _).trans (((cell_far (p := ⟨gb521, _, none⟩) NB509_521.out _).trans (((cell_far (p := ⟨gb521, _, none⟩) NB509_521.out _).trans (((cell_far (p := ⟨gb521, _, none⟩) NB509_521.out _).trans (((cell_far (p := ⟨gb521, _, none⟩) NB509_521.out _).trans (hHeld.2.2.2.2.1)))))))))))), ((cell_far (p := ⟨gb521, _, none⟩) NB509_521.out _).trans (((cell_far (p := ⟨gb521, _, none⟩) NB509_521.out _).trans (((cell_far (p := ⟨gb521, _, none⟩) NB509_521.out _).trans (((cell_far (p := ⟨gb521, _, none⟩) NB509_521.out _).trans (((cell_far (p := ⟨gb521, _, none⟩) NB509_521.out _).trans (((cell_far (p := ⟨gb521, _, none⟩) NB509_521.out _).trans (hHeld.2.2.2.2.2))))))))))))⟩ (fun hHeld => ?_)
        clear hK K
        refine done_ (done_of HT_.out (by kernel_rfl)) ?_
        have n0_ : Aside0 (Kd.V k40 40 ((((((w37.setCell ⟨gb521, 0, none⟩ (.string (⟨#[]⟩ : ByteArray))).setCell ⟨gb521, 1, none⟩ (.slice none 0 0)).setCell ⟨gb521, 2, none⟩ (.string (⟨#[]⟩ : ByteArray))).setCell ⟨gb521, 3, none⟩ (.slice none 0 0)).setCell ⟨gb521, 4, none⟩ (.slice A0_4 l0_4.length c0_4)).setCell ⟨gb521, 5, none⟩ (.slice Ao38 y518.length co38)) w.heap.size (fun k_ => (P0_5_ k_ ∨ w.heap.size ≤ k_) ∧ some k_ ≠ (v513 : Value).ownBlock ∧ some k_ ≠ (.slice Ao38 y518.length co38 : Value).ownBlock ∧ k_ ≠ gb509 ∧ k_ ≠ gb521) (.slice A0_5 l0_5.length c0_5) l0_5) := ⟨by (with_reducible repeat (first | apply Kd.V_alloc | apply Kd.V_drewN | apply Kd.V_drew)); exact Kd.V_mono (Kd.V_far (p := ⟨gb521, 5, none⟩) (Kd.V_far (p := ⟨gb521, 4, none⟩) (Kd.V_far (p := ⟨gb521, 3, none⟩) (Kd.V_far (p := ⟨gb521, 2, none⟩) (Kd.V_far (p := ⟨gb521, 1, none⟩) (Kd.V_far (p := ⟨gb521, 0, none⟩) (Kd.V_mono HO0_5.out (fun k_ hk => (⟨hk, hk.2.2.2.2⟩ : _ ∧ k_ ≠ gb521))) (fun _ hk => hk.2) (.string (⟨#[]⟩ : ByteArray))) (fun _ hk => hk.2) (.slice none 0 0)) (fun _ hk => hk.2) (.string (⟨#[]⟩ : ByteArray))) (fun _ hk => hk.2) (.slice none 0 0)) (fun _ hk => hk.2) (.slice A0_4 l0_4.length c0_4)) (fun _ hk => hk.2) (.slice Ao38 y518.length co38)) (fun _ hk => ⟨hk.1.1, ⟨hk.1.2.1, ⟨hk.1.2.2.1, ⟨hk.1.2.2.2.1, hk.1.2.2.2.2⟩⟩⟩⟩)⟩
        have n1_ : Aside0 (Kd.N (Kd.slice 3 (Kd.int .i64)) 34 ((((((w37.setCell ⟨gb521, 0, none⟩ (.string (⟨#[]⟩ : ByteArray))).setCell ⟨gb521, 1, none⟩ (.slice none 0 0)).setCell ⟨gb521, 2, none⟩ (.string (⟨#[]⟩ : ByteArray))).setCell ⟨gb521, 3, none⟩ (.slice none 0 0)).setCell ⟨gb521, 4, none⟩ (.slice A0_4 l0_4.length c0_4)).setCell ⟨gb521, 5, none⟩ (.slice Ao38 y518.length co38)) w.heap.size (fun k_ => (P0_5_ k_ ∨ w.heap.size ≤ k_) ∧ some k_ ≠ (.slice Ao38 y518.length co38 : Value).ownBlock ∧ k_ ≠ gb509 ∧ k_ ≠ gb521) v513 t512) := ⟨by (with_reducible repeat (first | apply Kd.N_alloc | apply Kd.N_drewN | apply Kd.N_drew)); exact Kd.N_mono (Kd.N_far (p := ⟨gb521, 5, none⟩) (Kd.N_far (p := ⟨gb521, 4, none⟩) (Kd.N_far (p := ⟨gb521, 3, none⟩) (Kd.N_far (p := ⟨gb521, 2, none⟩) (Kd.N_far (p := ⟨gb521, 1, none⟩) (Kd.N_far (p := ⟨gb521, 0, none⟩) (Kd.N_mono HO514.out (fun k_ hk => (⟨hk, hk.2.2.2⟩ : _ ∧ k_ ≠ gb521))) (fun _ hk => hk.2) (.string (⟨#[]⟩ : ByteArray))) (fun _ hk => hk.2) (.slice none 0 0)) (fun _ hk => hk.2) (.string (⟨#[]⟩ : ByteArray))) (fun _ hk => hk.2) (.slice none 0 0)) (fun _ hk => hk.2) (.slice A0_4 l0_4.length c0_4)) (fun _ hk => hk.2) (.slice Ao38 y518.length co38)) (fun _ hk => ⟨hk.1.1, ⟨hk.1.2.1, ⟨hk.1.2.2.1, hk.1.2.2.2⟩⟩⟩)⟩
        have n2_ : Aside0 (Kd.N k40 40 ((((((w37.setCell ⟨gb521, 0, none⟩ (.string (⟨#[]⟩ : ByteArray))).setCell ⟨gb521, 1, none⟩ (.slice none 0 0)).setCell ⟨gb521, 2, none⟩ (.string (⟨#[]⟩ : ByteArray))).setCell ⟨gb521, 3, none⟩ (.slice none 0 0)).setCell ⟨gb521, 4, none⟩ (.slice A0_4 l0_4.length c0_4)).setCell ⟨gb521, 5, none⟩ (.slice Ao38 y518.length co38)) w.heap.size (fun k_ => (P0_5_ k_ ∨ w.heap.size ≤ k_) ∧ some k_ ≠ (v513 : Value).ownBlock ∧ k_ ≠ gb509 ∧ k_ ≠ gb521) (.slice Ao38 y518.length co38) y518) := ⟨by (with_reducible repeat (first | apply Kd.N_alloc | apply Kd.N_drewN | apply Kd.N_drew)); exact Kd.N_mono (Kd.N_far (p := ⟨gb521, 5, none⟩) (Kd.N_far (p := ⟨gb521, 4, none⟩) (Kd.N_far (p := ⟨gb521, 3, none⟩) (Kd.N_far (p := ⟨gb521, 2, none⟩) (Kd.N_far (p := ⟨gb521, 1, none⟩) (Kd.N_far (p := ⟨gb521, 0, none⟩) (Kd.N_mono HO520.out (fun k_ hk => (⟨hk, hk.2.2.2⟩ : _ ∧ k_ ≠ gb521))) (fun _ hk => hk.2) (.string (⟨#[]⟩ : ByteArray))) (fun _ hk => hk.2) (.slice none 0 0)) (fun _ hk => hk.2) (.string (⟨#[]⟩ : ByteArray))) (fun _ hk => hk.2) (.slice none 0 0)) (fun _ hk => hk.2) (.slice A0_4 l0_4.length c0_4)) (fun _ hk => hk.2) (.slice Ao38 y518.length co38)) (fun _ hk => ⟨hk.1.1, ⟨hk.1.2.1, ⟨hk.1.2.2.1, hk.1.2.2.2⟩⟩⟩)⟩
        have n3_ : Aside0 (((((((w37.setCell ⟨gb521, 0, none⟩ (.string (⟨#[]⟩ : ByteArray))).setCell ⟨gb521, 1, none⟩ (.slice none 0 0)).setCell ⟨gb521, 2, none⟩ (.string (⟨#[]⟩ : ByteArray))).setCell ⟨gb521, 3, none⟩ (.slice none 0 0)).setCell ⟨gb521, 4, none⟩ (.slice A0_4 l0_4.length c0_4)).setCell ⟨gb521, 5, none⟩ (.slice Ao38 y518.length co38)).heap[gb509]? = some (.cells #[.string a0_0, .slice A0_1 l0_1.length c0_1, .string a0_2, .slice A0_3 l0_3.length c0_3, .slice A0_4 l0_4.length c0_4, .slice A0_5 l0_5.length c0_5] 26 (0, 0))) := ⟨by (with_reducible repeat (first | refine blk_drewN ?_ _ | refine blk_drew ?_ | refine blk_alloc ?_ _)); refine blk_far ?_ NB509_521.out _; (with_reducible repeat (first | refine blk_drewN ?_ _ | refine blk_drew ?_ | refine blk_alloc ?_ _)); refine blk_far ?_ NB509_521.out _; (with_reducible repeat (first | refine blk_drewN ?_ _ | refine blk_drew ?_ | refine blk_alloc ?_ _)); refine blk_far ?_ NB509_521.out _; (with_reducible repeat (first | refine blk_drewN ?_ _ | refine blk_drew ?_ | refine blk_alloc ?_ _)); refine blk_far ?_ NB509_521.out _; (with_reducible repeat (first | refine blk_drewN ?_ _ | refine blk_drew ?_ | refine blk_alloc ?_ _)); refine blk_far ?_ NB509_521.out _; (with_reducible repeat (first | refine blk_drewN ?_ _ | refine blk_drew ?_ | refine blk_alloc ?_ _)); refine blk_far ?_ NB509_521.out _; (with_reducible repeat (first | refine blk_drewN ?_ _ | refine blk_drew ?_ | refine blk_alloc ?_ _)); exact BK509.out⟩
        have n4_ : Aside0 (((((((w37.setCell ⟨gb521, 0, none⟩ (.string (⟨#[]⟩ : ByteArray))).setCell ⟨gb521, 1, none⟩ (.slice none 0 0)).setCell ⟨gb521, 2, none⟩ (.string (⟨#[]⟩ : ByteArray))).setCell ⟨gb521, 3, none⟩ (.slice none 0 0)).setCell ⟨gb521, 4, none⟩ (.slice A0_4 l0_4.length c0_4)).setCell ⟨gb521, 5, none⟩ (.slice Ao38 y518.length co38)).heap[gb521]? = some (.cells #[.string (⟨#[]⟩ : ByteArray), .slice none 0 0, .string (⟨#[]⟩ : ByteArray), .slice none 0 0, .slice A0_4 l0_4.length c0_4, .slice Ao38 y518.length co38] 26 (0, 0))) := ⟨by (with_reducible repeat (first | refine blk_drewN ?_ _ | refine blk_drew ?_ | refine blk_alloc ?_ _)); refine blk_put (cs := #[.string (⟨#[]⟩ : ByteArray), .slice none 0 0, .string (⟨#[]⟩ : ByteArray), .slice none 0 0, .slice A0_4 l0_4.length c0_4, .slice none 0 0]) ?_ 5 _ rfl; (with_reducible repeat (first | refine blk_drewN ?_ _ | refine blk_drew ?_ | refine blk_alloc ?_ _)); refine blk_put (cs := #[.string (⟨#[]⟩ : ByteArray), .slice none 0 0, .string (⟨#[]⟩ : ByteArray), .slice none 0 0, .slice none 0 0, .slice none 0 0]) ?_ 4 _ rfl; (with_reducible repeat (first | refine blk_drewN ?_ _ | refine blk_drew ?_ | refine blk_alloc ?_ _)); refine blk_put (cs := #[.string (⟨#[]⟩ : ByteArray), .slice none 0 0, .string (⟨#[]⟩ : ByteArray), .slice none 0 0, .slice none 0 0, .slice none 0 0]) ?_ 3 _ rfl; (with_reducible repeat (first | refine blk_drewN ?_ _ | refine blk_drew ?_ | refine blk_alloc ?_ _)); refine blk_put (cs := #[.string (⟨#[]⟩ : ByteArray), .slice none 0 0, .string (⟨#[]⟩ : ByteArray), .slice none 0 0, .slice none 0 0, .slice none 0 0]) ?_ 2 _ rfl; (with_reducible repeat (first | refine blk_drewN ?_ _ | refine blk_drew ?_ | refine blk_alloc ?_ _)); refine blk_put (cs := #[.string (⟨#[]⟩ : ByteArray), .slice none 0 0, .string (⟨#[]⟩ : ByteArray), .slice none 0 0, .slice none 0 0, .slice none 0 0]) ?_ 1 _ rfl; (with_reducible repeat (first | refine blk_drewN ?_ _ | refine blk_drew ?_ | refine blk_alloc ?_ _)); refine blk_put (cs := #[.string (⟨#[]⟩ : ByteArray), .slice none 0 0, .string (⟨#[]⟩ : ByteArray), .slice none 0 0, .slice none 0 0, .slice none 0 0]) ?_ 0 _ rfl; (with_reducible repeat (first | refine blk_drewN ?_ _ | refine blk_drew ?_ | refine blk_alloc ?_ _)); exact BK521.out⟩
        have n5_ : Aside0 (Below w.heap.size w ((((((w37.setCell ⟨gb521, 0, none⟩ (.string (⟨#[]⟩ : ByteArray))).setCell ⟨gb521, 1, none⟩ (.slice none 0 0)).setCell ⟨gb521, 2, none⟩ (.string (⟨#[]⟩ : ByteArray))).setCell ⟨gb521, 3, none⟩ (.slice none 0 0)).setCell ⟨gb521, 4, none⟩ (.slice A0_4 l0_4.length c0_4)).setCell ⟨gb521, 5, none⟩ (.slice Ao38 y518.length co38))) := ⟨by repeat (first | (with_reducible first | exact HB.out | apply below_alloc | apply pw_below_drewN | apply below_drew1 | refine below_set ?_ GE509.out | refine below_set ?_ GE521.out) | exact HB.out)⟩
        (try clear HO0_5)
        (try clear HO514)
        (try clear HO520)
        (try clear BK509)
        (try clear BK521)
        (try clear HB)
        generalize ((((((w37.setCell ⟨gb521, 0, none⟩ (.string (⟨#[]⟩ : ByteArray))).setCell ⟨gb521, 1, none⟩ (.slice none 0 0)).setCell ⟨gb521, 2, none⟩ (.string (⟨#[]⟩ : ByteArray))).setCell ⟨gb521, 3, none⟩ (.slice none 0 0)).setCell ⟨gb521, 4, none⟩ (.slice A0_4 l0_4.length c0_4)).setCell ⟨gb521, 5, none⟩ (.slice Ao38 y518.length co38)) = w45 at n0_ n1_ n2_ n3_ n4_ n5_ ⊢
        have HO0_5 := n0_
        have HO514 := n1_
        have HO520 := n2_
        have BK509 := n3_
        have BK521 := n4_
        have HB := n5_
        clear n0_ n1_ n2_ n3_ n4_ n5_
        have hnb46 := NB521_509.out
        have hnc46 := NB509_521.out
        have hcz47_0 : w45.cell? ⟨gb521, 0, none⟩ = some (.string (⟨#[]⟩ : ByteArray)) := (blk_cell BK521.out 0).trans rfl
        have hcz47_1 : w45.cell? ⟨gb521, 1, none⟩ = some (.slice none 0 0) := (blk_cell BK521.out 1).trans rfl
        have hcz47_2 : w45.cell? ⟨gb521, 2, none⟩ = some (.string (⟨#[]⟩ : ByteArray)) := (blk_cell BK521.out 2).trans rfl
        have hcz47_3 : w45.cell? ⟨gb521, 3, none⟩ = some (.slice none 0 0) := (blk_cell BK521.out 3).trans rfl
        have hcz47_4 : w45.cell? ⟨gb521, 4, none⟩ = some (.slice A0_4 l0_4.length c0_4) := (blk_cell BK521.out 4).trans rfl
        have hcz47_5 : w45.cell? ⟨gb521, 5, none⟩ = some (.slice Ao38 y518.length co38) := (blk_cell BK521.out 5).trans rfl
        have hfz47_0 := blk_frozen BK521.out 0
        have hfz47_1 := blk_frozen BK521.out 1
        have hfz47_2 := blk_frozen BK521.out 2
        have hfz47_3 := blk_frozen BK521.out 3
        have hfz47_4 := blk_frozen BK521.out 4
        have hfz47_5 := blk_frozen BK521.out 5
        have p23 : 0 ≤ ((ji20) : Int) := of_decide_eq_true (by first | (with_reducible assumption) | assumption)
        have q23 : ((ji20) : Int) < ((y518.length : Int) : Int) := of_decide_eq_true (by first | (with_reducible assumption) | assumption)
        obtain ⟨go23, co23, eo23, gb23, gl23, cl23, HG23⟩ := Kd.N_form HO520.out (by omega)
        (first | cases eo23 | (injection eo23 with ea_ en_ ec_; (first | subst ea_ | (injection ea_ with ea_; subst ea_)); subst ec_; clear en_))
        have GB23 := Aside0.mk gb23
        have GG23 := Aside0.mk HG23
        clear gb23 gl23 HG23
        obtain ⟨ce23, hcl23, hM23, hcc23, hfr23⟩ := Kd.N_elem HO520.out z40 ((ji20) : Int) p23 q23
        obtain ⟨ua23_0, uc23_0, rfl, ul23_0, ge23_0⟩ := k40_openF hM23
        have hx23_0 : w45.cell? ⟨go23, ((ji20) : Int).toNat * 5, none⟩ = some (.slice ua23_0 ((rd_T40 y518 (ji20)).f0).length uc23_0) := hcc23 0 _ rfl
        have hx23_1 : w45.cell? ⟨go23, ((ji20) : Int).toNat * 5 + 1, none⟩ = some (.int .i64 ((rd_T40 y518 (ji20)).f1)) := hcc23 1 _ rfl
        have hx23_2 : w45.cell? ⟨go23, ((ji20) : Int).toNat * 5 + 2, none⟩ = some (.int .i64 ((rd_T40 y518 (ji20)).f2)) := hcc23 2 _ rfl
        have hx23_3 : w45.cell? ⟨go23, ((ji20) : Int).toNat * 5 + 3, none⟩ = some (.int .i64 ((rd_T40 y518 (ji20)).f3.f0)) := hcc23 3 _ rfl
        have hx23_4 : w45.cell? ⟨go23, ((ji20) : Int).toNat * 5 + 4, none⟩ = some (.int .i64 ((rd_T40 y518 (ji20)).f3.f1)) := hcc23 4 _ rfl
        have hf23_0 : w45.frozen? ⟨go23, ((ji20) : Int).toNat * 5, none⟩ = false := hfr23 0
        have hf23_1 : w45.frozen? ⟨go23, ((ji20) : Int).toNat * 5 + 1, none⟩ = false := hfr23 1
        have hf23_2 : w45.frozen? ⟨go23, ((ji20) : Int).toNat * 5 + 2, none⟩ = false := hfr23 2
        have hf23_3 : w45.frozen? ⟨go23, ((ji20) : Int).toNat * 5 + 3, none⟩ = false := hfr23 3
        have hf23_4 : w45.frozen? ⟨go23, ((ji20) : Int).toNat * 5 + 4, none⟩ = false := hfr23 4
        clear hcl23 hcc23 hfr23 hM23
        replace p23 := eq_true p23
        replace q23 := eq_true q23
        have HX48 := Aside0.mk (show Kd.N k40 40 w45 w.heap.size (fun k_ => (P0_5_ k_ ∨ w.heap.size ≤ k_) ∧ some k_ ≠ (v513 : Value).ownBlock ∧ k_ ≠ gb509 ∧ k_ ≠ gb521) (.slice (some ⟨go23, 0, none⟩) y518.length co38) y518 from (by (with_reducible repeat (first | apply Kd.N_alloc | apply Kd.N_drewN | apply Kd.N_drew)); exact HO520.out))
        obtain ⟨ce48, hcl48, hM48, hcc48, hfr48⟩ := Kd.N_elem HX48.out z40 ((ji20) : Int) (of_decide_eq_true (by first | (with_reducible assumption) | assumption)) (by have h_ : ((ji20) : Int) < ((y518.length : Int) : Int) := of_decide_eq_true (by first | (with_reducible assumption) | assumption); first | exact h_ | (have e_ := (Kd.N_reads' HO520.out).1; omega) | simpa using h_)
        obtain ⟨ua48_0, uc48_0, rfl, ul48_0, ge48_0⟩ := k40_openF hM48
        have HP48 := Kd.N_seg HX48.out ((ji20) : Int) (of_decide_eq_true (by first | (with_reducible assumption) | assumption)) (by have h_ : ((ji20) : Int) < ((y518.length : Int) : Int) := of_decide_eq_true (by first | (with_reducible assumption) | assumption); first | exact h_ | (have e_ := (Kd.N_reads' HO520.out).1; omega) | simpa using h_) (seg := [.int .i64 3]) (j := 1) hcl48 hcc48 (show 2 ≤ 5 from by decide) (x' := (⟨(rd_T40 y518 (ji20)).f0, 3, (rd_T40 y518 (ji20)).f2, (⟨(rd_T40 y518 (ji20)).f3.f0, (rd_T40 y518 (ji20)).f3.f1⟩ : S38)⟩ : S40)) (k40_mkF _ _ (⟨(rd_T40 y518 (ji20)).f0, 3, (rd_T40 y518 (ji20)).f2, (⟨(rd_T40 y518 (ji20)).f3.f0, (rd_T40 y518 (ji20)).f3.f1⟩ : S38)⟩ : S40) ul48_0 ge48_0) (fun _ hk => hk)
        have hx48_1 := hcc48 1 _ rfl
        (try simp only [show (k40).sz = 5 from rfl, Nat.mul_one, Nat.add_zero] at hx48_1)
        have hf48_1 := hfr48 1
        (try simp only [show (k40).sz = 5 from rfl, Nat.mul_one, Nat.add_zero] at hf48_1)
        clear hcl48 hcc48 hfr48 hM48
        try go_wp2_with (first | ((with_reducible refine gate_store (t := 3) (p := 47) rfl ?_); refine store_event (t := 3) (p := 47) (v := ?vo_w49) (w1 := (w45.setCell ⟨go23, ((ji20) : Int).toNat * 5 + 1, none⟩ (.int .i64 3))) ?hg ?ho ?hn ?hr ?_; (case ho => rfl); (case hg => rfl); (case hn => rfl); (case hr => first | (go_simp; done) | (go_simp; rfl)); intro w49 hw; have hg : w45.grownBy w49 (some go23) := (by rw [hw]; exact HP48.2); have hp_ : Kd.N k40 40 w49 w.heap.size (fun k_ => (P0_5_ k_ ∨ w.heap.size ≤ k_) ∧ some k_ ≠ (v513 : Value).ownBlock ∧ k_ ≠ gb509 ∧ k_ ≠ gb521) (.slice (some ⟨go23, 0, none⟩) y518.length co38) y522 := (by rw [hw, Ny522.out]; exact HP48.1); clear HP48; have n0_ := Aside0.mk (Kd.V_afterv (v := (.slice (some ⟨go23, 0, none⟩) y518.length co38)) (v1 := (.slice (some ⟨go23, 0, none⟩) y518.length co38)) (ok := (fun k_ => (P0_5_ k_ ∨ w.heap.size ≤ k_) ∧ some k_ ≠ (v513 : Value).ownBlock ∧ k_ ≠ gb509 ∧ k_ ≠ gb521)) (by (with_reducible repeat (first | apply Kd.V_alloc | apply Kd.V_drewN | apply Kd.V_drew)); exact Kd.V_mono HO0_5.out (fun _ hk => ⟨⟨hk.1, ⟨hk.2.1, ⟨hk.2.2.2.1, hk.2.2.2.2⟩⟩⟩, hk.2.2.1⟩)) hg (.inl rfl)); have n1_ := Aside0.mk (blk_grown (g := gb509) (o := .cells #[.string a0_0, .slice A0_1 l0_1.length c0_1, .string a0_2, .slice A0_3 l0_3.length c0_3, .slice A0_4 l0_4.length c0_4, .slice A0_5 l0_5.length c0_5] 26 (0, 0)) (by (with_reducible repeat (first | refine blk_drewN ?_ _ | refine blk_drew ?_ | refine blk_alloc ?_ _)); exact BK509.out) hg (Kd.N_ne HO520.out BK509.out (by decide))); have n2_ := Aside0.mk (Kd.N_afterv (v := (.slice (some ⟨go23, 0, none⟩) y518.length co38)) (v1 := (.slice (some ⟨go23, 0, none⟩) y518.length co38)) (ok := (fun k_ => (P0_5_ k_ ∨ w.heap.size ≤ k_) ∧ k_ ≠ gb509 ∧ k_ ≠ gb521)) (by (with_reducible repeat (first | apply Kd.N_alloc | apply Kd.N_drewN | apply Kd.N_drew)); exact Kd.N_mono HO514.out (fun _ hk => ⟨⟨hk.1, ⟨hk.2.2.1, hk.2.2.2⟩⟩, hk.2.1⟩)) hg (.inl rfl)); have n3_ := Aside0.mk (hp_); have n4_ := Aside0.mk (blk_grown (g := gb521) (o := .cells #[.string (⟨#[]⟩ : ByteArray), .slice none 0 0, .string (⟨#[]⟩ : ByteArray), .slice none 0 0, .slice A0_4 l0_4.length c0_4, .slice (some ⟨go23, 0, none⟩) y518.length co38] 26 (0, 0)) (by (with_reducible repeat (first | refine blk_drewN ?_ _ | refine blk_drew ?_ | refine blk_alloc ?_ _)); exact BK521.out) hg (Kd.N_ne HO520.out BK521.out (by decide))); have n5_ := Aside0.mk ((by rw [hw]; exact below_set (HB.out) GB23.out : Below w.heap.size w w49)); clear HO0_5; clear BK509; clear HO514; clear HO520; clear BK521; clear HB; have HO0_5 := n0_; have BK509 := n1_; have HO514 := n2_; have HO520 := n3_; have BK521 := n4_; have HB := n5_; clear n0_ n1_ n2_ n3_ n4_ n5_; clear hg hw hp_))
        go_loopg [8] k (fun kq v8 w' => ∃ (x8_1 : Int), v8 = .int .i64 x8_1 ∧ Aside0 (truantlaw09_FlowTurned.l0 kq t512 ji20 x8_1 a0_0 l0_1 a0_2 l0_3 l0_4 l0_5 (⟨#[]⟩ : ByteArray) (⟨#[]⟩ : ByteArray) l0_4 y522 = some r) ∧ Aside0 (kq ≤ k) ∧ Aside0 (Kd.N (Kd.slice 3 (Kd.int .i64)) 34 w' w.heap.size (fun k_ => (P0_5_ k_ ∨ w.heap.size ≤ k_) ∧ some k_ ≠ ((.slice (some ⟨go23, 0, none⟩) y518.length co38) : Value).ownBlock ∧ k_ ≠ gb509 ∧ k_ ≠ gb521) v513 t512) ∧ Aside0 (Kd.V k40 40 w' w.heap.size (fun k_ => (P0_5_ k_ ∨ w.heap.size ≤ k_) ∧ some k_ ≠ (v513 : Value).ownBlock ∧ some k_ ≠ ((.slice (some ⟨go23, 0, none⟩) y518.length co38) : Value).ownBlock ∧ k_ ≠ gb509 ∧ k_ ≠ gb521) (.slice A0_5 l0_5.length c0_5) l0_5) ∧ Aside0 (Kd.N k40 40 w' w.heap.size (fun k_ => (P0_5_ k_ ∨ w.heap.size ≤ k_) ∧ some k_ ≠ (v513 : Value).ownBlock ∧ k_ ≠ gb509 ∧ k_ ≠ gb521) (.slice (some ⟨go23, 0, none⟩) y518.length co38) y522) ∧ Aside0 (w'.heap[gb509]? = some (.cells #[.string a0_0, (.slice A0_1 l0_1.length c0_1), .string a0_2, (.slice A0_3 l0_3.length c0_3), (.slice A0_4 l0_4.length c0_4), (.slice A0_5 l0_5.length c0_5)] 26 (0, 0))) ∧ Aside0 (w'.heap[gb521]? = some (.cells #[.string (⟨#[]⟩ : ByteArray), (.slice none 0 0), .string (⟨#[]⟩ : ByteArray), (.slice none 0 0), (.slice A0_4 l0_4.length c0_4), (.slice (some ⟨go23, 0, none⟩) y518.length co38)] 26 (0, 0))) ∧ Aside0 (Below w.heap.size w w'))
        case atStart => exact ⟨(0), (by first | rfl | (simp; done) | (simp [*]; done)), H', ⟨Nat.le_refl _⟩, ⟨by (with_reducible repeat (first | apply Kd.N_alloc | apply Kd.N_drewN | apply Kd.N_drew)); exact Kd.N_mono HO514.out (fun _ hk => ⟨hk.1.1, ⟨hk.2, ⟨hk.1.2.1, hk.1.2.2⟩⟩⟩)⟩, ⟨by (with_reducible repeat (first | apply Kd.V_alloc | apply Kd.V_drewN | apply Kd.V_drew)); exact Kd.V_mono HO0_5.out (fun _ hk => ⟨hk.1.1, ⟨hk.1.2.1, ⟨hk.2, ⟨hk.1.2.2.1, hk.1.2.2.2⟩⟩⟩⟩)⟩, ⟨by (with_reducible repeat (first | apply Kd.N_alloc | apply Kd.N_drewN | apply Kd.N_drew)); exact HO520.out⟩, ⟨by (with_reducible repeat (first | refine blk_drewN ?_ _ | refine blk_drew ?_ | refine blk_alloc ?_ _)); exact BK509.out⟩, ⟨by (with_reducible repeat (first | refine blk_drewN ?_ _ | refine blk_drew ?_ | refine blk_alloc ?_ _)); exact BK521.out⟩, ⟨by repeat (first | (with_reducible first | exact HB.out | apply below_alloc | apply pw_below_drewN | apply below_drew1 | refine below_set ?_ GE509.out | refine below_set ?_ GE521.out) | exact HB.out)⟩⟩
        case round =>
         clear H'
         try clear c1
         try clear c2
         try clear p2
         try clear q2
         try clear hx2
         try clear hf2
         try clear c4
         try clear hx4
         try clear hf4
         try clear c6
         try clear p6
         try clear c11
         try clear c11b0
         try clear c11b1
         try clear c11b2
         try clear c14
         try clear c15
         try clear c16
         try clear c18
         try clear c18b0
         try clear c18b1
         try clear c19
         try clear c21
         try clear c21b0
         try clear c22
         try clear c22b0
         try clear c23
         try clear p23
         try clear q23
         try clear hx23
         try clear hf23
         try clear c46
         try clear c48
         try clear hx48
         try clear hf48
         try clear hcz14_0
         try clear hcz14_1
         try clear hcz14_2
         try clear hcz14_3
         try clear hcz14_4
         try clear hcz14_5
         try clear hcz16_0
         try clear hcz16_1
         try clear hcz16_2
         try clear hcz16_3
         try clear hcz16_4
         try clear hcz16_5
         try clear hcz26_0
         try clear hcz26_1
         try clear hcz26_2
         try clear hcz26_3
         try clear hcz26_4
         try clear hcz26_5
         try clear hcz28_0
         try clear hcz28_1
         try clear hcz28_2
         try clear hcz28_3
         try clear hcz28_4
         try clear hcz28_5
         try clear hcz30_0
         try clear hcz30_1
         try clear hcz30_2
         try clear hcz30_3
         try clear hcz30_4
         try clear hcz30_5
         try clear hcz47_0
         try clear hcz47_1
         try clear hcz47_2
         try clear hcz47_3
         try clear hcz47_4
         try clear hcz47_5
         try clear hcz9_0
         try clear hcz9_1
         try clear hcz9_2
         try clear hcz9_3
         try clear hcz9_4
         try clear hcz9_5
         try clear hfz14_0
         try clear hfz14_1
         try clear hfz14_2
         try clear hfz14_3
         try clear hfz14_4
         try clear hfz14_5
         try clear hfz16_0
         try clear hfz16_1
         try clear hfz16_2
         try clear hfz16_3
         try clear hfz16_4
         try clear hfz16_5
         try clear hfz26_0
         try clear hfz26_1
         try clear hfz26_2
         try clear hfz26_3
         try clear hfz26_4
         try clear hfz26_5
         try clear hfz28_0
         try clear hfz28_1
         try clear hfz28_2
         try clear hfz28_3
         try clear hfz28_4
         try clear hfz28_5
         try clear hfz30_0
         try clear hfz30_1
         try clear hfz30_2
         try clear hfz30_3
         try clear hfz30_4
         try clear hfz30_5
         try clear hfz47_0
         try clear hfz47_1
         try clear hfz47_2
         try clear hfz47_3
         try clear hfz47_4
         try clear hfz47_5
         try clear hfz9_0
         try clear hfz9_1
         try clear hfz9_2
         try clear hfz9_3
         try clear hfz9_4
         try clear hfz9_5
         try clear hx23_0
         try clear hx23_1
         try clear hx23_2
         try clear hx23_3
         try clear hx23_4
         try clear hx48_1
         try clear p23
         try clear q23
         obtain ⟨x8_1, rfl, HA, HK1, HO_5, HO_510005, HO_522005, BK509, BK521, HB⟩ := hrel
         have hl522005_1 := (Kd.N_reads' HO_522005.out).1
         rw [hl522005_1] at HO_522005
         (try simp only [hl522005_1])
         (try simp only [hl522005_1] at BK509)
         (try simp only [hl522005_1] at BK521)
         (try simp only [hl522005_1] at HO_5)
         (try simp only [hl522005_1] at HO_510005)
         cases gk with
         | zero => exact absurd HA.out (by simp [truantlaw09_FlowTurned.l0])
         | succ k1 =>
          have H := HA.out
          clear HA
          simp only [truantlaw09_FlowTurned.l0] at H
          by_cases c50 : x8_1 < (l0_5.length : Int)
          ·rw [if_pos c50] at H
           have c50b0 : decide (x8_1 < (l0_5.length : Int)) = true := decide_eq_true c50
           clear c50
           replace H := Option.bind_eq_some_iff.mp H
           obtain ⟨t523, A510, H⟩ := H
           replace H : (truantlaw09_FlowTurned.l1 k1 t512 ji20 x8_1 t523 0 0 a0_0 l0_1 a0_2 l0_3 l0_4 l0_5 (⟨#[]⟩ : ByteArray) (⟨#[]⟩ : ByteArray) l0_4 y522) = some r := H
           have A51 := Aside0.mk A510
           clear A510
           have H' := Aside0.mk H
           clear H
           have hnb52 := NB509_521.out
           have hnc52 := NB521_509.out
           have hcz53_0 : wr.cell? ⟨gb509, 0, none⟩ = some (.string a0_0) := (blk_cell BK509.out 0).trans rfl
           have hcz53_1 : wr.cell? ⟨gb509, 1, none⟩ = some (.slice A0_1 l0_1.length c0_1) := (blk_cell BK509.out 1).trans rfl
           have hcz53_2 : wr.cell? ⟨gb509, 2, none⟩ = some (.string a0_2) := (blk_cell BK509.out 2).trans rfl
           have hcz53_3 : wr.cell? ⟨gb509, 3, none⟩ = some (.slice A0_3 l0_3.length c0_3) := (blk_cell BK509.out 3).trans rfl
           have hcz53_4 : wr.cell? ⟨gb509, 4, none⟩ = some (.slice A0_4 l0_4.length c0_4) := (blk_cell BK509.out 4).trans rfl
           have hcz53_5 : wr.cell? ⟨gb509, 5, none⟩ = some (.slice A0_5 l0_5.length c0_5) := (blk_cell BK509.out 5).trans rfl
           have hfz53_0 := blk_frozen BK509.out 0
           have hfz53_1 := blk_frozen BK509.out 1
           have hfz53_2 := blk_frozen BK509.out 2
           have hfz53_3 := blk_frozen BK509.out 3
           have hfz53_4 := blk_frozen BK509.out 4
           have hfz53_5 := blk_frozen BK509.out 5
           go_wp2_with (first | ((with_reducible refine gate_callee (f := 20) rfl ?_); refine goesL_ (some 57) rfl rfl Try.func20 (by kernel_rfl) rfl #[.agg #[.string a0_0, .slice A0_1 l0_1.length c0_1, .string a0_2, .slice A0_3 l0_3.length c0_3, .slice A0_4 l0_4.length c0_4, .slice A0_5 l0_5.length c0_5], .int .i64 x8_1] rfl (by (try simp only [List.map_toArray, List.map_cons, List.map_nil]); first | done | rfl | (simp only [List.length_drop, List.length_take]; rfl)) ?_; (with_reducible refine (flow_Next.calls a0_0 _ _ l0_1 a0_2 _ _ l0_3 _ _ l0_4 _ _ l0_5 x8_1 t523 _ ?side1 ?side2 ?side3 ?side4 ?side5 ?side6 ?side7 ?side8 A51.out).mono ?_); (case side1 => repeat (first | exact (Kd.C_below HR0_1.out HB.out) | (with_reducible refine Kd.C_alloc ?_ _) | (with_reducible refine Kd.C_drewN ?_ _) | (with_reducible refine Kd.C_drew ?_))); (case side2 => exact HC0_1.out); (case side3 => repeat (first | exact (Kd.C_below HR0_3.out HB.out) | (with_reducible refine Kd.C_alloc ?_ _) | (with_reducible refine Kd.C_drewN ?_ _) | (with_reducible refine Kd.C_drew ?_))); (case side4 => exact HC0_3.out); (case side5 => repeat (first | exact (Kd.C_below HR0_4.out HB.out) | (with_reducible refine Kd.C_alloc ?_ _) | (with_reducible refine Kd.C_drewN ?_ _) | (with_reducible refine Kd.C_drew ?_))); (case side6 => exact HC0_4.out); (case side7 => repeat (first | exact (Kd.V_reads' HO_510005.out).2.2 | (with_reducible refine Kd.C_alloc ?_ _) | (with_reducible refine Kd.C_drewN ?_ _) | (with_reducible refine Kd.C_drew ?_))); (case side8 => exact (Kd.V_reads' HO_510005.out).2.1); rintro e w54 ⟨v524, rfl, ho0, hb⟩; refine ⟨_, rfl, ?_⟩; have n0_ := Aside0.mk (Kd.N_elder' (by (with_reducible repeat (first | apply Kd.N_alloc | apply Kd.N_drewN | apply Kd.N_drew)); exact HO_5.out) (Kd.R_base ho0) hb); have n1_ := Aside0.mk (Kd.V_elder' (by (with_reducible repeat (first | apply Kd.V_alloc | apply Kd.V_drewN | apply Kd.V_drew)); exact HO_510005.out) (Kd.R_base ho0) hb); have n2_ := Aside0.mk (Kd.N_elder' (by (with_reducible repeat (first | apply Kd.N_alloc | apply Kd.N_drewN | apply Kd.N_drew)); exact HO_522005.out) (Kd.R_base ho0) hb); have n3_ := Aside0.mk (Kd.R_lower (Kd.R_newM (M := fun k_ => (w.heap.size ≤ k_)) ho0 (below_size (by repeat (first | (with_reducible first | exact HB.out | apply below_alloc | apply pw_below_drewN | apply below_drew1 | refine below_set ?_ GE509.out | refine below_set ?_ GE521.out) | exact HB.out))) (fun k_ h_ => h_)) (below_size (by repeat (first | (with_reducible first | exact HB.out | apply below_alloc | apply pw_below_drewN | apply below_drew1 | refine below_set ?_ GE509.out | refine below_set ?_ GE521.out) | exact HB.out)))); have n4_ := Aside0.mk (blk_below (g := gb509) (o := .cells #[.string a0_0, .slice A0_1 l0_1.length c0_1, .string a0_2, .slice A0_3 l0_3.length c0_3, .slice A0_4 l0_4.length c0_4, .slice A0_5 l0_5.length c0_5] 26 (0, 0)) (by (with_reducible repeat (first | refine blk_drewN ?_ _ | refine blk_drew ?_ | refine blk_alloc ?_ _)); exact BK509.out) hb); have n5_ := Aside0.mk (blk_below (g := gb521) (o := .cells #[.string (⟨#[]⟩ : ByteArray), .slice none 0 0, .string (⟨#[]⟩ : ByteArray), .slice none 0 0, .slice A0_4 l0_4.length c0_4, .slice (some ⟨go23, 0, none⟩) y522.length co38] 26 (0, 0)) (by (with_reducible repeat (first | refine blk_drewN ?_ _ | refine blk_drew ?_ | refine blk_alloc ?_ _)); exact BK521.out) hb); have n6_ := Aside0.mk (below_step (by repeat (first | (with_reducible first | exact HB.out | apply below_alloc | apply pw_below_drewN | apply below_drew1 | refine below_set ?_ GE509.out | refine below_set ?_ GE521.out) | exact HB.out)) hb); clear HO_5; clear HO_510005; clear HO_522005; clear BK509; clear BK521; clear HB; have HO_5 := n0_; have HO_510005 := n1_; have HO_522005 := n2_; have HO525 := n3_; have BK509 := n4_; have BK521 := n5_; have HB := n6_; clear n0_ n1_ n2_ n3_ n4_ n5_ n6_; (try clear hb); (try clear hb2); (try clear hk); (try clear hi); (try clear ho0)))
           go_loopg [10, 11] k1 (fun kq v10 v11 w' => ∃ (x10_2 : Int) (x11_2 : Int), v10 = .int .i64 x10_2 ∧ v11 = .int .i64 x11_2 ∧ Aside0 (truantlaw09_FlowTurned.l1 kq t512 ji20 x8_1 t523 x10_2 x11_2 a0_0 l0_1 a0_2 l0_3 l0_4 l0_5 (⟨#[]⟩ : ByteArray) (⟨#[]⟩ : ByteArray) l0_4 y522 = some r) ∧ Aside0 (kq ≤ k1) ∧ Aside0 (Kd.N (Kd.slice 3 (Kd.int .i64)) 34 w' w.heap.size (fun k_ => (P0_5_ k_ ∨ w.heap.size ≤ k_) ∧ some k_ ≠ (v524 : Value).ownBlock ∧ some k_ ≠ ((.slice (some ⟨go23, 0, none⟩) y522.length co38) : Value).ownBlock ∧ k_ ≠ gb509 ∧ k_ ≠ gb521) v513 t512) ∧ Aside0 (Kd.R (Kd.int .i64) 3 w' w.heap.size (fun k_ => (w.heap.size ≤ k_)) v524 t523) ∧ Aside0 (Kd.V k40 40 w' w.heap.size (fun k_ => (P0_5_ k_ ∨ w.heap.size ≤ k_) ∧ some k_ ≠ (v513 : Value).ownBlock ∧ some k_ ≠ (v524 : Value).ownBlock ∧ some k_ ≠ ((.slice (some ⟨go23, 0, none⟩) y522.length co38) : Value).ownBlock ∧ k_ ≠ gb509 ∧ k_ ≠ gb521) (.slice A0_5 l0_5.length c0_5) l0_5) ∧ Aside0 (Kd.N k40 40 w' w.heap.size (fun k_ => (P0_5_ k_ ∨ w.heap.size ≤ k_) ∧ some k_ ≠ (v513 : Value).ownBlock ∧ some k_ ≠ (v524 : Value).ownBlock ∧ k_ ≠ gb509 ∧ k_ ≠ gb521) (.slice (some ⟨go23, 0, none⟩) y522.length co38) y522) ∧ Aside0 (w'.heap[gb509]? = some (.cells #[.string a0_0, (.slice A0_1 l0_1.length c0_1), .string a0_2, (.slice A0_3 l0_3.length c0_3), (.slice A0_4 l0_4.length c0_4), (.slice A0_5 l0_5.length c0_5)] 26 (0, 0))) ∧ Aside0 (w'.heap[gb521]? = some (.cells #[.string (⟨#[]⟩ : ByteArray), (.slice none 0 0), .string (⟨#[]⟩ : ByteArray), (.slice none 0 0), (.slice A0_4 l0_4.length c0_4), (.slice (some ⟨go23, 0, none⟩) y522.length co38)] 26 (0, 0))) ∧ Aside0 (Below w.heap.size w w'))
           case atStart => exact ⟨(0), (0), (by first | rfl | (simp; done) | (simp [*]; done)), (by first | rfl | (simp; done) | (simp [*]; done)), H', ⟨Nat.le_refl _⟩, ⟨by (try simp only [hl522005_1]); (with_reducible repeat (first | apply Kd.N_alloc | apply Kd.N_drewN | apply Kd.N_drew)); exact Kd.N_mono HO_5.out (fun _ hk => ⟨hk.1.1, ⟨hk.2, ⟨hk.1.2.1, ⟨hk.1.2.2.1, hk.1.2.2.2⟩⟩⟩⟩)⟩, ⟨by (try simp only [hl522005_1]); (with_reducible repeat (first | apply Kd.R_alloc | apply Kd.R_drewN | apply Kd.R_drew)); exact Kd.R_mono HO525.out (fun _ hk => hk.1)⟩, ⟨by (try simp only [hl522005_1]); (with_reducible repeat (first | apply Kd.V_alloc | apply Kd.V_drewN | apply Kd.V_drew)); exact Kd.V_mono HO_510005.out (fun _ hk => ⟨hk.1.1, ⟨hk.1.2.1, ⟨hk.2, ⟨hk.1.2.2.1, ⟨hk.1.2.2.2.1, hk.1.2.2.2.2⟩⟩⟩⟩⟩)⟩, ⟨by (try simp only [hl522005_1]); (with_reducible repeat (first | apply Kd.N_alloc | apply Kd.N_drewN | apply Kd.N_drew)); exact Kd.N_mono HO_522005.out (fun _ hk => ⟨hk.1.1, ⟨hk.1.2.1, ⟨hk.2, ⟨hk.1.2.2.1, hk.1.2.2.2⟩⟩⟩⟩)⟩, ⟨by (try simp only [hl522005_1]); (with_reducible repeat (first | refine blk_drewN ?_ _ | refine blk_drew ?_ | refine blk_alloc ?_ _)); exact BK509.out⟩, ⟨by (try simp only [hl522005_1]); (with_reducible repeat (first | refine blk_drewN ?_ _ | refine blk_drew ?_ | refine blk_alloc ?_ _)); exact BK521.out⟩, ⟨by repeat (first | (with_reducible first | exact HB.out | apply below_alloc | apply pw_below_drewN | apply below_drew1 | refine below_set ?_ GE509.out | refine below_set ?_ GE521.out) | exact HB.out)⟩⟩
           case round =>
            clear H'
            try clear c1
            try clear c2
            try clear p2
            try clear q2
            try clear hx2
            try clear hf2
            try clear c4
            try clear hx4
            try clear hf4
            try clear c5
            try clear c6
            try clear p6
            try clear c11
            try clear c11b0
            try clear c11b1
            try clear c11b2
            try clear c14
            try clear c15
            try clear c16
            try clear c18
            try clear c18b0
            try clear c18b1
            try clear c19
            try clear c20
            try clear c21
            try clear c21b0
            try clear c22
            try clear c22b0
            try clear c23
            try clear p23
            try clear q23
            try clear hx23
            try clear hf23
            try clear c46
            try clear c48
            try clear hx48
            try clear hf48
            try clear c50
            try clear c50b0
            try clear c52
            try clear hcz14_0
            try clear hcz14_1
            try clear hcz14_2
            try clear hcz14_3
            try clear hcz14_4
            try clear hcz14_5
            try clear hcz16_0
            try clear hcz16_1
            try clear hcz16_2
            try clear hcz16_3
            try clear hcz16_4
            try clear hcz16_5
            try clear hcz26_0
            try clear hcz26_1
            try clear hcz26_2
            try clear hcz26_3
            try clear hcz26_4
            try clear hcz26_5
            try clear hcz28_0
            try clear hcz28_1
            try clear hcz28_2
            try clear hcz28_3
            try clear hcz28_4
            try clear hcz28_5
            try clear hcz30_0
            try clear hcz30_1
            try clear hcz30_2
            try clear hcz30_3
            try clear hcz30_4
            try clear hcz30_5
            try clear hcz47_0
            try clear hcz47_1
            try clear hcz47_2
            try clear hcz47_3
            try clear hcz47_4
            try clear hcz47_5
            try clear hcz53_0
            try clear hcz53_1
            try clear hcz53_2
            try clear hcz53_3
            try clear hcz53_4
            try clear hcz53_5
            try clear hcz9_0
            try clear hcz9_1
            try clear hcz9_2
            try clear hcz9_3
            try clear hcz9_4
            try clear hcz9_5
            try clear hfz14_0
            try clear hfz14_1
            try clear hfz14_2
            try clear hfz14_3
            try clear hfz14_4
            try clear hfz14_5
            try clear hfz16_0
            try clear hfz16_1
            try clear hfz16_2
            try clear hfz16_3
            try clear hfz16_4
            try clear hfz16_5
            try clear hfz26_0
            try clear hfz26_1
            try clear hfz26_2
            try clear hfz26_3
            try clear hfz26_4
            try clear hfz26_5
            try clear hfz28_0
            try clear hfz28_1
            try clear hfz28_2
            try clear hfz28_3
            try clear hfz28_4
            try clear hfz28_5
            try clear hfz30_0
            try clear hfz30_1
            try clear hfz30_2
            try clear hfz30_3
            try clear hfz30_4
            try clear hfz30_5
            try clear hfz47_0
            try clear hfz47_1
            try clear hfz47_2
            try clear hfz47_3
            try clear hfz47_4
            try clear hfz47_5
            try clear hfz53_0
            try clear hfz53_1
            try clear hfz53_2
            try clear hfz53_3
            try clear hfz53_4
            try clear hfz53_5
            try clear hfz9_0
            try clear hfz9_1
            try clear hfz9_2
            try clear hfz9_3
            try clear hfz9_4
            try clear hfz9_5
            try clear hx23_0
            try clear hx23_1
            try clear hx23_2
            try clear hx23_3
            try clear hx23_4
            try clear hx48_1
            try clear p2
            try clear p23
            try clear p6
            try clear q2
            try clear q23
            obtain ⟨x10_2, x11_2, rfl, rfl, HA, HK2, HO_5, HO_9, HO_510005, HO_522005, BK509, BK521, HB⟩ := hrel
            cases gk with
            | zero => exact absurd HA.out (by simp [truantlaw09_FlowTurned.l1])
            | succ k2 =>
             have H := HA.out
             clear HA
             simp only [truantlaw09_FlowTurned.l1] at H
             by_cases c55 : x11_2 < (l0_5.length : Int)
             ·rw [if_pos c55] at H
              have c55b0 : decide (x11_2 < (l0_5.length : Int)) = true := decide_eq_true c55
              clear c55
              have H' := Aside0.mk H
              clear H
              have hnb56 := NB509_521.out
              have hnc56 := NB521_509.out
              have hcz57_0 : wr.cell? ⟨gb509, 0, none⟩ = some (.string a0_0) := (blk_cell BK509.out 0).trans rfl
              have hcz57_1 : wr.cell? ⟨gb509, 1, none⟩ = some (.slice A0_1 l0_1.length c0_1) := (blk_cell BK509.out 1).trans rfl
              have hcz57_2 : wr.cell? ⟨gb509, 2, none⟩ = some (.string a0_2) := (blk_cell BK509.out 2).trans rfl
              have hcz57_3 : wr.cell? ⟨gb509, 3, none⟩ = some (.slice A0_3 l0_3.length c0_3) := (blk_cell BK509.out 3).trans rfl
              have hcz57_4 : wr.cell? ⟨gb509, 4, none⟩ = some (.slice A0_4 l0_4.length c0_4) := (blk_cell BK509.out 4).trans rfl
              have hcz57_5 : wr.cell? ⟨gb509, 5, none⟩ = some (.slice A0_5 l0_5.length c0_5) := (blk_cell BK509.out 5).trans rfl
              have hfz57_0 := blk_frozen BK509.out 0
              have hfz57_1 := blk_frozen BK509.out 1
              have hfz57_2 := blk_frozen BK509.out 2
              have hfz57_3 := blk_frozen BK509.out 3
              have hfz57_4 := blk_frozen BK509.out 4
              have hfz57_5 := blk_frozen BK509.out 5
              go_wp2
              go_loopg [12, 13] k2 (fun kq v12 v13 w' => ∃ (x12_3 : Bool) (x13_3 : Int), v12 = .bool x12_3 ∧ v13 = .int .i64 x13_3 ∧ Aside0 (truantlaw09_FlowTurned.l2 kq t512 ji20 x8_1 t523 x10_2 x11_2 x12_3 x13_3 a0_0 l0_1 a0_2 l0_3 l0_4 l0_5 (⟨#[]⟩ : ByteArray) (⟨#[]⟩ : ByteArray) l0_4 y522 = some r) ∧ Aside0 (kq ≤ k2) ∧ Aside0 (Kd.N (Kd.slice 3 (Kd.int .i64)) 34 w' w.heap.size (fun k_ => (P0_5_ k_ ∨ w.heap.size ≤ k_) ∧ some k_ ≠ (v524 : Value).ownBlock ∧ some k_ ≠ ((.slice (some ⟨go23, 0, none⟩) y522.length co38) : Value).ownBlock ∧ k_ ≠ gb509 ∧ k_ ≠ gb521) v513 t512) ∧ Aside0 (Kd.R (Kd.int .i64) 3 w' w.heap.size (fun k_ => (w.heap.size ≤ k_)) v524 t523) ∧ Aside0 (Kd.V k40 40 w' w.heap.size (fun k_ => (P0_5_ k_ ∨ w.heap.size ≤ k_) ∧ some k_ ≠ (v513 : Value).ownBlock ∧ some k_ ≠ (v524 : Value).ownBlock ∧ some k_ ≠ ((.slice (some ⟨go23, 0, none⟩) y522.length co38) : Value).ownBlock ∧ k_ ≠ gb509 ∧ k_ ≠ gb521) (.slice A0_5 l0_5.length c0_5) l0_5) ∧ Aside0 (Kd.N k40 40 w' w.heap.size (fun k_ => (P0_5_ k_ ∨ w.heap.size ≤ k_) ∧ some k_ ≠ (v513 : Value).ownBlock ∧ some k_ ≠ (v524 : Value).ownBlock ∧ k_ ≠ gb509 ∧ k_ ≠ gb521) (.slice (some ⟨go23, 0, none⟩) y522.length co38) y522) ∧ Aside0 (w'.heap[gb509]? = some (.cells #[.string a0_0, (.slice A0_1 l0_1.length c0_1), .string a0_2, (.slice A0_3 l0_3.length c0_3), (.slice A0_4 l0_4.length c0_4), (.slice A0_5 l0_5.length c0_5)] 26 (0, 0))) ∧ Aside0 (w'.heap[gb521]? = some (.cells #[.string (⟨#[]⟩ : ByteArray), (.slice none 0 0), .string (⟨#[]⟩ : ByteArray), (.slice none 0 0), (.slice A0_4 l0_4.length c0_4), (.slice (some ⟨go23, 0, none⟩) y522.length co38)] 26 (0, 0))) ∧ Aside0 (Below w.heap.size w w'))
              case atStart => exact ⟨(false), (0), (by first | rfl | (simp; done) | (simp [*]; done)), (by first | rfl | (simp; done) | (simp [*]; done)), H', ⟨Nat.le_refl _⟩, ⟨by (try simp only [hl522005_1]); (with_reducible repeat (first | apply Kd.N_alloc | apply Kd.N_drewN | apply Kd.N_drew)); exact HO_5.out⟩, ⟨by (try simp only [hl522005_1]); (with_reducible repeat (first | apply Kd.R_alloc | apply Kd.R_drewN | apply Kd.R_drew)); exact HO_9.out⟩, ⟨by (try simp only [hl522005_1]); (with_reducible repeat (first | apply Kd.V_alloc | apply Kd.V_drewN | apply Kd.V_drew)); exact HO_510005.out⟩, ⟨by (try simp only [hl522005_1]); (with_reducible repeat (first | apply Kd.N_alloc | apply Kd.N_drewN | apply Kd.N_drew)); exact HO_522005.out⟩, ⟨by (try simp only [hl522005_1]); (with_reducible repeat (first | refine blk_drewN ?_ _ | refine blk_drew ?_ | refine blk_alloc ?_ _)); exact BK509.out⟩, ⟨by (try simp only [hl522005_1]); (with_reducible repeat (first | refine blk_drewN ?_ _ | refine blk_drew ?_ | refine blk_alloc ?_ _)); exact BK521.out⟩, ⟨by repeat (first | (with_reducible first | exact HB.out | apply below_alloc | apply pw_below_drewN | apply below_drew1 | refine below_set ?_ GE509.out | refine below_set ?_ GE521.out) | exact HB.out)⟩⟩
              case round =>
               clear H'
               try clear c1
               try clear c2
               try clear p2
               try clear q2
               try clear hx2
               try clear hf2
               try clear c4
               try clear hx4
               try clear hf4
               try clear c5
               try clear c6
               try clear p6
               try clear c11
               try clear c11b0
               try clear c11b1
               try clear c11b2
               try clear c14
               try clear c15
               try clear c16
               try clear c18
               try clear c18b0
               try clear c18b1
               try clear c19
               try clear c20
               try clear c21
               try clear c21b0
               try clear c22
               try clear c22b0
               try clear c23
               try clear p23
               try clear q23
               try clear hx23
               try clear hf23
               try clear c46
               try clear c48
               try clear hx48
               try clear hf48
               try clear c50
               try clear c50b0
               try clear c52
               try clear c55
               try clear c55b0
               try clear c56
               try clear hcz14_0
               try clear hcz14_1
               try clear hcz14_2
               try clear hcz14_3
               try clear hcz14_4
               try clear hcz14_5
               try clear hcz16_0
               try clear hcz16_1
               try clear hcz16_2
               try clear hcz16_3
               try clear hcz16_4
               try clear hcz16_5
               try clear hcz26_0
               try clear hcz26_1
               try clear hcz26_2
               try clear hcz26_3
               try clear hcz26_4
               try clear hcz26_5
               try clear hcz28_0
               try clear hcz28_1
               try clear hcz28_2
               try clear hcz28_3
               try clear hcz28_4
               try clear hcz28_5
               try clear hcz30_0
               try clear hcz30_1
               try clear hcz30_2
               try clear hcz30_3
               try clear hcz30_4
               try clear hcz30_5
               try clear hcz47_0
               try clear hcz47_1
               try clear hcz47_2
               try clear hcz47_3
               try clear hcz47_4
               try clear hcz47_5
               try clear hcz53_0
               try clear hcz53_1
               try clear hcz53_2
               try clear hcz53_3
               try clear hcz53_4
               try clear hcz53_5
               try clear hcz57_0
               try clear hcz57_1
               try clear hcz57_2
               try clear hcz57_3
               try clear hcz57_4
               try clear hcz57_5
               try clear hcz9_0
               try clear hcz9_1
               try clear hcz9_2
               try clear hcz9_3
               try clear hcz9_4
               try clear hcz9_5
               try clear hfz14_0
               try clear hfz14_1
               try clear hfz14_2
               try clear hfz14_3
               try clear hfz14_4
               try clear hfz14_5
               try clear hfz16_0
               try clear hfz16_1
               try clear hfz16_2
               try clear hfz16_3
               try clear hfz16_4
               try clear hfz16_5
               try clear hfz26_0
               try clear hfz26_1
               try clear hfz26_2
               try clear hfz26_3
               try clear hfz26_4
               try clear hfz26_5
               try clear hfz28_0
               try clear hfz28_1
               try clear hfz28_2
               try clear hfz28_3
               try clear hfz28_4
               try clear hfz28_5
               try clear hfz30_0
               try clear hfz30_1
               try clear hfz30_2
               try clear hfz30_3
               try clear hfz30_4
               try clear hfz30_5
               try clear hfz47_0
               try clear hfz47_1
               try clear hfz47_2
               try clear hfz47_3
               try clear hfz47_4
               try clear hfz47_5
               try clear hfz53_0
               try clear hfz53_1
               try clear hfz53_2
               try clear hfz53_3
               try clear hfz53_4
               try clear hfz53_5
               try clear hfz57_0
               try clear hfz57_1
               try clear hfz57_2
               try clear hfz57_3
               try clear hfz57_4
               try clear hfz57_5
               try clear hfz9_0
               try clear hfz9_1
               try clear hfz9_2
               try clear hfz9_3
               try clear hfz9_4
               try clear hfz9_5
               try clear hx23_0
               try clear hx23_1
               try clear hx23_2
               try clear hx23_3
               try clear hx23_4
               try clear hx48_1
               try clear p2
               try clear p23
               try clear p6
               try clear q2
               try clear q23
               obtain ⟨x12_3, x13_3, rfl, rfl, HA, HK3, HO_5, HO_9, HO_510005, HO_522005, BK509, BK521, HB⟩ := hrel
               cases gk with
               | zero => exact absurd HA.out (by simp [truantlaw09_FlowTurned.l2])
               | succ k3 =>
                have H := HA.out
                clear HA
                simp only [truantlaw09_FlowTurned.l2] at H
                by_cases c58 : 0 ≤ x11_2
                ·rw [if_pos c58] at H
                 have c58b0 : decide (0 ≤ x11_2) = true := decide_eq_true c58
                 clear c58
                 by_cases c59 : x11_2 < (t512.length : Int)
                 ·rw [if_pos c59] at H
                  have c59b0 : decide (x11_2 < (t512.length : Int)) = true := decide_eq_true c59
                  clear c59
                  by_cases c60 : x13_3 < ((rd_L2 t512 x11_2).length : Int)
                  ·rw [if_pos c60] at H
                   have c60b0 : decide (x13_3 < ((rd_L2 t512 x11_2).length : Int)) = true := decide_eq_true c60
                   clear c60
                   by_cases c61 : x12_3 = true
                   ·subst c61
                    have H1 : (truantlaw09_FlowTurned.l2 k3 t512 ji20 x8_1 t523 x10_2 x11_2 true (wrap64 (x13_3 + 1)) a0_0 l0_1 a0_2 l0_3 l0_4 l0_5 (⟨#[]⟩ : ByteArray) (⟨#[]⟩ : ByteArray) l0_4 y522) = some r := by rw [if_pos rfl] at H; exact H
                    clear H
                    have H := H1
                    clear H1
                    have H' := Aside0.mk H
                    clear H
                    obtain ⟨Ao62, co62, eo62⟩ := Kd.N_slice HO_5.out
                    subst eo62
                    have p526 : 0 ≤ (x11_2 : Int) := of_decide_eq_true (by first | (with_reducible assumption) | assumption)
                    have q526 : x11_2 < (t512.length : Int) := of_decide_eq_true (by first | (with_reducible assumption) | assumption)
                    obtain ⟨ad526, A526_0, c526_0, e526, hx526_0, hl526_0, hi526_0⟩ := at_L2 (Kd.N_reads' HO_5.out).2.2 x11_2 p526 q526
                    cases e526
                    obtain ⟨ce526, hce526, hMe526, hcc526⟩ := Kd.N_get HO_5.out [] x11_2 p526 (by first | exact q526 | exact of_decide_eq_true (by first | (with_reducible assumption) | assumption) | (have e_ := (Kd.N_reads' HO_5.out).1; omega))
                    obtain ⟨ua526_0, uc526_0, rfl, ul526_0, ge526_0⟩ := Kd.FK_slice_open hMe526
                    have hv526_0 := hcc526 0 _ rfl
                    rw [Nat.add_zero, show ((Kd.slice 3 (Kd.int .i64))).sz = 1 from rfl, Nat.mul_one] at hv526_0
                    replace hv526_0 := Option.some.inj (hv526_0.symm.trans hx526_0)
                    injection hv526_0 with hva_ hvn_ hvc_
                    rw [hva_] at ge526_0
                    rw [hvc_] at ul526_0
                    have HL526_0 := Aside0.mk (show Kd.V (Kd.int .i64) 3 _ w.heap.size _ _ (rd_L2 t512 x11_2) from Kd.V_mk ul526_0 ge526_0)
                    clear hva_ hvn_ hvc_ ge526_0 ul526_0
                    clear hcc526 hce526
                    have HR526_0 := Aside0.mk hi526_0
                    have HC526_0 := Aside0.mk hl526_0
                    clear hi526_0 hl526_0
                    replace p526 := eq_true p526
                    replace q526 := eq_true q526
                    go_wp2
                    go_roundg k3
                    case measure => have := HK1.out; have := HK2.out; have := HK3.out; omega
                    case rel => exact ⟨(true), (wrap64 (x13_3 + 1)), (by first | rfl | (simp; done) | (simp [*]; done)), (by first | rfl | (simp; done) | (simp [*]; done)), H', ⟨by have := HK1.out; have := HK2.out; have := HK3.out; omega⟩, ⟨by (try simp only [hl522005_1]); (with_reducible repeat (first | apply Kd.N_alloc | apply Kd.N_drewN | apply Kd.N_drew)); exact HO_5.out⟩, ⟨by (try simp only [hl522005_1]); (with_reducible repeat (first | apply Kd.R_alloc | apply Kd.R_drewN | apply Kd.R_drew)); exact HO_9.out⟩, ⟨by (try simp only [hl522005_1]); (with_reducible repeat (first | apply Kd.V_alloc | apply Kd.V_drewN | apply Kd.V_drew)); exact HO_510005.out⟩, ⟨by (try simp only [hl522005_1]); (with_reducible repeat (first | apply Kd.N_alloc | apply Kd.N_drewN | apply Kd.N_drew)); exact HO_522005.out⟩, ⟨by (try simp only [hl522005_1]); (with_reducible repeat (first | refine blk_drewN ?_ _ | refine blk_drew ?_ | refine blk_alloc ?_ _)); exact BK509.out⟩, ⟨by (try simp only [hl522005_1]); (with_reducible repeat (first | refine blk_drewN ?_ _ | refine blk_drew ?_ | refine blk_alloc ?_ _)); exact BK521.out⟩, ⟨by repeat (first | (with_reducible first | exact HB.out | apply below_alloc | apply pw_below_drewN | apply below_drew1 | refine below_set ?_ GE509.out | refine below_set ?_ GE521.out) | exact HB.out)⟩⟩
                   ·replace c61 := Bool.eq_false_iff.mpr c61
                    subst c61
                    have H1 : (if 0 ≤ x13_3 then (truantlaw09_FlowTurned.l2 k3 t512 ji20 x8_1 t523 x10_2 x11_2 ((rd (rd_L2 t512 x11_2) x13_3) == x8_1) (wrap64 (x13_3 + 1)) a0_0 l0_1 a0_2 l0_3 l0_4 l0_5 (⟨#[]⟩ : ByteArray) (⟨#[]⟩ : ByteArray) l0_4 y522) else (none)) = some r := by rw [if_neg (show ¬ (false = true) by decide)] at H; exact H
                    clear H
                    have H := H1
                    clear H1
                    by_cases c63 : 0 ≤ x13_3
                    ·rw [if_pos c63] at H
                     have c63b0 : decide (0 ≤ x13_3) = true := decide_eq_true c63
                     clear c63
                     have H' := Aside0.mk H
                     clear H
                     obtain ⟨Ao64, co64, eo64⟩ := Kd.N_slice HO_5.out
                     subst eo64
                     have p526 : 0 ≤ (x11_2 : Int) := of_decide_eq_true (by first | (with_reducible assumption) | assumption)
                     have q526 : x11_2 < (t512.length : Int) := of_decide_eq_true (by first | (with_reducible assumption) | assumption)
                     obtain ⟨ad526, A526_0, c526_0, e526, hx526_0, hl526_0, hi526_0⟩ := at_L2 (Kd.N_reads' HO_5.out).2.2 x11_2 p526 q526
                     cases e526
                     obtain ⟨ce526, hce526, hMe526, hcc526⟩ := Kd.N_get HO_5.out [] x11_2 p526 (by first | exact q526 | exact of_decide_eq_true (by first | (with_reducible assumption) | assumption) | (have e_ := (Kd.N_reads' HO_5.out).1; omega))
                     obtain ⟨ua526_0, uc526_0, rfl, ul526_0, ge526_0⟩ := Kd.FK_slice_open hMe526
                     have hv526_0 := hcc526 0 _ rfl
                     rw [Nat.add_zero, show ((Kd.slice 3 (Kd.int .i64))).sz = 1 from rfl, Nat.mul_one] at hv526_0
                     replace hv526_0 := Option.some.inj (hv526_0.symm.trans hx526_0)
                     injection hv526_0 with hva_ hvn_ hvc_
                     rw [hva_] at ge526_0
                     rw [hvc_] at ul526_0
                     have HL526_0 := Aside0.mk (show Kd.V (Kd.int .i64) 3 _ w.heap.size _ _ (rd_L2 t512 x11_2) from Kd.V_mk ul526_0 ge526_0)
                     clear hva_ hvn_ hvc_ ge526_0 ul526_0
                     clear hcc526 hce526
                     have HR526_0 := Aside0.mk hi526_0
                     have HC526_0 := Aside0.mk hl526_0
                     clear hi526_0 hl526_0
                     replace p526 := eq_true p526
                     replace q526 := eq_true q526
                     have p527 : 0 ≤ (x11_2 : Int) := of_decide_eq_true (by first | (with_reducible assumption) | assumption)
                     have q527 : x11_2 < (t512.length : Int) := of_decide_eq_true (by first | (with_reducible assumption) | assumption)
                     obtain ⟨ad527, A527_0, c527_0, e527, hx527_0, hl527_0, hi527_0⟩ := at_L2 (Kd.N_reads' HO_5.out).2.2 x11_2 p527 q527
                     obtain rfl : ad526 = ad527 := (by injection e527)
                     obtain ⟨ce527, hce527, hMe527, hcc527⟩ := Kd.N_get HO_5.out [] x11_2 p527 (by first | exact q527 | exact of_decide_eq_true (by first | (with_reducible assumption) | assumption) | (have e_ := (Kd.N_reads' HO_5.out).1; omega))
                     obtain ⟨ua527_0, uc527_0, rfl, ul527_0, ge527_0⟩ := Kd.FK_slice_open hMe527
                     have hv527_0 := hcc527 0 _ rfl
                     rw [Nat.add_zero, show ((Kd.slice 3 (Kd.int .i64))).sz = 1 from rfl, Nat.mul_one] at hv527_0
                     replace hv527_0 := Option.some.inj (hv527_0.symm.trans hx527_0)
                     injection hv527_0 with hva_ hvn_ hvc_
                     rw [hva_] at ge527_0
                     rw [hvc_] at ul527_0
                     have HL527_0 := Aside0.mk (show Kd.V (Kd.int .i64) 3 _ w.heap.size _ _ (rd_L2 t512 x11_2) from Kd.V_mk ul527_0 ge527_0)
                     clear hva_ hvn_ hvc_ ge527_0 ul527_0
                     clear hcc527 hce527
                     have HR527_0 := Aside0.mk hi527_0
                     have HC527_0 := Aside0.mk hl527_0
                     clear hi527_0 hl527_0
                     replace p527 := eq_true p527
                     replace q527 := eq_true q527
                     have ea_ := Option.some.inj (hx526_0.symm.trans hx527_0)
                     injection ea_ with ea_ en_ ec_
                     subst ea_
                     subst ec_
                     clear en_
                     have p528 : 0 ≤ (x13_3 : Int) := of_decide_eq_true (by first | (with_reducible assumption) | assumption)
                     have q528 : x13_3 < ((rd_L2 t512 x11_2).length : Int) := of_decide_eq_true (by first | (with_reducible assumption) | assumption)
                     obtain ⟨ad528, e528, hx528_0⟩ := Kd.at_int (by repeat (first | (with_reducible exact HR527_0.out) | (with_reducible refine Kd.C_alloc ?_ _) | (with_reducible refine Kd.C_drewN ?_ _) | (with_reducible refine Kd.C_drew ?_) | exact HR527_0.out)) x13_3 p528 q528
                     cases e528
                     replace p528 := eq_true p528
                     replace q528 := eq_true q528
                     go_wp2
                     go_roundg k3
                     case measure => have := HK1.out; have := HK2.out; have := HK3.out; omega
                     case rel => exact ⟨(((rd (rd_L2 t512 x11_2) x13_3) == x8_1)), (wrap64 (x13_3 + 1)), (by first | rfl | (simp; done) | (simp [*]; done)), (by first | rfl | (simp; done) | (simp [*]; done)), H', ⟨by have := HK1.out; have := HK2.out; have := HK3.out; omega⟩, ⟨by (try simp only [hl522005_1]); (with_reducible repeat (first | apply Kd.N_alloc | apply Kd.N_drewN | apply Kd.N_drew)); exact HO_5.out⟩, ⟨by (try simp only [hl522005_1]); (with_reducible repeat (first | apply Kd.R_alloc | apply Kd.R_drewN | apply Kd.R_drew)); exact HO_9.out⟩, ⟨by (try simp only [hl522005_1]); (with_reducible repeat (first | apply Kd.V_alloc | apply Kd.V_drewN | apply Kd.V_drew)); exact HO_510005.out⟩, ⟨by (try simp only [hl522005_1]); (with_reducible repeat (first | apply Kd.N_alloc | apply Kd.N_drewN | apply Kd.N_drew)); exact HO_522005.out⟩, ⟨by (try simp only [hl522005_1]); (with_reducible repeat (first | refine blk_drewN ?_ _ | refine blk_drew ?_ | refine blk_alloc ?_ _)); exact BK509.out⟩, ⟨by (try simp only [hl522005_1]); (with_reducible repeat (first | refine blk_drewN ?_ _ | refine blk_drew ?_ | refine blk_alloc ?_ _)); exact BK521.out⟩, ⟨by repeat (first | (with_reducible first | exact HB.out | apply below_alloc | apply pw_below_drewN | apply below_drew1 | refine below_set ?_ GE509.out | refine below_set ?_ GE521.out) | exact HB.out)⟩⟩
                    ·rw [if_neg c63] at H
                     exact absurd H (by simp)
                  ·rw [if_neg c60] at H
                   have c60b0 : decide (x13_3 < ((rd_L2 t512 x11_2).length : Int)) = false := decide_eq_false c60
                   clear c60
                   have H' := Aside0.mk H
                   clear H
                   obtain ⟨Ao65, co65, eo65⟩ := Kd.N_slice HO_5.out
                   subst eo65
                   have p526 : 0 ≤ (x11_2 : Int) := of_decide_eq_true (by first | (with_reducible assumption) | assumption)
                   have q526 : x11_2 < (t512.length : Int) := of_decide_eq_true (by first | (with_reducible assumption) | assumption)
                   obtain ⟨ad526, A526_0, c526_0, e526, hx526_0, hl526_0, hi526_0⟩ := at_L2 (Kd.N_reads' HO_5.out).2.2 x11_2 p526 q526
                   cases e526
                   obtain ⟨ce526, hce526, hMe526, hcc526⟩ := Kd.N_get HO_5.out [] x11_2 p526 (by first | exact q526 | exact of_decide_eq_true (by first | (with_reducible assumption) | assumption) | (have e_ := (Kd.N_reads' HO_5.out).1; omega))
                   obtain ⟨ua526_0, uc526_0, rfl, ul526_0, ge526_0⟩ := Kd.FK_slice_open hMe526
                   have hv526_0 := hcc526 0 _ rfl
                   rw [Nat.add_zero, show ((Kd.slice 3 (Kd.int .i64))).sz = 1 from rfl, Nat.mul_one] at hv526_0
                   replace hv526_0 := Option.some.inj (hv526_0.symm.trans hx526_0)
                   injection hv526_0 with hva_ hvn_ hvc_
                   rw [hva_] at ge526_0
                   rw [hvc_] at ul526_0
                   have HL526_0 := Aside0.mk (show Kd.V (Kd.int .i64) 3 _ w.heap.size _ _ (rd_L2 t512 x11_2) from Kd.V_mk ul526_0 ge526_0)
                   clear hva_ hvn_ hvc_ ge526_0 ul526_0
                   clear hcc526 hce526
                   have HR526_0 := Aside0.mk hi526_0
                   have HC526_0 := Aside0.mk hl526_0
                   clear hi526_0 hl526_0
                   replace p526 := eq_true p526
                   replace q526 := eq_true q526
                   go_wp2
                   go_loopg [14, 15] k3 (fun kq v14 v15 w' => ∃ (x14_4 : Bool) (x15_4 : Int), v14 = .bool x14_4 ∧ v15 = .int .i64 x15_4 ∧ Aside0 (truantlaw09_FlowTurned.l3 kq t512 ji20 x8_1 t523 x10_2 x11_2 x12_3 x14_4 x15_4 a0_0 l0_1 a0_2 l0_3 l0_4 l0_5 (⟨#[]⟩ : ByteArray) (⟨#[]⟩ : ByteArray) l0_4 y522 = some r) ∧ Aside0 (kq ≤ k3) ∧ Aside0 (Kd.N (Kd.slice 3 (Kd.int .i64)) 34 w' w.heap.size (fun k_ => (P0_5_ k_ ∨ w.heap.size ≤ k_) ∧ some k_ ≠ (v524 : Value).ownBlock ∧ some k_ ≠ ((.slice (some ⟨go23, 0, none⟩) y522.length co38) : Value).ownBlock ∧ k_ ≠ gb509 ∧ k_ ≠ gb521) (.slice (some ad526) t512.length co65) t512) ∧ Aside0 (Kd.R (Kd.int .i64) 3 w' w.heap.size (fun k_ => (w.heap.size ≤ k_)) v524 t523) ∧ Aside0 (Kd.V k40 40 w' w.heap.size (fun k_ => (P0_5_ k_ ∨ w.heap.size ≤ k_) ∧ some k_ ≠ ((.slice (some ad526) t512.length co65) : Value).ownBlock ∧ some k_ ≠ (v524 : Value).ownBlock ∧ some k_ ≠ ((.slice (some ⟨go23, 0, none⟩) y522.length co38) : Value).ownBlock ∧ k_ ≠ gb509 ∧ k_ ≠ gb521) (.slice A0_5 l0_5.length c0_5) l0_5) ∧ Aside0 (Kd.N k40 40 w' w.heap.size (fun k_ => (P0_5_ k_ ∨ w.heap.size ≤ k_) ∧ some k_ ≠ ((.slice (some ad526) t512.length co65) : Value).ownBlock ∧ some k_ ≠ (v524 : Value).ownBlock ∧ k_ ≠ gb509 ∧ k_ ≠ gb521) (.slice (some ⟨go23, 0, none⟩) y522.length co38) y522) ∧ Aside0 (w'.heap[gb509]? = some (.cells #[.string a0_0, (.slice A0_1 l0_1.length c0_1), .string a0_2, (.slice A0_3 l0_3.length c0_3), (.slice A0_4 l0_4.length c0_4), (.slice A0_5 l0_5.length c0_5)] 26 (0, 0))) ∧ Aside0 (w'.heap[gb521]? = some (.cells #[.string (⟨#[]⟩ : ByteArray), (.slice none 0 0), .string (⟨#[]⟩ : ByteArray), (.slice none 0 0), (.slice A0_4 l0_4.length c0_4), (.slice (some ⟨go23, 0, none⟩) y522.length co38)] 26 (0, 0))) ∧ Aside0 (Kd.C (Kd.int .i64) w' A526_0 (rd_L2 t512 x11_2).length (rd_L2 t512 x11_2)) ∧ Aside0 (Below w.heap.size w w'))
                   case atStart => exact ⟨(false), (0), (by first | rfl | (simp; done) | (simp [*]; done)), (by first | rfl | (simp; done) | (simp [*]; done)), H', ⟨Nat.le_refl _⟩, ⟨by (try simp only [hl522005_1]); (with_reducible repeat (first | apply Kd.N_alloc | apply Kd.N_drewN | apply Kd.N_drew)); exact HO_5.out⟩, ⟨by (try simp only [hl522005_1]); (with_reducible repeat (first | apply Kd.R_alloc | apply Kd.R_drewN | apply Kd.R_drew)); exact HO_9.out⟩, ⟨by (try simp only [hl522005_1]); (with_reducible repeat (first | apply Kd.V_alloc | apply Kd.V_drewN | apply Kd.V_drew)); exact HO_510005.out⟩, ⟨by (try simp only [hl522005_1]); (with_reducible repeat (first | apply Kd.N_alloc | apply Kd.N_drewN | apply Kd.N_drew)); exact HO_522005.out⟩, ⟨by (try simp only [hl522005_1]); (with_reducible repeat (first | refine blk_drewN ?_ _ | refine blk_drew ?_ | refine blk_alloc ?_ _)); exact BK509.out⟩, ⟨by (try simp only [hl522005_1]); (with_reducible repeat (first | refine blk_drewN ?_ _ | refine blk_drew ?_ | refine blk_alloc ?_ _)); exact BK521.out⟩, ⟨by repeat (first | (with_reducible exact HR526_0.out) | (with_reducible refine Kd.C_alloc ?_ _) | (with_reducible refine Kd.C_drewN ?_ _) | (with_reducible refine Kd.C_drew ?_) | exact HR526_0.out)⟩, ⟨by repeat (first | (with_reducible first | exact HB.out | apply below_alloc | apply pw_below_drewN | apply below_drew1 | refine below_set ?_ GE509.out | refine below_set ?_ GE521.out) | exact HB.out)⟩⟩
                   case round =>
                    clear H'
                    try clear c1
                    try clear c2
                    try clear p2
                    try clear q2
                    try clear hx2
                    try clear hf2
                    try clear c4
                    try clear hx4
                    try clear hf4
                    try clear c5
                    try clear p5
                    try clear q5
                    try clear hx5
                    try clear c6
                    try clear p6
                    try clear c11
                    try clear c11b0
                    try clear c11b1
                    try clear c11b2
                    try clear c14
                    try clear c15
                    try clear c16
                    try clear c18
                    try clear c18b0
                    try clear c18b1
                    try clear c19
                    try clear c20
                    try clear c21
                    try clear c21b0
                    try clear c22
                    try clear c22b0
                    try clear c23
                    try clear p23
                    try clear q23
                    try clear hx23
                    try clear hf23
                    try clear c46
                    try clear c48
                    try clear hx48
                    try clear hf48
                    try clear c50
                    try clear c50b0
                    try clear c52
                    try clear p52
                    try clear q52
                    try clear hx52
                    try clear c55
                    try clear c55b0
                    try clear c56
                    try clear c58
                    try clear c58b0
                    try clear c59
                    try clear c59b0
                    try clear c60
                    try clear c60b0
                    try clear c61
                    try clear c63
                    try clear c63b0
                    try clear p64
                    try clear hcz14_0
                    try clear hcz14_1
                    try clear hcz14_2
                    try clear hcz14_3
                    try clear hcz14_4
                    try clear hcz14_5
                    try clear hcz16_0
                    try clear hcz16_1
                    try clear hcz16_2
                    try clear hcz16_3
                    try clear hcz16_4
                    try clear hcz16_5
                    try clear hcz26_0
                    try clear hcz26_1
                    try clear hcz26_2
                    try clear hcz26_3
                    try clear hcz26_4
                    try clear hcz26_5
                    try clear hcz28_0
                    try clear hcz28_1
                    try clear hcz28_2
                    try clear hcz28_3
                    try clear hcz28_4
                    try clear hcz28_5
                    try clear hcz30_0
                    try clear hcz30_1
                    try clear hcz30_2
                    try clear hcz30_3
                    try clear hcz30_4
                    try clear hcz30_5
                    try clear hcz47_0
                    try clear hcz47_1
                    try clear hcz47_2
                    try clear hcz47_3
                    try clear hcz47_4
                    try clear hcz47_5
                    try clear hcz53_0
                    try clear hcz53_1
                    try clear hcz53_2
                    try clear hcz53_3
                    try clear hcz53_4
                    try clear hcz53_5
                    try clear hcz57_0
                    try clear hcz57_1
                    try clear hcz57_2
                    try clear hcz57_3
                    try clear hcz57_4
                    try clear hcz57_5
                    try clear hcz9_0
                    try clear hcz9_1
                    try clear hcz9_2
                    try clear hcz9_3
                    try clear hcz9_4
                    try clear hcz9_5
                    try clear hfz14_0
                    try clear hfz14_1
                    try clear hfz14_2
                    try clear hfz14_3
                    try clear hfz14_4
                    try clear hfz14_5
                    try clear hfz16_0
                    try clear hfz16_1
                    try clear hfz16_2
                    try clear hfz16_3
                    try clear hfz16_4
                    try clear hfz16_5
                    try clear hfz26_0
                    try clear hfz26_1
                    try clear hfz26_2
                    try clear hfz26_3
                    try clear hfz26_4
                    try clear hfz26_5
                    try clear hfz28_0
                    try clear hfz28_1
                    try clear hfz28_2
                    try clear hfz28_3
                    try clear hfz28_4
                    try clear hfz28_5
                    try clear hfz30_0
                    try clear hfz30_1
                    try clear hfz30_2
                    try clear hfz30_3
                    try clear hfz30_4
                    try clear hfz30_5
                    try clear hfz47_0
                    try clear hfz47_1
                    try clear hfz47_2
                    try clear hfz47_3
                    try clear hfz47_4
                    try clear hfz47_5
                    try clear hfz53_0
                    try clear hfz53_1
                    try clear hfz53_2
                    try clear hfz53_3
                    try clear hfz53_4
                    try clear hfz53_5
                    try clear hfz57_0
                    try clear hfz57_1
                    try clear hfz57_2
                    try clear hfz57_3
                    try clear hfz57_4
                    try clear hfz57_5
                    try clear hfz9_0
                    try clear hfz9_1
                    try clear hfz9_2
                    try clear hfz9_3
                    try clear hfz9_4
                    try clear hfz9_5
                    try clear hx23_0
                    try clear hx23_1
                    try clear hx23_2
                    try clear hx23_3
                    try clear hx23_4
                    try clear hx48_1
                    try clear hx526_0
                    try clear hx527_0
                    try clear hx528_0
                    try clear p2
                    try clear p23
                    try clear p526
                    try clear p527
                    try clear p528
                    try clear p6
                    try clear q2
                    try clear q23
                    try clear q526
                    try clear q527
                    try clear q528
                    obtain ⟨x14_4, x15_4, rfl, rfl, HA, HK4, HO_5, HO_9, HO_510005, HO_522005, BK509, BK521, HR526_0, HB⟩ := hrel
                    cases gk with
                    | zero => exact absurd HA.out (by simp [truantlaw09_FlowTurned.l3])
                    | succ k4 =>
                     have H := HA.out
                     clear HA
                     simp only [truantlaw09_FlowTurned.l3] at H
                     by_cases c66 : x15_4 < (t523.length : Int)
                     ·rw [if_pos c66] at H
                      have c66b0 : decide (x15_4 < (t523.length : Int)) = true := decide_eq_true c66
                      clear c66
                      by_cases c67 : x14_4 = true
                      ·subst c67
                       have H1 : (truantlaw09_FlowTurned.l3 k4 t512 ji20 x8_1 t523 x10_2 x11_2 x12_3 true (wrap64 (x15_4 + 1)) a0_0 l0_1 a0_2 l0_3 l0_4 l0_5 (⟨#[]⟩ : ByteArray) (⟨#[]⟩ : ByteArray) l0_4 y522) = some r := by rw [if_pos rfl] at H; exact H
                       clear H
                       have H := H1
                       clear H1
                       have H' := Aside0.mk H
                       clear H
                       obtain ⟨Ao68, co68, eo68⟩ := Kd.R_slice HO_9.out
                       subst eo68
                       go_wp2
                       go_roundg k4
                       case measure => have := HK1.out; have := HK2.out; have := HK3.out; have := HK4.out; omega
                       case rel => exact ⟨(true), (wrap64 (x15_4 + 1)), (by first | rfl | (simp; done) | (simp [*]; done)), (by first | rfl | (simp; done) | (simp [*]; done)), H', ⟨by have := HK1.out; have := HK2.out; have := HK3.out; have := HK4.out; omega⟩, ⟨by (try simp only [hl522005_1]); (with_reducible repeat (first | apply Kd.N_alloc | apply Kd.N_drewN | apply Kd.N_drew)); exact HO_5.out⟩, ⟨by (try simp only [hl522005_1]); (with_reducible repeat (first | apply Kd.R_alloc | apply Kd.R_drewN | apply Kd.R_drew)); exact HO_9.out⟩, ⟨by (try simp only [hl522005_1]); (with_reducible repeat (first | apply Kd.V_alloc | apply Kd.V_drewN | apply Kd.V_drew)); exact HO_510005.out⟩, ⟨by (try simp only [hl522005_1]); (with_reducible repeat (first | apply Kd.N_alloc | apply Kd.N_drewN | apply Kd.N_drew)); exact HO_522005.out⟩, ⟨by (try simp only [hl522005_1]); (with_reducible repeat (first | refine blk_drewN ?_ _ | refine blk_drew ?_ | refine blk_alloc ?_ _)); exact BK509.out⟩, ⟨by (try simp only [hl522005_1]); (with_reducible repeat (first | refine blk_drewN ?_ _ | refine blk_drew ?_ | refine blk_alloc ?_ _)); exact BK521.out⟩, ⟨by repeat (first | (with_reducible exact HR526_0.out) | (with_reducible refine Kd.C_alloc ?_ _) | (with_reducible refine Kd.C_drewN ?_ _) | (with_reducible refine Kd.C_drew ?_) | exact HR526_0.out)⟩, ⟨by repeat (first | (with_reducible first | exact HB.out | apply below_alloc | apply pw_below_drewN | apply below_drew1 | refine below_set ?_ GE509.out | refine below_set ?_ GE521.out) | exact HB.out)⟩⟩
                      ·replace c67 := Bool.eq_false_iff.mpr c67
                       subst c67
                       have H1 : (if 0 ≤ x15_4 then (truantlaw09_FlowTurned.l3 k4 t512 ji20 x8_1 t523 x10_2 x11_2 x12_3 ((rd t523 x15_4) == x11_2) (wrap64 (x15_4 + 1)) a0_0 l0_1 a0_2 l0_3 l0_4 l0_5 (⟨#[]⟩ : ByteArray) (⟨#[]⟩ : ByteArray) l0_4 y522) else (none)) = some r := by rw [if_neg (show ¬ (false = true) by decide)] at H; exact H
                       clear H
                       have H := H1
                       clear H1
                       by_cases c69 : 0 ≤ x15_4
                       ·rw [if_pos c69] at H
                        have c69b0 : decide (0 ≤ x15_4) = true := decide_eq_true c69
                        clear c69
                        have H' := Aside0.mk H
                        clear H
                        obtain ⟨Ao70, co70, eo70⟩ := Kd.R_slice HO_9.out
                        subst eo70
                        have p529 : 0 ≤ (x15_4 : Int) := of_decide_eq_true (by first | (with_reducible assumption) | assumption)
                        have q529 : x15_4 < (t523.length : Int) := of_decide_eq_true (by first | (with_reducible assumption) | assumption)
                        obtain ⟨ad529, e529, hx529_0⟩ := Kd.at_int (Kd.R_reads' HO_9.out).2.2 x15_4 p529 q529
                        cases e529
                        replace p529 := eq_true p529
                        replace q529 := eq_true q529
                        go_wp2
                        go_roundg k4
                        case measure => have := HK1.out; have := HK2.out; have := HK3.out; have := HK4.out; omega
                        case rel => exact ⟨(((rd t523 x15_4) == x11_2)), (wrap64 (x15_4 + 1)), (by first | rfl | (simp; done) | (simp [*]; done)), (by first | rfl | (simp; done) | (simp [*]; done)), H', ⟨by have := HK1.out; have := HK2.out; have := HK3.out; have := HK4.out; omega⟩, ⟨by (try simp only [hl522005_1]); (with_reducible repeat (first | apply Kd.N_alloc | apply Kd.N_drewN | apply Kd.N_drew)); exact HO_5.out⟩, ⟨by (try simp only [hl522005_1]); (with_reducible repeat (first | apply Kd.R_alloc | apply Kd.R_drewN | apply Kd.R_drew)); exact HO_9.out⟩, ⟨by (try simp only [hl522005_1]); (with_reducible repeat (first | apply Kd.V_alloc | apply Kd.V_drewN | apply Kd.V_drew)); exact HO_510005.out⟩, ⟨by (try simp only [hl522005_1]); (with_reducible repeat (first | apply Kd.N_alloc | apply Kd.N_drewN | apply Kd.N_drew)); exact HO_522005.out⟩, ⟨by (try simp only [hl522005_1]); (with_reducible repeat (first | refine blk_drewN ?_ _ | refine blk_drew ?_ | refine blk_alloc ?_ _)); exact BK509.out⟩, ⟨by (try simp only [hl522005_1]); (with_reducible repeat (first | refine blk_drewN ?_ _ | refine blk_drew ?_ | refine blk_alloc ?_ _)); exact BK521.out⟩, ⟨by repeat (first | (with_reducible exact HR526_0.out) | (with_reducible refine Kd.C_alloc ?_ _) | (with_reducible refine Kd.C_drewN ?_ _) | (with_reducible refine Kd.C_drew ?_) | exact HR526_0.out)⟩, ⟨by repeat (first | (with_reducible first | exact HB.out | apply below_alloc | apply pw_below_drewN | apply below_drew1 | refine below_set ?_ GE509.out | refine below_set ?_ GE521.out) | exact HB.out)⟩⟩
                       ·rw [if_neg c69] at H
                        exact absurd H (by simp)
                     ·rw [if_neg c66] at H
                      have c66b0 : decide (x15_4 < (t523.length : Int)) = false := decide_eq_false c66
                      clear c66
                      by_cases c71 : (x12_3 != x14_4) = true
                      ·rw [if_pos c71] at H
                       exact absurd H (by simp)
                      ·rw [if_neg c71] at H
                       have c71b0 : (x12_3 != x14_4) = false := by simpa using c71
                       (try (have c71b1 : decide (x12_3 = x14_4) = true := by simpa using c71))
                       (try (have c71b2 : (x12_3 == x14_4) = true := by simpa using c71))
                       clear c71
                       by_cases c72 : x14_4 = true
                       ·subst c72
                        have H1 : (truantlaw09_FlowTurned.l1 k4 t512 ji20 x8_1 t523 (wrap64 (x10_2 + 1)) (wrap64 (x11_2 + 1)) a0_0 l0_1 a0_2 l0_3 l0_4 l0_5 (⟨#[]⟩ : ByteArray) (⟨#[]⟩ : ByteArray) l0_4 y522) = some r := by rw [if_pos rfl] at H; exact H
                        clear H
                        have H := H1
                        clear H1
                        have H' := Aside0.mk H
                        clear H
                        obtain ⟨Ao73, co73, eo73⟩ := Kd.R_slice HO_9.out
                        subst eo73
                        go_wp2
                        go_roundg k4
                        case measure => have := HK1.out; have := HK2.out; have := HK3.out; have := HK4.out; omega
                        case rel => exact ⟨(wrap64 (x10_2 + 1)), (wrap64 (x11_2 + 1)), (by first | rfl | (simp; done) | (simp [*]; done)), (by first | rfl | (simp; done) | (simp [*]; done)), H', ⟨by have := HK1.out; have := HK2.out; have := HK3.out; have := HK4.out; omega⟩, ⟨by (try simp only [hl522005_1]); (with_reducible repeat (first | apply Kd.N_alloc | apply Kd.N_drewN | apply Kd.N_drew)); exact HO_5.out⟩, ⟨by (try simp only [hl522005_1]); (with_reducible repeat (first | apply Kd.R_alloc | apply Kd.R_drewN | apply Kd.R_drew)); exact HO_9.out⟩, ⟨by (try simp only [hl522005_1]); (with_reducible repeat (first | apply Kd.V_alloc | apply Kd.V_drewN | apply Kd.V_drew)); exact HO_510005.out⟩, ⟨by (try simp only [hl522005_1]); (with_reducible repeat (first | apply Kd.N_alloc | apply Kd.N_drewN | apply Kd.N_drew)); exact HO_522005.out⟩, ⟨by (try simp only [hl522005_1]); (with_reducible repeat (first | refine blk_drewN ?_ _ | refine blk_drew ?_ | refine blk_alloc ?_ _)); exact BK509.out⟩, ⟨by (try simp only [hl522005_1]); (with_reducible repeat (first | refine blk_drewN ?_ _ | refine blk_drew ?_ | refine blk_alloc ?_ _)); exact BK521.out⟩, ⟨by repeat (first | (with_reducible first | exact HB.out | apply below_alloc | apply pw_below_drewN | apply below_drew1 | refine below_set ?_ GE509.out | refine below_set ?_ GE521.out) | exact HB.out)⟩⟩
                       ·replace c72 := Bool.eq_false_iff.mpr c72
                        subst c72
                        have H1 : (truantlaw09_FlowTurned.l1 k4 t512 ji20 x8_1 t523 x10_2 (wrap64 (x11_2 + 1)) a0_0 l0_1 a0_2 l0_3 l0_4 l0_5 (⟨#[]⟩ : ByteArray) (⟨#[]⟩ : ByteArray) l0_4 y522) = some r := by rw [if_neg (show ¬ (false = true) by decide)] at H; exact H
                        clear H
                        have H := H1
                        clear H1
                        have H' := Aside0.mk H
                        clear H
                        obtain ⟨Ao74, co74, eo74⟩ := Kd.R_slice HO_9.out
                        subst eo74
                        go_wp2
                        go_roundg k4
                        case measure => have := HK1.out; have := HK2.out; have := HK3.out; have := HK4.out; omega
                        case rel => exact ⟨(x10_2), (wrap64 (x11_2 + 1)), (by first | rfl | (simp; done) | (simp [*]; done)), (by first | rfl | (simp; done) | (simp [*]; done)), H', ⟨by have := HK1.out; have := HK2.out; have := HK3.out; have := HK4.out; omega⟩, ⟨by (try simp only [hl522005_1]); (with_reducible repeat (first | apply Kd.N_alloc | apply Kd.N_drewN | apply Kd.N_drew)); exact HO_5.out⟩, ⟨by (try simp only [hl522005_1]); (with_reducible repeat (first | apply Kd.R_alloc | apply Kd.R_drewN | apply Kd.R_drew)); exact HO_9.out⟩, ⟨by (try simp only [hl522005_1]); (with_reducible repeat (first | apply Kd.V_alloc | apply Kd.V_drewN | apply Kd.V_drew)); exact HO_510005.out⟩, ⟨by (try simp only [hl522005_1]); (with_reducible repeat (first | apply Kd.N_alloc | apply Kd.N_drewN | apply Kd.N_drew)); exact HO_522005.out⟩, ⟨by (try simp only [hl522005_1]); (with_reducible repeat (first | refine blk_drewN ?_ _ | refine blk_drew ?_ | refine blk_alloc ?_ _)); exact BK509.out⟩, ⟨by (try simp only [hl522005_1]); (with_reducible repeat (first | refine blk_drewN ?_ _ | refine blk_drew ?_ | refine blk_alloc ?_ _)); exact BK521.out⟩, ⟨by repeat (first | (with_reducible first | exact HB.out | apply below_alloc | apply pw_below_drewN | apply below_drew1 | refine below_set ?_ GE509.out | refine below_set ?_ GE521.out) | exact HB.out)⟩⟩
                 ·rw [if_neg c59] at H
                  exact absurd H (by simp)
                ·rw [if_neg c58] at H
                 exact absurd H (by simp)
             ·rw [if_neg c55] at H
              have c55b0 : decide (x11_2 < (l0_5.length : Int)) = false := decide_eq_false c55
              clear c55
              by_cases c75 : x10_2 = (t523.length : Int)
              ·rw [if_pos c75] at H
               have c75b0 : (x10_2 == (t523.length : Int)) = true := beq_iff_eq.mpr c75
               have c75b1 : (x10_2 != (t523.length : Int)) = false := bne_eq_false_iff_eq.mpr c75
               clear c75
               by_cases c76 : x8_1 = ji20
               ·rw [if_pos c76] at H
                have c76b0 : (x8_1 == ji20) = true := beq_iff_eq.mpr c76
                have c76b1 : (x8_1 != ji20) = false := bne_eq_false_iff_eq.mpr c76
                clear c76
                have H' := Aside0.mk H
                clear H
                have hnb77 := NB509_521.out
                have hnc77 := NB521_509.out
                have hcz78_0 : wr.cell? ⟨gb509, 0, none⟩ = some (.string a0_0) := (blk_cell BK509.out 0).trans rfl
                have hcz78_1 : wr.cell? ⟨gb509, 1, none⟩ = some (.slice A0_1 l0_1.length c0_1) := (blk_cell BK509.out 1).trans rfl
                have hcz78_2 : wr.cell? ⟨gb509, 2, none⟩ = some (.string a0_2) := (blk_cell BK509.out 2).trans rfl
                have hcz78_3 : wr.cell? ⟨gb509, 3, none⟩ = some (.slice A0_3 l0_3.length c0_3) := (blk_cell BK509.out 3).trans rfl
                have hcz78_4 : wr.cell? ⟨gb509, 4, none⟩ = some (.slice A0_4 l0_4.length c0_4) := (blk_cell BK509.out 4).trans rfl
                have hcz78_5 : wr.cell? ⟨gb509, 5, none⟩ = some (.slice A0_5 l0_5.length c0_5) := (blk_cell BK509.out 5).trans rfl
                have hfz78_0 := blk_frozen BK509.out 0
                have hfz78_1 := blk_frozen BK509.out 1
                have hfz78_2 := blk_frozen BK509.out 2
                have hfz78_3 := blk_frozen BK509.out 3
                have hfz78_4 := blk_frozen BK509.out 4
                have hfz78_5 := blk_frozen BK509.out 5
                obtain ⟨Ao79, co79, eo79⟩ := Kd.R_slice HO_9.out
                subst eo79
                go_wp2
                (try simp only [← hl522005_1])
                go_roundg k2
                case measure => have := HK1.out; have := HK2.out; omega
                case rel => exact ⟨(wrap64 (x8_1 + 1)), (by first | rfl | (simp; done) | (simp [*]; done)), H', ⟨by have := HK1.out; have := HK2.out; omega⟩, ⟨by (try simp only [hl522005_1]); (with_reducible repeat (first | apply Kd.N_alloc | apply Kd.N_drewN | apply Kd.N_drew)); exact Kd.N_mono HO_5.out (fun _ hk => ⟨hk.1, ⟨hk.2.2.1, ⟨hk.2.2.2.1, hk.2.2.2.2⟩⟩⟩)⟩, ⟨by (try simp only [hl522005_1]); (with_reducible repeat (first | apply Kd.V_alloc | apply Kd.V_drewN | apply Kd.V_drew)); exact Kd.V_mono HO_510005.out (fun _ hk => ⟨hk.1, ⟨hk.2.1, ⟨hk.2.2.2.1, ⟨hk.2.2.2.2.1, hk.2.2.2.2.2⟩⟩⟩⟩)⟩, ⟨by (try simp only [hl522005_1]); (with_reducible repeat (first | apply Kd.N_alloc | apply Kd.N_drewN | apply Kd.N_drew)); exact Kd.N_mono HO_522005.out (fun _ hk => ⟨hk.1, ⟨hk.2.1, ⟨hk.2.2.2.1, hk.2.2.2.2⟩⟩⟩)⟩, ⟨by (try simp only [hl522005_1]); (with_reducible repeat (first | refine blk_drewN ?_ _ | refine blk_drew ?_ | refine blk_alloc ?_ _)); exact BK509.out⟩, ⟨by (try simp only [hl522005_1]); (with_reducible repeat (first | refine blk_drewN ?_ _ | refine blk_drew ?_ | refine blk_alloc ?_ _)); exact BK521.out⟩, ⟨by repeat (first | (with_reducible first | exact HB.out | apply below_alloc | apply pw_below_drewN | apply below_drew1 | refine below_set ?_ GE509.out | refine below_set ?_ GE521.out) | exact HB.out)⟩⟩
               ·rw [if_neg c76] at H
                have c76b0 : (x8_1 == ji20) = false := beq_eq_false_iff_ne.mpr c76
                have c76b1 : (x8_1 != ji20) = true := bne_iff_ne.mpr c76
                replace H := Option.bind_eq_some_iff.mp H
                obtain ⟨t530, A800, H⟩ := H
                replace H : ((truantlaw09_same.f k2 t530 t523).bind fun t533 => (if t533 = true then (truantlaw09_FlowTurned.l0 k2 t512 ji20 (wrap64 (x8_1 + 1)) a0_0 l0_1 a0_2 l0_3 l0_4 l0_5 (⟨#[]⟩ : ByteArray) (⟨#[]⟩ : ByteArray) l0_4 y522) else (none))) = some r := H
                have A80 := Aside0.mk A800
                clear A800
                replace H := Option.bind_eq_some_iff.mp H
                obtain ⟨t533, A810, H⟩ := H
                replace H : (if t533 = true then (truantlaw09_FlowTurned.l0 k2 t512 ji20 (wrap64 (x8_1 + 1)) a0_0 l0_1 a0_2 l0_3 l0_4 l0_5 (⟨#[]⟩ : ByteArray) (⟨#[]⟩ : ByteArray) l0_4 y522) else (none)) = some r := H
                have A81 := Aside0.mk A810
                clear A810
                by_cases c82 : t533 = true
                ·subst c82
                 have H1 : (truantlaw09_FlowTurned.l0 k2 t512 ji20 (wrap64 (x8_1 + 1)) a0_0 l0_1 a0_2 l0_3 l0_4 l0_5 (⟨#[]⟩ : ByteArray) (⟨#[]⟩ : ByteArray) l0_4 y522) = some r := by rw [if_pos rfl] at H; exact H
                 clear H
                 have H := H1
                 clear H1
                 have H' := Aside0.mk H
                 clear H
                 have hnb83 := NB509_521.out
                 have hnc83 := NB521_509.out
                 have hcz84_0 : wr.cell? ⟨gb509, 0, none⟩ = some (.string a0_0) := (blk_cell BK509.out 0).trans rfl
                 have hcz84_1 : wr.cell? ⟨gb509, 1, none⟩ = some (.slice A0_1 l0_1.length c0_1) := (blk_cell BK509.out 1).trans rfl
                 have hcz84_2 : wr.cell? ⟨gb509, 2, none⟩ = some (.string a0_2) := (blk_cell BK509.out 2).trans rfl
                 have hcz84_3 : wr.cell? ⟨gb509, 3, none⟩ = some (.slice A0_3 l0_3.length c0_3) := (blk_cell BK509.out 3).trans rfl
                 have hcz84_4 : wr.cell? ⟨gb509, 4, none⟩ = some (.slice A0_4 l0_4.length c0_4) := (blk_cell BK509.out 4).trans rfl
                 have hcz84_5 : wr.cell? ⟨gb509, 5, none⟩ = some (.slice A0_5 l0_5.length c0_5) := (blk_cell BK509.out 5).trans rfl
                 have hfz84_0 := blk_frozen BK509.out 0
                 have hfz84_1 := blk_frozen BK509.out 1
                 have hfz84_2 := blk_frozen BK509.out 2
                 have hfz84_3 := blk_frozen BK509.out 3
                 have hfz84_4 := blk_frozen BK509.out 4
                 have hfz84_5 := blk_frozen BK509.out 5
                 obtain ⟨Ao85, co85, eo85⟩ := Kd.R_slice HO_9.out
                 subst eo85
                 have hcz86_0 : wr.cell? ⟨gb521, 0, none⟩ = some (.string (⟨#[]⟩ : ByteArray)) := (blk_cell BK521.out 0).trans rfl
                 have hcz86_1 : wr.cell? ⟨gb521, 1, none⟩ = some (.slice none 0 0) := (blk_cell BK521.out 1).trans rfl
                 have hcz86_2 : wr.cell? ⟨gb521, 2, none⟩ = some (.string (⟨#[]⟩ : ByteArray)) := (blk_cell BK521.out 2).trans rfl
                 have hcz86_3 : wr.cell? ⟨gb521, 3, none⟩ = some (.slice none 0 0) := (blk_cell BK521.out 3).trans rfl
                 have hcz86_4 : wr.cell? ⟨gb521, 4, none⟩ = some (.slice A0_4 l0_4.length c0_4) := (blk_cell BK521.out 4).trans rfl
                 have hcz86_5 : wr.cell? ⟨gb521, 5, none⟩ = some (.slice (some ⟨go23, 0, none⟩) y522.length co38) := (blk_cell BK521.out 5).trans rfl
                 have hfz86_0 := blk_frozen BK521.out 0
                 have hfz86_1 := blk_frozen BK521.out 1
                 have hfz86_2 := blk_frozen BK521.out 2
                 have hfz86_3 := blk_frozen BK521.out 3
                 have hfz86_4 := blk_frozen BK521.out 4
                 have hfz86_5 := blk_frozen BK521.out 5
                 go_wp2_with (first | (go_at_call 20; (refine (flow_Next.calls (⟨#[]⟩ : ByteArray) _ _ ([] : List ByteArray) (⟨#[]⟩ : ByteArray) _ _ ([] : List ByteArray) _ _ l0_4 _ _ y522 x8_1 t530 _ ?side1 ?side2 ?side3 ?side4 ?side5 ?side6 ?side7 ?side8 A80.out).mono ?_); (case side1 => exact Kd.C_nil _ _); (case side2 => exact Nat.le_refl _); (case side3 => exact Kd.C_nil _ _); (case side4 => exact Nat.le_refl _); (case side5 => repeat (first | exact (Kd.C_below HR0_4.out HB.out) | (with_reducible refine Kd.C_alloc ?_ _) | (with_reducible refine Kd.C_drewN ?_ _) | (with_reducible refine Kd.C_drew ?_))); (case side6 => exact HC0_4.out); (case side7 => repeat (first | exact (Kd.N_reads' HO_522005.out).2.2 | (with_reducible refine Kd.C_alloc ?_ _) | (with_reducible refine Kd.C_drewN ?_ _) | (with_reducible refine Kd.C_drew ?_))); (case side8 => exact (Kd.N_reads' HO_522005.out).2.1); rintro e w87 ⟨v531, rfl, ho0, hb⟩; have n0_ := Aside0.mk (Kd.N_elder' (by (with_reducible repeat (first | apply Kd.N_alloc | apply Kd.N_drewN | apply Kd.N_drew)); exact HO_5.out) (Kd.R_base ho0) hb); have n1_ := Aside0.mk (Kd.R_elder' (by (with_reducible repeat (first | apply Kd.R_alloc | apply Kd.R_drewN | apply Kd.R_drew)); exact HO_9.out) (Kd.R_base ho0) hb); have n2_ := Aside0.mk (Kd.V_elder' (by (with_reducible repeat (first | apply Kd.V_alloc | apply Kd.V_drewN | apply Kd.V_drew)); exact HO_510005.out) (Kd.R_base ho0) hb); have n3_ := Aside0.mk (Kd.N_elder' (by (with_reducible repeat (first | apply Kd.N_alloc | apply Kd.N_drewN | apply Kd.N_drew)); exact HO_522005.out) (Kd.R_base ho0) hb); have n4_ := Aside0.mk (Kd.R_lower (Kd.R_new' (Kd.R_newM (M := fun k_ => (w.heap.size ≤ k_)) ho0 (below_size (by repeat (first | (with_reducible first | exact HB.out | apply below_alloc | apply pw_below_drewN | apply below_drew1 | refine below_set ?_ GE509.out | refine below_set ?_ GE521.out) | exact HB.out))) (fun k_ h_ => h_)) (Kd.R_lt (by (with_reducible repeat (first | apply Kd.R_alloc | apply Kd.R_drewN | apply Kd.R_drew)); exact HO_9.out))) (below_size (by repeat (first | (with_reducible first | exact HB.out | apply below_alloc | apply pw_below_drewN | apply below_drew1 | refine below_set ?_ GE509.out | refine below_set ?_ GE521.out) | exact HB.out)))); have n5_ := Aside0.mk (blk_below (g := gb509) (o := .cells #[.string a0_0, .slice A0_1 l0_1.length c0_1, .string a0_2, .slice A0_3 l0_3.length c0_3, .slice A0_4 l0_4.length c0_4, .slice A0_5 l0_5.length c0_5] 26 (0, 0)) (by (with_reducible repeat (first | refine blk_drewN ?_ _ | refine blk_drew ?_ | refine blk_alloc ?_ _)); exact BK509.out) hb); have n6_ := Aside0.mk (blk_below (g := gb521) (o := .cells #[.string (⟨#[]⟩ : ByteArray), .slice none 0 0, .string (⟨#[]⟩ : ByteArray), .slice none 0 0, .slice A0_4 l0_4.length c0_4, .slice (some ⟨go23, 0, none⟩) y522.length co38] 26 (0, 0)) (by (with_reducible repeat (first | refine blk_drewN ?_ _ | refine blk_drew ?_ | refine blk_alloc ?_ _)); exact BK521.out) hb); have n7_ := Aside0.mk (below_step (by repeat (first | (with_reducible first | exact HB.out | apply below_alloc | apply pw_below_drewN | apply below_drew1 | refine below_set ?_ GE509.out | refine below_set ?_ GE521.out) | exact HB.out)) hb); clear HO_5; clear HO_9; clear HO_510005; clear HO_522005; clear BK509; clear BK521; clear HB; have HO_5 := n0_; have HO_9 := n1_; have HO_510005 := n2_; have HO_522005 := n3_; have HO532 := n4_; have BK509 := n5_; have BK521 := n6_; have HB := n7_; clear n0_ n1_ n2_ n3_ n4_ n5_ n6_ n7_; (try clear hb); (try clear hb2); (try clear hk); (try clear hi); (try clear ho0); obtain ⟨Ao88, co88, eo88⟩ := Kd.R_slice HO532.out; subst eo88) | (go_at_call 19; (with_reducible refine (truantlaw09_same.calls k2 _ _ t530 _ _ t523 true _ ?side1 ?side2 ?side3 ?side4 A81.out).mono ?_); (case side1 => repeat (first | exact (Kd.R_reads' HO532.out).2.2 | (with_reducible refine Kd.C_alloc ?_ _) | (with_reducible refine Kd.C_drewN ?_ _) | (with_reducible refine Kd.C_drew ?_))); (case side2 => exact (Kd.R_reads' HO532.out).2.1); (case side3 => repeat (first | exact (Kd.R_reads' HO_9.out).2.2 | (with_reducible refine Kd.C_alloc ?_ _) | (with_reducible refine Kd.C_drewN ?_ _) | (with_reducible refine Kd.C_drew ?_))); (case side4 => exact (Kd.R_reads' HO_9.out).2.1); rintro e w' ⟨rfl, ⟨nd, rfl⟩⟩))
                 (try simp only [← hl522005_1])
                 go_roundg k2
                 case measure => have := HK1.out; have := HK2.out; omega
                 case rel => exact ⟨(wrap64 (x8_1 + 1)), (by first | rfl | (simp; done) | (simp [*]; done)), H', ⟨by have := HK1.out; have := HK2.out; omega⟩, ⟨by (try simp only [hl522005_1]); (with_reducible repeat (first | apply Kd.N_alloc | apply Kd.N_drewN | apply Kd.N_drew)); exact Kd.N_mono HO_5.out (fun _ hk => ⟨hk.1.1, ⟨hk.1.2.2.1, ⟨hk.1.2.2.2.1, hk.1.2.2.2.2⟩⟩⟩)⟩, ⟨by (try simp only [hl522005_1]); (with_reducible repeat (first | apply Kd.V_alloc | apply Kd.V_drewN | apply Kd.V_drew)); exact Kd.V_mono HO_510005.out (fun _ hk => ⟨hk.1.1, ⟨hk.1.2.1, ⟨hk.1.2.2.2.1, ⟨hk.1.2.2.2.2.1, hk.1.2.2.2.2.2⟩⟩⟩⟩)⟩, ⟨by (try simp only [hl522005_1]); (with_reducible repeat (first | apply Kd.N_alloc | apply Kd.N_drewN | apply Kd.N_drew)); exact Kd.N_mono HO_522005.out (fun _ hk => ⟨hk.1.1, ⟨hk.1.2.1, ⟨hk.1.2.2.2.1, hk.1.2.2.2.2⟩⟩⟩)⟩, ⟨by (try simp only [hl522005_1]); (with_reducible repeat (first | refine blk_drewN ?_ _ | refine blk_drew ?_ | refine blk_alloc ?_ _)); exact BK509.out⟩, ⟨by (try simp only [hl522005_1]); (with_reducible repeat (first | refine blk_drewN ?_ _ | refine blk_drew ?_ | refine blk_alloc ?_ _)); exact BK521.out⟩, ⟨by repeat (first | (with_reducible first | exact HB.out | apply below_alloc | apply pw_below_drewN | apply below_drew1 | refine below_set ?_ GE509.out | refine below_set ?_ GE521.out) | exact HB.out)⟩⟩
                ·replace c82 := Bool.eq_false_iff.mpr c82
                 subst c82
                 have H1 : (none) = some r := by rw [if_neg (show ¬ (false = true) by decide)] at H; exact H
                 clear H
                 have H := H1
                 clear H1
                 exact absurd H (by simp)
              ·rw [if_neg c75] at H
               exact absurd H (by simp)
          ·rw [if_neg c50] at H
           have c50b0 : decide (x8_1 < (l0_5.length : Int)) = false := decide_eq_false c50
           clear c50
           replace H := Option.bind_eq_some_iff.mp H
           obtain ⟨t534, A890, H⟩ := H
           replace H : (some ((t534.length : Int) == 0)) = some r := H
           have A89 := Aside0.mk A890
           clear A890
           obtain rfl := Option.some.inj H
           have hnb90 := NB509_521.out
           have hnc90 := NB521_509.out
           have hcz91_0 : wr.cell? ⟨gb509, 0, none⟩ = some (.string a0_0) := (blk_cell BK509.out 0).trans rfl
           have hcz91_1 : wr.cell? ⟨gb509, 1, none⟩ = some (.slice A0_1 l0_1.length c0_1) := (blk_cell BK509.out 1).trans rfl
           have hcz91_2 : wr.cell? ⟨gb509, 2, none⟩ = some (.string a0_2) := (blk_cell BK509.out 2).trans rfl
           have hcz91_3 : wr.cell? ⟨gb509, 3, none⟩ = some (.slice A0_3 l0_3.length c0_3) := (blk_cell BK509.out 3).trans rfl
           have hcz91_4 : wr.cell? ⟨gb509, 4, none⟩ = some (.slice A0_4 l0_4.length c0_4) := (blk_cell BK509.out 4).trans rfl
           have hcz91_5 : wr.cell? ⟨gb509, 5, none⟩ = some (.slice A0_5 l0_5.length c0_5) := (blk_cell BK509.out 5).trans rfl
           have hfz91_0 := blk_frozen BK509.out 0
           have hfz91_1 := blk_frozen BK509.out 1
           have hfz91_2 := blk_frozen BK509.out 2
           have hfz91_3 := blk_frozen BK509.out 3
           have hfz91_4 := blk_frozen BK509.out 4
           have hfz91_5 := blk_frozen BK509.out 5
           have hcz92_0 : wr.cell? ⟨gb521, 0, none⟩ = some (.string (⟨#[]⟩ : ByteArray)) := (blk_cell BK521.out 0).trans rfl
           have hcz92_1 : wr.cell? ⟨gb521, 1, none⟩ = some (.slice none 0 0) := (blk_cell BK521.out 1).trans rfl
           have hcz92_2 : wr.cell? ⟨gb521, 2, none⟩ = some (.string (⟨#[]⟩ : ByteArray)) := (blk_cell BK521.out 2).trans rfl
           have hcz92_3 : wr.cell? ⟨gb521, 3, none⟩ = some (.slice none 0 0) := (blk_cell BK521.out 3).trans rfl
           have hcz92_4 : wr.cell? ⟨gb521, 4, none⟩ = some (.slice A0_4 l0_4.length c0_4) := (blk_cell BK521.out 4).trans rfl
           have hcz92_5 : wr.cell? ⟨gb521, 5, none⟩ = some (.slice (some ⟨go23, 0, none⟩) y522.length co38) := (blk_cell BK521.out 5).trans rfl
           have hfz92_0 := blk_frozen BK521.out 0
           have hfz92_1 := blk_frozen BK521.out 1
           have hfz92_2 := blk_frozen BK521.out 2
           have hfz92_3 := blk_frozen BK521.out 3
           have hfz92_4 := blk_frozen BK521.out 4
           have hfz92_5 := blk_frozen BK521.out 5
           go_wp2_with (first | ((with_reducible refine gate_callee (f := 20) rfl ?_); refine goesL_ (some 126) rfl rfl Try.func20 (by kernel_rfl) rfl #[.agg #[.string (⟨#[]⟩ : ByteArray), .slice none 0 0, .string (⟨#[]⟩ : ByteArray), .slice none 0 0, .slice A0_4 l0_4.length c0_4, .slice (some ⟨go23, 0, none⟩) y522.length co38], .int .i64 ji20] rfl (by (try simp only [List.map_toArray, List.map_cons, List.map_nil]); first | done | (simp only [hji20]; rfl) | rfl | (simp only [List.length_drop, List.length_take]; rfl)) ?_; (refine (flow_Next.calls (⟨#[]⟩ : ByteArray) _ _ ([] : List ByteArray) (⟨#[]⟩ : ByteArray) _ _ ([] : List ByteArray) _ _ l0_4 _ _ y522 ji20 t534 _ ?side1 ?side2 ?side3 ?side4 ?side5 ?side6 ?side7 ?side8 A89.out).mono ?_); (case side1 => exact Kd.C_nil _ _); (case side2 => exact Nat.le_refl _); (case side3 => exact Kd.C_nil _ _); (case side4 => exact Nat.le_refl _); (case side5 => repeat (first | exact (Kd.C_below HR0_4.out HB.out) | (with_reducible refine Kd.C_alloc ?_ _) | (with_reducible refine Kd.C_drewN ?_ _) | (with_reducible refine Kd.C_drew ?_))); (case side6 => exact HC0_4.out); (case side7 => repeat (first | exact (Kd.N_reads' HO_522005.out).2.2 | (with_reducible refine Kd.C_alloc ?_ _) | (with_reducible refine Kd.C_drewN ?_ _) | (with_reducible refine Kd.C_drew ?_))); (case side8 => exact (Kd.N_reads' HO_522005.out).2.1); rintro e w93 ⟨v535, rfl, ho0, hb⟩; refine ⟨_, rfl, ?_⟩; have n0_ := Aside0.mk (Kd.N_elder' (by (with_reducible repeat (first | apply Kd.N_alloc | apply Kd.N_drewN | apply Kd.N_drew)); exact HO_5.out) (Kd.R_base ho0) hb); have n1_ := Aside0.mk (Kd.V_elder' (by (with_reducible repeat (first | apply Kd.V_alloc | apply Kd.V_drewN | apply Kd.V_drew)); exact HO_510005.out) (Kd.R_base ho0) hb); have n2_ := Aside0.mk (Kd.N_elder' (by (with_reducible repeat (first | apply Kd.N_alloc | apply Kd.N_drewN | apply Kd.N_drew)); exact HO_522005.out) (Kd.R_base ho0) hb); have n3_ := Aside0.mk (Kd.R_lower (Kd.R_newM (M := fun k_ => (w.heap.size ≤ k_)) ho0 (below_size (by repeat (first | (with_reducible first | exact HB.out | apply below_alloc | apply pw_below_drewN | apply below_drew1 | refine below_set ?_ GE509.out | refine below_set ?_ GE521.out) | exact HB.out))) (fun k_ h_ => h_)) (below_size (by repeat (first | (with_reducible first | exact HB.out | apply below_alloc | apply pw_below_drewN | apply below_drew1 | refine below_set ?_ GE509.out | refine below_set ?_ GE521.out) | exact HB.out)))); have n4_ := Aside0.mk (blk_below (g := gb509) (o := .cells #[.string a0_0, .slice A0_1 l0_1.length c0_1, .string a0_2, .slice A0_3 l0_3.length c0_3, .slice A0_4 l0_4.length c0_4, .slice A0_5 l0_5.length c0_5] 26 (0, 0)) (by (with_reducible repeat (first | refine blk_drewN ?_ _ | refine blk_drew ?_ | refine blk_alloc ?_ _)); exact BK509.out) hb); have n5_ := Aside0.mk (blk_below (g := gb521) (o := .cells #[.string (⟨#[]⟩ : ByteArray), .slice none 0 0, .string (⟨#[]⟩ : ByteArray), .slice none 0 0, .slice A0_4 l0_4.length c0_4, .slice (some ⟨go23, 0, none⟩) y522.length co38] 26 (0, 0)) (by (with_reducible repeat (first | refine blk_drewN ?_ _ | refine blk_drew ?_ | refine blk_alloc ?_ _)); exact BK521.out) hb); have n6_ := Aside0.mk (below_step (by repeat (first | (with_reducible first | exact HB.out | apply below_alloc | apply pw_below_drewN | apply below_drew1 | refine below_set ?_ GE509.out | refine below_set ?_ GE521.out) | exact HB.out)) hb); clear HO_5; clear HO_510005; clear HO_522005; clear BK509; clear BK521; clear HB; have HO_5 := n0_; have HO_510005 := n1_; have HO_522005 := n2_; have HO536 := n3_; have BK509 := n4_; have BK521 := n5_; have HB := n6_; clear n0_ n1_ n2_ n3_ n4_ n5_ n6_; (try clear hb); (try clear hb2); (try clear hk); (try clear hi); (try clear ho0); obtain ⟨Ao94, co94, eo94⟩ := Kd.R_slice HO536.out; subst eo94))
           go_ret
           exact ⟨by first | rfl | (simp [errW_none, errW_some] <;> rfl) | (simp only [← hji20]; first | rfl | (simp [errW_none, errW_some] <;> rfl)) | (simp [*, errW_none, errW_some] <;> rfl), by repeat (first | (with_reducible first | exact HB.out | apply below_alloc | apply pw_below_drewN | apply below_drew1 | refine below_set ?_ GE509.out | refine below_set ?_ GE521.out) | exact HB.out)⟩
       ·rw [if_neg c22] at H
        exact absurd H (by simp)
      ·rw [if_neg c21] at H
       exact absurd H (by simp)
     ·rw [if_neg c19] at H
      exact absurd H (by simp)
 ·replace c4 := Bool.eq_false_iff.mpr c4
  subst c4
  have H1 : (none) = some r := by rw [if_neg (show ¬ (false = true) by decide)] at H; exact H
  clear H
  have H := H1
  clear H1
  exact absurd H (by simp)

end Go.Proofs.Ytclhjalgflebfaa.Q

/- How an argument of a type reads: out of the form's reading comes the value that the printed walks take. -/
namespace Go.Proofs.Ytclhjalgflebfaa.Q
open Go.RowKit Go.Proofs.YtclhjalgflebfaaW.PrintWords Go.Proofs.YtclhjalgflebfaaW.PrintLast Go.Proofs.YtclhjalgflebfaaW.PrintMore
set_option linter.unusedVariables false
set_option linter.unusedSimpArgs false
/-- What reads at type t reads as a value of kind K, of which Q holds. -/
structure Opens {α : Type} (P : Program) (t : TypeId) (K : Kd α) (Q : α → Prop) : Prop where
 out : ∀ {H : Type} {enc : TypeId × Value → H} {W : World} {base : Nat} {sp : Nat → Bool} {held : Bool} {fuel : Nat} {cs : List Value} {x : DataW H × List MemPlace},
  (∀ n ∈ x.1.weights P t, n ≤ reachBytes) → DataW.trod enc P W base sp held fuel t cs = some x → ∃ y, K.K W y cs ∧ Q y
section
variable {P : Program}
theorem opens_string {t : TypeId} (ht : P.underlying t = some .string) : Opens P t Kd.string (fun s => s.size ≤ 140737488351232) := by
 constructor
 intro H enc W base sp held fuel cs x hw h
 obtain ⟨s, rfl, rfl, hs⟩ : ∃ s : ByteArray, cs = [.string s] ∧ x = (.lit (.string s.data.toList), []) ∧ s.size ≤ maxLen := by
  cases fuel with
  | zero => simp [DataW.trod] at h
  | succ n =>
   unfold DataW.trod at h
   rw [ht] at h
   split at h <;> simp_all
 refine ⟨s, rfl, ?_⟩
 have := hw s.data.toList.length (by simp [DataW.weights])
 rw [Array.length_toList] at this
 exact this
theorem opens_int {t : TypeId} {q : IntKind} (ht : P.underlying t = some (.int q)) : Opens P t (Kd.int q) (fun n => (Lit.int q n).wf = true) := by
 constructor
 intro H enc W base sp held fuel cs x hw h
 obtain ⟨n, rfl, hs⟩ : ∃ n : Int, cs = [.int q n] ∧ (Lit.int q n).wf = true := by
  cases fuel with
  | zero => simp [DataW.trod] at h
  | succ n =>
   unfold DataW.trod at h
   rw [ht] at h
   split at h <;> simp_all
 exact ⟨n, rfl, hs⟩
theorem opens_bool {t : TypeId} (ht : P.underlying t = some .bool) : Opens P t Kd.bool (fun _ => True) := by
 constructor
 intro H enc W base sp held fuel cs x hw h
 obtain ⟨b, rfl⟩ : ∃ b : Bool, cs = [.bool b] := by
  cases fuel with
  | zero => simp [DataW.trod] at h
  | succ n =>
   unfold DataW.trod at h
   rw [ht] at h
   split at h <;> simp_all
 exact ⟨b, rfl, trivial⟩
theorem weights_all {H : Type} {e : TypeId} : ∀ {ds : List (DataW H)} {d : DataW H}, d ∈ ds → ∀ n ∈ d.weights P e, n ∈ DataW.weightsAll P e ds
 | d0 :: ds, d, hd, n, hn => by
  simp only [DataW.weightsAll, List.mem_append]
  rcases List.mem_cons.mp hd with rfl | h
  ·exact .inl hn
  ·exact .inr (weights_all h n hn)
theorem choose_list {α : Type} {p : Nat → α → Prop} : ∀ {n : Nat}, (∀ i, i < n → ∃ y, p i y) → ∃ ys : List α, ys.length = n ∧ ∀ i y, ys[i]? = some y → p i y
 | 0, _ => ⟨[], rfl, fun i y h => by simp at h⟩
 | n + 1, h => by
  obtain ⟨ys, hl, hy⟩ := choose_list (n := n) (fun i hi => h i (by omega))
  obtain ⟨y, hp⟩ := h n (by omega)
  refine ⟨ys ++ [y], by simp [hl], fun i z hz => ?_⟩
  by_cases hi : i < n
  ·rw [List.getElem?_append_left (by omega)] at hz
   exact hy i z hz
  ·have := (List.getElem?_eq_some_iff.mp hz).1
   simp at this
   have e : i = n := by omega
   subst e
   rw [List.getElem?_append_right (by omega)] at hz
   simp [hl] at hz
   subst hz
   exact hp
theorem opens_slice {α : Type} {t e : TypeId} {K : Kd α} {Q : α → Prop} (he : Opens P e K Q) (ht : P.underlying t = some (.slice e)) (hc : P.cellsOf e = K.sz) (bytes : Nat) (hb : P.bytesOf e = bytes) :
  Opens P t (Kd.slice e K) (fun l => l.length * bytes ≤ 140737488351232 ∧ ∀ x ∈ l, Q x) := by
 constructor
 intro H enc W base sp held fuel cs x hw h
 rcases Deep.open_slice ht h with ⟨rfl, rfl⟩ | ⟨a, len, cap, m, n, D, Pl, rfl, _, hl, hm, hmm, rfl, hel⟩
 ·exact ⟨[], ⟨none, 0, rfl, Nat.le_refl _, Kd.C_nil K W⟩, by simp, by simp⟩
 ·have hlm : len ≤ m := by rw [hmm]; split <;> omega
  have hw' : ∀ i, i < len → ∀ k ∈ (D i).weights P e, k ≤ reachBytes := fun i hi k hk => hw k (by
   simp only [DataW.weights, ht, List.mem_cons, List.mem_append]
   exact .inr (.inl (weights_all (List.mem_map.mpr ⟨i, by simpa using hi, rfl⟩) k hk)))
  obtain ⟨ys, hys, hY⟩ := choose_list (n := len) (p := fun i y => (∃ c, c.length = K.sz ∧ K.K W y c ∧ ∀ j u, c[j]? = some u → W.cell? (a.add (i * K.sz + j)) = some u) ∧ Q y) (fun i hi => by
   obtain ⟨c, h1, h2⟩ := hel i (by omega)
   obtain ⟨y, hy, hq⟩ := he.out (hw' i hi) h2
   obtain ⟨_, h3, h4⟩ := World.cells?_some h1
   rw [hc] at h3 h4
   refine ⟨y, ⟨c, h3, hy, fun j u hu => ?_⟩, hq⟩
   have hj : j < K.sz := by
    have := (List.getElem?_eq_some_iff.mp hu).1
    omega
   have h5 := h4 j hj
   rw [Addr.add_add] at h5
   rw [h5, hu])
  have hlen : len ≤ maxLen := by omega
  refine ⟨ys, ⟨some a, cap, by rw [hys], by omega, rfl, by rw [hys]; unfold maxLen at hlen; omega, fun _ => ⟨a, rfl, fun j p hj => (hY j p hj).1⟩⟩, ?_, ?_⟩
  ·have := hw ((((List.range len).map D).length + ((List.range (m - len)).map fun j => D (len + j)).length) * P.bytesOf e) (by simp [DataW.weights, ht])
   rw [hb] at this
   simp only [List.length_map, List.length_range] at this
   have h2 : len * bytes ≤ (len + (m - len)) * bytes := Nat.mul_le_mul_right _ (by omega)
   rw [hys]
   unfold reachBytes at this
   omega
  ·intro x hx
   obtain ⟨i, hi, rfl⟩ := List.mem_iff_getElem.mp hx
   exact (hY i _ (List.getElem?_eq_getElem hi)).2
/-- The fields from one on. -/
structure OpensF {α : Type} (P : Program) (fs : List Field) (off : Nat) (K : Kd α) (Q : α → Prop) : Prop where
 out : ∀ {H : Type} {enc : TypeId × Value → H} {W : World} {base : Nat} {sp : Nat → Bool} {held : Bool} {fuel : Nat} {cs : List Value} {xs : List (DataW H × List MemPlace)},
  cs.length = off + K.sz → (∀ n ∈ DataW.weightsEach P (fs.map (·.type)) (xs.map (·.1)), n ≤ reachBytes) → (fs.mapM fun f => DataW.trod enc P W base sp held fuel f.type ((cs.drop f.offset).take (P.cellsOf f.type))) = some xs → ∃ y, K.K W y (cs.drop off) ∧ Q y
theorem opensF_last {α : Type} {f : Field} {off t : Nat} {K : Kd α} {Q : α → Prop} (h : Opens P t K Q) (h0 : f.type = t) (hc : P.cellsOf t = K.sz) (ho : f.offset = off) : OpensF P [f] off K Q := by
 constructor
 intro H enc W base sp held fuel cs xs hl hw hm
 subst h0
 simp only [List.mapM_cons, List.mapM_nil, Option.pure_def, Option.bind_eq_bind, Option.bind_some] at hm
 obtain ⟨x, hx, hm⟩ := Option.bind_eq_some_iff.mp hm
 obtain rfl := Option.some.inj hm
 rw [hc, ho, List.take_of_length_le (by rw [List.length_drop]; omega)] at hx
 exact h.out (fun n hn => hw n (by simp [DataW.weightsEach, hn])) hx
theorem opensF_cons {α β : Type} {f : Field} {fs : List Field} {off t : Nat} {K : Kd α} {K1 : Kd β} {Q : α → Prop} {Q1 : β → Prop} (h : Opens P t K Q) (h0 : f.type = t) (hc : P.cellsOf t = K.sz) (ho : f.offset = off) (h1 : OpensF P fs (off + K.sz) K1 Q1) :
  OpensF P (f :: fs) off (Kd.pair K K1) (fun p => Q p.1 ∧ Q1 p.2) := by
 constructor
 intro H enc W base sp held fuel cs xs hl hw hm
 subst h0
 have hl : cs.length = off + (K.sz + K1.sz) := hl
 rw [List.mapM_cons] at hm
 simp only [Option.pure_def, Option.bind_eq_bind] at hm
 obtain ⟨x, hx, hm⟩ := Option.bind_eq_some_iff.mp hm
 obtain ⟨xs', hxs, hm⟩ := Option.bind_eq_some_iff.mp hm
 obtain rfl := Option.some.inj hm
 rw [hc, ho] at hx
 obtain ⟨y, hy, hq⟩ := h.out (fun n hn => hw n (by simp only [List.map_cons, DataW.weightsEach, List.mem_append]; exact .inl hn)) hx
 obtain ⟨z, hz, hq1⟩ := h1.out (by omega) (fun n hn => hw n (by simp only [List.map_cons, DataW.weightsEach, List.mem_append]; exact .inr hn)) hxs
 refine ⟨(y, z), ⟨(cs.drop off).take K.sz, cs.drop (off + K.sz), ?_, hy, hz⟩, hq, hq1⟩
 rw [← List.drop_drop, List.take_append_drop]
theorem opens_struct {α β : Type} {t : TypeId} {fs : Array Field} {K : Kd α} {Q : α → Prop} (ht : P.underlying t = some (.struct fs)) (h : OpensF P fs.toList 0 K Q) (hc : P.cellsOf t = K.sz) (g : β → α) (g' : α → β) (hg : ∀ y, g (g' y) = y) : Opens P t (Kd.iso K g) (fun x => Q (g x)) := by
 constructor
 intro H enc W base sp held fuel cs x hw hm
 cases fuel with
 | zero => simp [DataW.trod] at hm
 | succ n =>
  unfold DataW.trod at hm
  rw [ht] at hm
  simp only at hm
  split at hm
  ·rename_i hl
   obtain ⟨xs, hxs, rfl⟩ := Option.map_eq_some_iff.mp hm
   obtain ⟨y, hy, hq⟩ := h.out (cs := cs) (xs := xs) (by rw [hl, hc]; omega) (fun n hn => hw n (by simp only [DataW.weights, ht]; exact hn)) hxs
   exact ⟨g' y, by show K.K W (g (g' y)) cs; rw [hg]; simpa using hy, by show Q (g (g' y)); rw [hg]; exact hq⟩
  ·cases hm
theorem opens_array2 {α β : Type} {t e : TypeId} {K : Kd α} {Q : α → Prop} {k : Kd β} {WF : β → Prop} (mk : α → α → β) (g : β → α × α) (he : Opens P e K Q) (ht : P.underlying t = some (.array 2 e)) (hsz : K.sz = 1) (hce : P.cellsOf e = 1) (hct : P.cellsOf t = 2) (hk : k = Kd.iso (Kd.pair K K) g) (hg : ∀ x y, g (mk x y) = (x, y)) (hQ : ∀ x y, Q x → Q y → WF (mk x y)) : Opens P t k WF := by
 subst hk
 constructor
 intro H enc W base sp held fuel cs x hw hm
 obtain ⟨xs, m, rfl, rfl, hl, hn, hi⟩ := DataW.trod_array ht hm
 rw [hct] at hl
 have hwx : ∀ d, d ∈ xs.map (·.1) → ∀ n ∈ d.weights P e, n ≤ reachBytes := fun d hd n hn => hw n (by simp only [DataW.weights, ht]; exact weights_all hd n hn)
 obtain ⟨d0, d1, rfl⟩ : ∃ d0 d1, xs = [d0, d1] := by
  match xs, hn with
  | [a, b], _ => exact ⟨a, b, rfl⟩
 obtain ⟨c0, c1, rfl⟩ : ∃ c0 c1, cs = [c0, c1] := by
  match cs, hl with
  | [a, b], _ => exact ⟨a, b, rfl⟩
 have h0 := hi 0 (by omega)
 have h1 := hi 1 (by omega)
 rw [hce] at h0 h1
 obtain ⟨y0, hy0, q0⟩ := he.out (hwx d0.1 (by simp)) (show _ = some d0 from h0)
 obtain ⟨y1, hy1, q1⟩ := he.out (hwx d1.1 (by simp)) (show _ = some d1 from h1)
 refine ⟨mk y0 y1, ?_, hQ _ _ q0 q1⟩
 show (Kd.pair K K).K W (g (mk y0 y1)) [c0, c1]
 rw [hg]
 exact ⟨[c0], [c1], rfl, hy0, hy1⟩
theorem opens_struct' {α β : Type} {t : TypeId} {fs : Array Field} {K : Kd α} {Q : α → Prop} {k : Kd β} {WF : β → Prop} (g' : α → β) (g : β → α) (ht : P.underlying t = some (.struct fs)) (h : OpensF P fs.toList 0 K Q) (hc : P.cellsOf t = K.sz) (hk : k = Kd.iso K g) (hg : ∀ y, g (g' y) = y) (hQ : ∀ x, Q (g x) → WF x) : Opens P t k WF := by
 subst hk
 constructor
 intro H enc W base sp held fuel cs x hw hm
 obtain ⟨y, h1, h2⟩ := (opens_struct ht h hc g g' hg).out hw hm
 exact ⟨y, h1, hQ y h2⟩
end
/-- What came in, as a row that is shared. -/
theorem came_V {α : Type} {d : Kd α} {e : Nat} {w : World} {A : Option Addr} {c : Nat} {xs : List α} (hd : Kd.Heap d) (h : d.C w A xs.length xs) (hc : xs.length ≤ c) : Kd.V d e w w.heap.size (fun k_ => k_ < w.heap.size) (.slice A xs.length c) xs :=
 Kd.V_mk hc (fun W' hW => hd.C (fun k hk => hW k hk hk) h)
end Go.Proofs.Ytclhjalgflebfaa.Q

namespace Go.Proofs.Ytclhjalgflebfaa.Q
open Go.RowKit Go.Proofs.YtclhjalgflebfaaW.PrintWords Go.Proofs.YtclhjalgflebfaaW.PrintLast Go.Proofs.YtclhjalgflebfaaW.PrintMore
set_option linter.unusedVariables false
set_option linter.unusedSimpArgs false

def WF58 (x : S58) : Prop := ((fun n : Int => (Lit.int .i64 n).wf = true) x.f0) ∧ ((fun s : ByteArray => s.size ≤ 140737488351232) x.f1) ∧ ((fun l : List Int => l.length * 8 ≤ 140737488351232 ∧ ∀ x ∈ l, (fun n : Int => (Lit.int .i64 n).wf = true) x) x.f2) ∧ ((fun n : Int => (Lit.int .i64 n).wf = true) x.f3) ∧ ((fun s : ByteArray => s.size ≤ 140737488351232) x.f4)
theorem opens58 : Opens Try.prog 58 k58 WF58 :=
 opens_struct' (fun p : (Int) × (ByteArray) × (List Int) × (Int) × (ByteArray) => (⟨p.1, p.2.1, p.2.2.1, p.2.2.2.1, p.2.2.2.2⟩ : S58)) (fun x : S58 => (x.f0, x.f1, x.f2, x.f3, x.f4)) Try.underlying58 (opensF_cons (opens_int Try.underlying3) rfl (by kernel_rfl) rfl (opensF_cons (opens_string Try.underlying9) rfl (by kernel_rfl) rfl (opensF_cons (opens_slice (opens_int Try.underlying3) Try.underlying34 (by kernel_rfl) 8 (by kernel_rfl)) rfl (by kernel_rfl) rfl (opensF_cons (opens_int Try.underlying3) rfl (by kernel_rfl) rfl (opensF_last (opens_string Try.underlying9) rfl (by kernel_rfl) rfl))))) (by kernel_rfl) rfl (fun _ => rfl) (fun _ h => h)
def WF38 (x : S38) : Prop := ((fun n : Int => (Lit.int .i64 n).wf = true) x.f0) ∧ ((fun n : Int => (Lit.int .i64 n).wf = true) x.f1)
theorem opens38 : Opens Try.prog 38 k38 WF38 :=
 opens_array2 (fun x y => (⟨x, y⟩ : S38)) (fun x : S38 => (x.f0, x.f1)) (opens_int Try.underlying3) Try.underlying38 rfl (by kernel_rfl) (by kernel_rfl) rfl (fun _ _ => rfl) (fun _ _ hx hy => ⟨hx, hy⟩)
def WF40 (x : S40) : Prop := ((fun l : List Int => l.length * 8 ≤ 140737488351232 ∧ ∀ x ∈ l, (fun n : Int => (Lit.int .i64 n).wf = true) x) x.f0) ∧ ((fun n : Int => (Lit.int .i64 n).wf = true) x.f1) ∧ ((fun n : Int => (Lit.int .i64 n).wf = true) x.f2) ∧ (WF38 x.f3)
theorem opens40 : Opens Try.prog 40 k40 WF40 :=
 opens_struct' (fun p : (List Int) × (Int) × (Int) × (S38) => (⟨p.1, p.2.1, p.2.2.1, p.2.2.2⟩ : S40)) (fun x : S40 => (x.f0, x.f1, x.f2, x.f3)) Try.underlying40 (opensF_cons (opens_slice (opens_int Try.underlying3) Try.underlying34 (by kernel_rfl) 8 (by kernel_rfl)) rfl (by kernel_rfl) rfl (opensF_cons (opens_int Try.underlying3) rfl (by kernel_rfl) rfl (opensF_cons (opens_int Try.underlying3) rfl (by kernel_rfl) rfl (opensF_last opens38 rfl (by kernel_rfl) rfl)))) (by kernel_rfl) rfl (fun _ => rfl) (fun _ h => h)
def WF26 (x : S26) : Prop := ((fun s : ByteArray => s.size ≤ 140737488351232) x.f0) ∧ ((fun l : List ByteArray => l.length * 16 ≤ 140737488351232 ∧ ∀ x ∈ l, (fun s : ByteArray => s.size ≤ 140737488351232) x) x.f1) ∧ ((fun s : ByteArray => s.size ≤ 140737488351232) x.f2) ∧ ((fun l : List ByteArray => l.length * 16 ≤ 140737488351232 ∧ ∀ x ∈ l, (fun s : ByteArray => s.size ≤ 140737488351232) x) x.f3) ∧ ((fun l : List (S58) => l.length * 72 ≤ 140737488351232 ∧ ∀ x ∈ l, WF58 x) x.f4) ∧ ((fun l : List (S40) => l.length * 56 ≤ 140737488351232 ∧ ∀ x ∈ l, WF40 x) x.f5)
theorem opens26 : Opens Try.prog 26 k26 WF26 :=
 opens_struct' (fun p : (ByteArray) × (List ByteArray) × (ByteArray) × (List ByteArray) × (List (S58)) × (List (S40)) => (⟨p.1, p.2.1, p.2.2.1, p.2.2.2.1, p.2.2.2.2.1, p.2.2.2.2.2⟩ : S26)) (fun x : S26 => (x.f0, x.f1, x.f2, x.f3, x.f4, x.f5)) Try.underlying26 (opensF_cons (opens_string Try.underlying9) rfl (by kernel_rfl) rfl (opensF_cons (opens_slice (opens_string Try.underlying9) Try.underlying22 (by kernel_rfl) 16 (by kernel_rfl)) rfl (by kernel_rfl) rfl (opensF_cons (opens_string Try.underlying9) rfl (by kernel_rfl) rfl (opensF_cons (opens_slice (opens_string Try.underlying9) Try.underlying22 (by kernel_rfl) 16 (by kernel_rfl)) rfl (by kernel_rfl) rfl (opensF_cons (opens_slice opens58 Try.underlying23 (by kernel_rfl) 72 (by kernel_rfl)) rfl (by kernel_rfl) rfl (opensF_last (opens_slice opens40 Try.underlying24 (by kernel_rfl) 56 (by kernel_rfl)) rfl (by kernel_rfl) rfl)))))) (by kernel_rfl) rfl (fun _ => rfl) (fun _ h => h)
theorem k58_heapQ : Kd.Heap k58 := Kd.heap_iso _ (Kd.heap_pair (Kd.heap_int .i64) (Kd.heap_pair Kd.heap_string (Kd.heap_pair (Kd.heap_slice 3 (Kd.heap_int .i64)) (Kd.heap_pair (Kd.heap_int .i64) Kd.heap_string))))
theorem k38_heapQ : Kd.Heap k38 := Kd.heap_iso _ (Kd.heap_pair (Kd.heap_int .i64) (Kd.heap_int .i64))
theorem k40_heapQ : Kd.Heap k40 := Kd.heap_iso _ (Kd.heap_pair (Kd.heap_slice 3 (Kd.heap_int .i64)) (Kd.heap_pair (Kd.heap_int .i64) (Kd.heap_pair (Kd.heap_int .i64) k38_heapQ)))
theorem k26_heapQ : Kd.Heap k26 := Kd.heap_iso _ (Kd.heap_pair Kd.heap_string (Kd.heap_pair (Kd.heap_slice 9 Kd.heap_string) (Kd.heap_pair Kd.heap_string (Kd.heap_pair (Kd.heap_slice 9 Kd.heap_string) (Kd.heap_pair (Kd.heap_slice 58 k58_heapQ) (Kd.heap_slice 40 k40_heapQ))))))
end Go.Proofs.Ytclhjalgflebfaa.Q

namespace Go.Proofs.Ytclhjalgflebfaa.Q
open Go.RowKit Go.Proofs.YtclhjalgflebfaaW.PrintWords Go.Proofs.YtclhjalgflebfaaW.PrintLast Go.Proofs.YtclhjalgflebfaaW.PrintMore
set_option linter.unusedVariables false
set_option linter.unusedSimpArgs false
def FlowTurned.Pure : Prop := ∀ (a0_0 : ByteArray) (l0_1 : List ByteArray) (a0_2 : ByteArray) (l0_3 : List ByteArray) (l0_4 : List (S58)) (l0_5 : List (S40)) (a1 : Int), WF26 ⟨a0_0, l0_1, a0_2, l0_3, l0_4, l0_5⟩ → (fun n : Int => (Lit.int .i64 n).wf = true) a1 → ∃ k, truantlaw09_FlowTurned.f k a0_0 l0_1 a0_2 l0_3 l0_4 l0_5 a1 = some true
end Go.Proofs.Ytclhjalgflebfaa.Q

/- Small words on 'from some number of rounds on'. -/

namespace Go.Proofs.Ytclhjalgflebfaa.Q
open Go.RowKit Go.Proofs.YtclhjalgflebfaaW.PrintWords Go.Proofs.YtclhjalgflebfaaW.PrintLast Go.Proofs.YtclhjalgflebfaaW.PrintMore
set_option linter.unusedVariables false
set_option linter.unusedSimpArgs false
section
variable {α : Type}
theorem Ev.pos {c : Prop} [Decidable c] {A B : Nat → Option α} {r : α} (h : c) (k : Ev A r) : Ev (fun n => if c then A n else B n) r := Ev.congr (fun n => if_pos h) k
theorem Ev.neg {c : Prop} [Decidable c] {A B : Nat → Option α} {r : α} (h : ¬ c) (k : Ev B r) : Ev (fun n => if c then A n else B n) r := Ev.congr (fun n => if_neg h) k
theorem Ev.one {β : Type} {a : Option β} {b : β} {f : Nat → β → Option α} {r : α} (h : a = some b) (k : Ev (fun n => f n b) r) : Ev (fun n => a.bind (f n)) r := Ev.congr (fun n => by rw [h]; rfl) k
theorem Ev.eq {g : Nat → Option α} {r r' : α} (k : Ev g r) (h : r = r') : Ev g r' := h ▸ k
theorem Ev.det {g : Nat → Option α} {r r' : α} (k : Ev g r) (h : Ev g r') : r = r' := by
 obtain ⟨K, k⟩ := k
 obtain ⟨K', h⟩ := h
 have h1 := k (max K K') (by omega)
 have h2 := h (max K K') (by omega)
 rw [h1] at h2
 exact Option.some.inj h2
theorem Ev.at_ {g : Nat → Option α} {r r' : α} {k : Nat} (hg : ∀ k, LeO (g k) (g (k + 1))) (h : g k = some r) (h' : Ev g r') : r = r' := Ev.det (Ev.of hg h) h'
theorem getD_succ {β : Type} (l : List β) (z : β) (x : β) (i : Nat) : (x :: l).getD (i + 1) z = l.getD i z := rfl
end
end Go.Proofs.Ytclhjalgflebfaa.Q
