/- What the row of NodeExact rests on, part 3: contracts of the functions that it reaches, and the plain law. -/
import Derived.Test.YtgidnkmlnccaiaaDoorJNodeExact2
namespace Go.Proofs.YtgidnkmlnccaiaaDoor.Q
open Go.RowKit Go.Proofs.YtgidnkmlnccaiaaDoorW.PrintWords Go.Proofs.YtgidnkmlnccaiaaDoorW.PrintLast Go.Proofs.YtgidnkmlnccaiaaDoorW.PrintMore
attribute [local go_sem] max2_int min2_int max_two min_two max_three min_three max_four min_four   -- for this text's walks alone
set_option linter.unusedVariables false
set_option linter.unusedSimpArgs false
attribute [local go_sem high] eqA30
/-! ### truantlaw18_NodeExact: function 3 -/
mutual
def truantlaw18_NodeExact.j0 : Nat → List (S28) → Bool → Int → Int → ByteArray → Int → Int → ByteArray → Option (Bool)
 | 0, _, _, _, _, _, _, _, _ => none
 | k + 1, x0, x28, x232000, x232001, x232002, x233000, x233001, x233002 => if x28 = true then (some true) else (truantlaw18_NodeExact.l0 k x0 0 x232000 x232001 x232002 x233000 x233001 x233002)
def truantlaw18_NodeExact.l0 : Nat → List (S28) → Int → Int → Int → ByteArray → Int → Int → ByteArray → Option (Bool)
 | 0, _, _, _, _, _, _, _, _ => none
 | k + 1, x0, x7, x232000, x232001, x232002, x233000, x233001, x233002 => if x7 < (x0.length : Int) then (if 0 ≤ x7 then (if (((rd_T28 x0 x7).f1).length : Int) > 12 then (some true) else (truantlaw18_NodeExact.l0 k x0 (wrap64 (x7 + 1)) x232000 x232001 x232002 x233000 x233001 x233002)) else (none)) else ((truantlaw18_form.f x232000 x232001 x232002).bind fun bt235 => ((truantlaw18_form.f x233000 x233001 x233002).bind fun bt238 => ((truantref18_Less.f bt235.1 bt235.2.1 bt235.2.2 bt238.1 bt238.2.1 bt238.2.2).bind fun t241 => (if t241 = true then (truantlaw18_NodeExact.j2 k x0 (-1) x232000 x232001 x232002 x233000 x233001 x233002) else (truantlaw18_NodeExact.j2 k x0 0 x232000 x232001 x232002 x233000 x233001 x233002)))))
def truantlaw18_NodeExact.j2 : Nat → List (S28) → Int → Int → Int → ByteArray → Int → Int → ByteArray → Option (Bool)
 | 0, _, _, _, _, _, _, _, _ => none
 | k + 1, x0, x8, x232000, x232001, x232002, x233000, x233001, x233002 => (truantlaw18_form.f x233000 x233001 x233002).bind fun bt242 => ((truantlaw18_form.f x232000 x232001 x232002).bind fun bt245 => ((truantref18_Less.f bt242.1 bt242.2.1 bt242.2.2 bt245.1 bt245.2.1 bt245.2.2).bind fun t248 => (if t248 = true then (truantlaw18_NodeExact.j3 k x0 1 x232000 x232001 x232002 x233000 x233001 x233002) else (truantlaw18_NodeExact.j3 k x0 x8 x232000 x232001 x232002 x233000 x233001 x233002))))
def truantlaw18_NodeExact.j3 : Nat → List (S28) → Int → Int → Int → ByteArray → Int → Int → ByteArray → Option (Bool)
 | 0, _, _, _, _, _, _, _, _ => none
 | k + 1, x0, x8, x232000, x232001, x232002, x233000, x233001, x233002 => (node_First.f k x0 x232000 x232001 x232002).bind fun t249 => ((truantlaw18_form.f x232000 x232001 x232002).bind fun bt252 => ((truantref18_First.f k x0 bt252.1 bt252.2.1 bt252.2.2).bind fun t255 => ((node_Compare.f k x232000 x232001 x232002 x233000 x233001 x233002).bind fun t258 => (if t258 = x8 then ((node_Text.f k x232000 x232001 x232002).bind fun t259 => ((truantlaw18_form.f x232000 x232001 x232002).bind fun bt260 => ((truantref18_Text.f k bt260.1 bt260.2.1 bt260.2.2).bind fun t263 => (if t259.toList = t263.toList then (truantlaw18_NodeExact.j4 k t249 t255 ((t249.length : Int) != (t255.length : Int))) else (truantlaw18_NodeExact.j4 k t249 t255 true))))) else (truantlaw18_NodeExact.j4 k t249 t255 true)))))
def truantlaw18_NodeExact.j4 : Nat → List (S40) → List (S42) → Bool → Option (Bool)
 | 0, _, _, _ => none
 | k + 1, x9, x10, x78 => if x78 = true then (none) else (truantlaw18_NodeExact.l1 k x9 x10 0)
def truantlaw18_NodeExact.l1 : Nat → List (S40) → List (S42) → Int → Option (Bool)
 | 0, _, _, _ => none
 | k + 1, x9, x10, x11 => if x11 < (x10.length : Int) then (if 0 ≤ x11 then (if x11 < (x9.length : Int) then ((truantlaw18_form.f ((rd_T40 x9 x11).f0.f0) ((rd_T40 x9 x11).f0.f1) ((rd_T40 x9 x11).f0.f2)).bind fun bt265 => (if (!(bt265.1 == ((rd_T42 x10 x11).f0.f0)) || (!(bt265.2.1 == ((rd_T42 x10 x11).f0.f1)) || (!(bt265.2.2.toList == (((rd_T42 x10 x11).f0.f2).toList))))) = true then (none) else (if ((rd_T40 x9 x11).f1) = ((rd_T42 x10 x11).f1) then ((truantlaw18_form.f ((rd_T40 x9 x11).f2.f0) ((rd_T40 x9 x11).f2.f1) ((rd_T40 x9 x11).f2.f2)).bind fun bt272 => (if (!(bt272.1 == ((rd_T42 x10 x11).f2.f0)) || (!(bt272.2.1 == ((rd_T42 x10 x11).f2.f1)) || (!(bt272.2.2.toList == (((rd_T42 x10 x11).f2.f2).toList))))) = true then (none) else (truantlaw18_NodeExact.l1 k x9 x10 (wrap64 (x11 + 1))))) else (none)))) else (none)) else (none)) else (some true)
end
def truantlaw18_NodeExact.f (k : Nat) (l0 : List (S28)) (a1_0 : Int) (a1_1 : Int) (a1_2 : ByteArray) (a2_0 : Int) (a2_1 : Int) (a2_2 : ByteArray) : Option (Bool) := (truantlaw18_awake.f).bind fun t233 => (if t233 = true then (if (l0.length : Int) > 16 then (truantlaw18_NodeExact.j0 k l0 true a1_0 a1_1 a1_2 a2_0 a2_1 a2_2) else (if (a1_2.size : Int) > 100 then (truantlaw18_NodeExact.j0 k l0 true a1_0 a1_1 a1_2 a2_0 a2_1 a2_2) else (truantlaw18_NodeExact.j0 k l0 (decide ((a2_2.size : Int) > 100)) a1_0 a1_1 a1_2 a2_0 a2_1 a2_2))) else (none))
theorem truantlaw18_NodeExact.mono_l : ∀ k, (∀ y0 y1 y2 y3 y4 y5 y6 y7, LeO (truantlaw18_NodeExact.j0 k y0 y1 y2 y3 y4 y5 y6 y7) (truantlaw18_NodeExact.j0 (k + 1) y0 y1 y2 y3 y4 y5 y6 y7)) ∧ (∀ y0 y1 y2 y3 y4 y5 y6 y7, LeO (truantlaw18_NodeExact.l0 k y0 y1 y2 y3 y4 y5 y6 y7) (truantlaw18_NodeExact.l0 (k + 1) y0 y1 y2 y3 y4 y5 y6 y7)) ∧ (∀ y0 y1 y2 y3 y4 y5 y6 y7, LeO (truantlaw18_NodeExact.j2 k y0 y1 y2 y3 y4 y5 y6 y7) (truantlaw18_NodeExact.j2 (k + 1) y0 y1 y2 y3 y4 y5 y6 y7)) ∧ (∀ y0 y1 y2 y3 y4 y5 y6 y7, LeO (truantlaw18_NodeExact.j3 k y0 y1 y2 y3 y4 y5 y6 y7) (truantlaw18_NodeExact.j3 (k + 1) y0 y1 y2 y3 y4 y5 y6 y7)) ∧ (∀ y0 y1 y2, LeO (truantlaw18_NodeExact.j4 k y0 y1 y2) (truantlaw18_NodeExact.j4 (k + 1) y0 y1 y2)) ∧ (∀ y0 y1 y2, LeO (truantlaw18_NodeExact.l1 k y0 y1 y2) (truantlaw18_NodeExact.l1 (k + 1) y0 y1 y2))
 | 0 => ⟨fun _ _ _ _ _ _ _ _ r h => by simp [truantlaw18_NodeExact.j0] at h, fun _ _ _ _ _ _ _ _ r h => by simp [truantlaw18_NodeExact.l0] at h, fun _ _ _ _ _ _ _ _ r h => by simp [truantlaw18_NodeExact.j2] at h, fun _ _ _ _ _ _ _ _ r h => by simp [truantlaw18_NodeExact.j3] at h, fun _ _ _ r h => by simp [truantlaw18_NodeExact.j4] at h, fun _ _ _ r h => by simp [truantlaw18_NodeExact.l1] at h⟩
 | k + 1 => by
  obtain ⟨ih0, ih1, ih2, ih3, ih4, ih5⟩ := truantlaw18_NodeExact.mono_l k
  refine ⟨?_, ?_, ?_, ?_, ?_, ?_⟩
  ·intro y0 y1 y2 y3 y4 y5 y6 y7
   unfold truantlaw18_NodeExact.j0
   repeat' first
   | (with_reducible exact ih0 _ _ _ _ _ _ _ _)
   | (with_reducible exact ih1 _ _ _ _ _ _ _ _)
   | (with_reducible exact ih2 _ _ _ _ _ _ _ _)
   | (with_reducible exact ih3 _ _ _ _ _ _ _ _)
   | (with_reducible exact ih4 _ _ _)
   | (with_reducible exact ih5 _ _ _)
   | (with_reducible exact node_Compare.mono _ _ _ _ _ _ _)
   | (with_reducible exact node_First.mono _ _ _ _ _)
   | (with_reducible exact node_Text.mono _ _ _ _)
   | (with_reducible exact truantref18_First.mono _ _ _ _ _)
   | (with_reducible exact truantref18_Text.mono _ _ _ _)
   | (with_reducible exact LeO.refl _)
   | (with_reducible exact LeO.none _)
   | (with_reducible refine LeO.ite ?_ ?_)
   | (with_reducible refine LeO.bind ?_ (fun _ => ?_))
   | exact ih0 _ _ _ _ _ _ _ _
   | exact ih1 _ _ _ _ _ _ _ _
   | exact ih2 _ _ _ _ _ _ _ _
   | exact ih3 _ _ _ _ _ _ _ _
   | exact ih4 _ _ _
   | exact ih5 _ _ _
   | exact node_Compare.mono _ _ _ _ _ _ _
   | exact node_First.mono _ _ _ _ _
   | exact node_Text.mono _ _ _ _
   | exact truantref18_First.mono _ _ _ _ _
   | exact truantref18_Text.mono _ _ _ _
   | exact LeO.none _
   | refine LeO.ite ?_ ?_
   | refine LeO.bind ?_ (fun _ => ?_)
  ·intro y0 y1 y2 y3 y4 y5 y6 y7
   unfold truantlaw18_NodeExact.l0
   repeat' first
   | (with_reducible exact ih0 _ _ _ _ _ _ _ _)
   | (with_reducible exact ih1 _ _ _ _ _ _ _ _)
   | (with_reducible exact ih2 _ _ _ _ _ _ _ _)
   | (with_reducible exact ih3 _ _ _ _ _ _ _ _)
   | (with_reducible exact ih4 _ _ _)
   | (with_reducible exact ih5 _ _ _)
   | (with_reducible exact node_Compare.mono _ _ _ _ _ _ _)
   | (with_reducible exact node_First.mono _ _ _ _ _)
   | (with_reducible exact node_Text.mono _ _ _ _)
   | (with_reducible exact truantref18_First.mono _ _ _ _ _)
   | (with_reducible exact truantref18_Text.mono _ _ _ _)
   | (with_reducible exact LeO.refl _)
   | (with_reducible exact LeO.none _)
   | (with_reducible refine LeO.ite ?_ ?_)
   | (with_reducible refine LeO.bind ?_ (fun _ => ?_))
   | exact ih0 _ _ _ _ _ _ _ _
   | exact ih1 _ _ _ _ _ _ _ _
   | exact ih2 _ _ _ _ _ _ _ _
   | exact ih3 _ _ _ _ _ _ _ _
   | exact ih4 _ _ _
   | exact ih5 _ _ _
   | exact node_Compare.mono _ _ _ _ _ _ _
   | exact node_First.mono _ _ _ _ _
   | exact node_Text.mono _ _ _ _
   | exact truantref18_First.mono _ _ _ _ _
   | exact truantref18_Text.mono _ _ _ _
   | exact LeO.none _
   | refine LeO.ite ?_ ?_
   | refine LeO.bind ?_ (fun _ => ?_)
  ·intro y0 y1 y2 y3 y4 y5 y6 y7
   unfold truantlaw18_NodeExact.j2
   repeat' first
   | (with_reducible exact ih0 _ _ _ _ _ _ _ _)
   | (with_reducible exact ih1 _ _ _ _ _ _ _ _)
   | (with_reducible exact ih2 _ _ _ _ _ _ _ _)
   | (with_reducible exact ih3 _ _ _ _ _ _ _ _)
   | (with_reducible exact ih4 _ _ _)
   | (with_reducible exact ih5 _ _ _)
   | (with_reducible exact node_Compare.mono _ _ _ _ _ _ _)
   | (with_reducible exact node_First.mono _ _ _ _ _)
   | (with_reducible exact node_Text.mono _ _ _ _)
   | (with_reducible exact truantref18_First.mono _ _ _ _ _)
   | (with_reducible exact truantref18_Text.mono _ _ _ _)
   | (with_reducible exact LeO.refl _)
   | (with_reducible exact LeO.none _)
   | (with_reducible refine LeO.ite ?_ ?_)
   | (with_reducible refine LeO.bind ?_ (fun _ => ?_))
   | exact ih0 _ _ _ _ _ _ _ _
   | exact ih1 _ _ _ _ _ _ _ _
   | exact ih2 _ _ _ _ _ _ _ _
   | exact ih3 _ _ _ _ _ _ _ _
   | exact ih4 _ _ _
   | exact ih5 _ _ _
   | exact node_Compare.mono _ _ _ _ _ _ _
   | exact node_First.mono _ _ _ _ _
   | exact node_Text.mono _ _ _ _
   | exact truantref18_First.mono _ _ _ _ _
   | exact truantref18_Text.mono _ _ _ _
   | exact LeO.none _
   | refine LeO.ite ?_ ?_
   | refine LeO.bind ?_ (fun _ => ?_)
  ·intro y0 y1 y2 y3 y4 y5 y6 y7
   unfold truantlaw18_NodeExact.j3
   repeat' first
   | (with_reducible exact ih0 _ _ _ _ _ _ _ _)
   | (with_reducible exact ih1 _ _ _ _ _ _ _ _)
   | (with_reducible exact ih2 _ _ _ _ _ _ _ _)
   | (with_reducible exact ih3 _ _ _ _ _ _ _ _)
   | (with_reducible exact ih4 _ _ _)
   | (with_reducible exact ih5 _ _ _)
   | (with_reducible exact node_Compare.mono _ _ _ _ _ _ _)
   | (with_reducible exact node_First.mono _ _ _ _ _)
   | (with_reducible exact node_Text.mono _ _ _ _)
   | (with_reducible exact truantref18_First.mono _ _ _ _ _)
   | (with_reducible exact truantref18_Text.mono _ _ _ _)
   | (with_reducible exact LeO.refl _)
   | (with_reducible exact LeO.none _)
   | (with_reducible refine LeO.ite ?_ ?_)
   | (with_reducible refine LeO.bind ?_ (fun _ => ?_))
   | exact ih0 _ _ _ _ _ _ _ _
   | exact ih1 _ _ _ _ _ _ _ _
   | exact ih2 _ _ _ _ _ _ _ _
   | exact ih3 _ _ _ _ _ _ _ _
   | exact ih4 _ _ _
   | exact ih5 _ _ _
   | exact node_Compare.mono _ _ _ _ _ _ _
   | exact node_First.mono _ _ _ _ _
   | exact node_Text.mono _ _ _ _
   | exact truantref18_First.mono _ _ _ _ _
   | exact truantref18_Text.mono _ _ _ _
   | exact LeO.none _
   | refine LeO.ite ?_ ?_
   | refine LeO.bind ?_ (fun _ => ?_)
  ·intro y0 y1 y2
   unfold truantlaw18_NodeExact.j4
   repeat' first
   | (with_reducible exact ih0 _ _ _ _ _ _ _ _)
   | (with_reducible exact ih1 _ _ _ _ _ _ _ _)
   | (with_reducible exact ih2 _ _ _ _ _ _ _ _)
   | (with_reducible exact ih3 _ _ _ _ _ _ _ _)
   | (with_reducible exact ih4 _ _ _)
   | (with_reducible exact ih5 _ _ _)
   | (with_reducible exact node_Compare.mono _ _ _ _ _ _ _)
   | (with_reducible exact node_First.mono _ _ _ _ _)
   | (with_reducible exact node_Text.mono _ _ _ _)
   | (with_reducible exact truantref18_First.mono _ _ _ _ _)
   | (with_reducible exact truantref18_Text.mono _ _ _ _)
   | (with_reducible exact LeO.refl _)
   | (with_reducible exact LeO.none _)
   | (with_reducible refine LeO.ite ?_ ?_)
   | (with_reducible refine LeO.bind ?_ (fun _ => ?_))
   | exact ih0 _ _ _ _ _ _ _ _
   | exact ih1 _ _ _ _ _ _ _ _
   | exact ih2 _ _ _ _ _ _ _ _
   | exact ih3 _ _ _ _ _ _ _ _
   | exact ih4 _ _ _
   | exact ih5 _ _ _
   | exact node_Compare.mono _ _ _ _ _ _ _
   | exact node_First.mono _ _ _ _ _
   | exact node_Text.mono _ _ _ _
   | exact truantref18_First.mono _ _ _ _ _
   | exact truantref18_Text.mono _ _ _ _
   | exact LeO.none _
   | refine LeO.ite ?_ ?_
   | refine LeO.bind ?_ (fun _ => ?_)
  ·intro y0 y1 y2
   unfold truantlaw18_NodeExact.l1
   repeat' first
   | (with_reducible exact ih0 _ _ _ _ _ _ _ _)
   | (with_reducible exact ih1 _ _ _ _ _ _ _ _)
   | (with_reducible exact ih2 _ _ _ _ _ _ _ _)
   | (with_reducible exact ih3 _ _ _ _ _ _ _ _)
   | (with_reducible exact ih4 _ _ _)
   | (with_reducible exact ih5 _ _ _)
   | (with_reducible exact node_Compare.mono _ _ _ _ _ _ _)
   | (with_reducible exact node_First.mono _ _ _ _ _)
   | (with_reducible exact node_Text.mono _ _ _ _)
   | (with_reducible exact truantref18_First.mono _ _ _ _ _)
   | (with_reducible exact truantref18_Text.mono _ _ _ _)
   | (with_reducible exact LeO.refl _)
   | (with_reducible exact LeO.none _)
   | (with_reducible refine LeO.ite ?_ ?_)
   | (with_reducible refine LeO.bind ?_ (fun _ => ?_))
   | exact ih0 _ _ _ _ _ _ _ _
   | exact ih1 _ _ _ _ _ _ _ _
   | exact ih2 _ _ _ _ _ _ _ _
   | exact ih3 _ _ _ _ _ _ _ _
   | exact ih4 _ _ _
   | exact ih5 _ _ _
   | exact node_Compare.mono _ _ _ _ _ _ _
   | exact node_First.mono _ _ _ _ _
   | exact node_Text.mono _ _ _ _
   | exact truantref18_First.mono _ _ _ _ _
   | exact truantref18_Text.mono _ _ _ _
   | exact LeO.none _
   | refine LeO.ite ?_ ?_
   | refine LeO.bind ?_ (fun _ => ?_)
theorem truantlaw18_NodeExact.mono : ∀ a0 a1 a2 a3 a4 a5 a6 k, LeO (truantlaw18_NodeExact.f k a0 a1 a2 a3 a4 a5 a6) (truantlaw18_NodeExact.f (k + 1) a0 a1 a2 a3 a4 a5 a6) := by
 intro a0 a1 a2 a3 a4 a5 a6 k
 obtain ⟨ih0, ih1, ih2, ih3, ih4, ih5⟩ := truantlaw18_NodeExact.mono_l k
 unfold truantlaw18_NodeExact.f
 repeat' first
   | (with_reducible exact ih0 _ _ _ _ _ _ _ _)
   | (with_reducible exact ih1 _ _ _ _ _ _ _ _)
   | (with_reducible exact ih2 _ _ _ _ _ _ _ _)
   | (with_reducible exact ih3 _ _ _ _ _ _ _ _)
   | (with_reducible exact ih4 _ _ _)
   | (with_reducible exact ih5 _ _ _)
   | (with_reducible exact node_Compare.mono _ _ _ _ _ _ _)
   | (with_reducible exact node_First.mono _ _ _ _ _)
   | (with_reducible exact node_Text.mono _ _ _ _)
   | (with_reducible exact truantref18_First.mono _ _ _ _ _)
   | (with_reducible exact truantref18_Text.mono _ _ _ _)
   | (with_reducible exact LeO.refl _)
   | (with_reducible exact LeO.none _)
   | (with_reducible refine LeO.ite ?_ ?_)
   | (with_reducible refine LeO.bind ?_ (fun _ => ?_))
   | exact ih0 _ _ _ _ _ _ _ _
   | exact ih1 _ _ _ _ _ _ _ _
   | exact ih2 _ _ _ _ _ _ _ _
   | exact ih3 _ _ _ _ _ _ _ _
   | exact ih4 _ _ _
   | exact ih5 _ _ _
   | exact node_Compare.mono _ _ _ _ _ _ _
   | exact node_First.mono _ _ _ _ _
   | exact node_Text.mono _ _ _ _
   | exact truantref18_First.mono _ _ _ _ _
   | exact truantref18_Text.mono _ _ _ _
   | exact LeO.none _
   | refine LeO.ite ?_ ?_
   | refine LeO.bind ?_ (fun _ => ?_)
def truantlaw18_NodeExact.T17 : Bool × List (List Nat × List Nat) := (true, [([], []), ([], []), ([0, 1], [0, 1]), ([], []), ([2, 3], [2, 3]), ([4, 2], [4]), ([5], [5]), ([6, 5, 5], [5, 6]), ([5], [5]), ([8, 7, 5], [5, 8]), ([9, 9, 5], [5, 9]), ([7, 10, 5], [5, 7, 10]), ([5, 11], [5, 11]), ([12, 10], [12]), ([13], [13]), ([14, 13], [13, 14]), ([13], [13]), ([16, 13], [13, 16]), ([15, 17, 13], [13, 15, 17]), ([13, 18], [13, 18])])
def truantlaw18_NodeExact.B17 : List Nat := [0, 0, 3, 0, 15, 31, 63, 127, 63, 511, 1023, 2047, 4095, 8191, 16383, 32767, 16383, 81919, 262143, 524287]
theorem truantlaw18_NodeExact.tab17 : rtab .any (opsOf Tryd.f3 17) = truantlaw18_NodeExact.T17 := by kernel_rfl
theorem truantlaw18_NodeExact.bits17 : waitsOk truantlaw18_NodeExact.T17.2 truantlaw18_NodeExact.B17 = true := by kernel_rfl
def truantlaw18_NodeExact.T22 : Bool × List (List Nat × List Nat) := (true, [([], []), ([], []), ([0, 1], [0, 1]), ([2], [2]), ([3], [3]), ([4], [4]), ([], []), ([], []), ([6, 7], [6, 7]), ([8], [8]), ([9], [9]), ([5, 10], [5, 10]), ([11, 5], [11]), ([12], [12]), ([12], [12]), ([13, 14, 12], [12, 13, 14]), ([15, 12], [12, 15]), ([16, 12], [12, 16]), ([12], [12]), ([12], [12]), ([18, 19, 12], [12, 18, 19]), ([20, 12], [12, 20]), ([21, 12], [12, 21]), ([17, 22, 12], [12, 17, 22]), ([12, 23], [12, 23]), ([24, 12], [24]), ([25], [25]), ([25], [25]), ([26, 27, 25], [25, 26, 27]), ([28, 25], [25, 28]), ([29, 25], [25, 29]), ([30, 25, 25], [25, 30]), ([25], [25]), ([25], [25]), ([32, 33, 25], [25, 32, 33]), ([34, 25], [25, 34]), ([35, 25], [25, 35]), ([31, 36, 25], [25, 31, 36]), ([25, 37], [25, 37])])
def truantlaw18_NodeExact.B22 : List Nat := [0, 0, 3, 7, 15, 31, 0, 0, 192, 448, 960, 2047, 4095, 8191, 8191, 32767, 65535, 131071, 8191, 8191, 794623, 1843199, 3940351, 8388607, 16777215, 33554431, 67108863, 67108863, 268435455, 536870911, 1073741823, 2147483647, 67108863, 67108863, 12952010751, 30131879935, 64491618303, 137438953471, 274877906943]
theorem truantlaw18_NodeExact.tab22 : rtab .any (opsOf Tryd.f3 22) = truantlaw18_NodeExact.T22 := by kernel_rfl
theorem truantlaw18_NodeExact.bits22 : waitsOk truantlaw18_NodeExact.T22.2 truantlaw18_NodeExact.B22 = true := by kernel_rfl
set_option maxHeartbeats 8000000 in
set_option maxRecDepth 100000 in
theorem truantlaw18_NodeExact.calls (k : Nat) (A0 : Option Addr) (c0 : Nat) (l0 : List (S28)) (a1_0 : Int) (a1_1 : Int) (a1_2 : ByteArray) (a2_0 : Int) (a2_1 : Int) (a2_2 : ByteArray) (r : Bool) (w : World) (hr0 : Kd.C k28 w A0 l0.length l0) (hc0 : l0.length ≤ c0) (h : truantlaw18_NodeExact.f k l0 a1_0 a1_1 a1_2 a2_0 a2_1 a2_2 = some r) (hG : Glob w := by first | assumption | (refine Glob.below (by assumption) ?_; repeat (first | with_reducible exact (Aside0.out (by assumption)) | (refine below_set ?_ (Aside0.out (by assumption))) | (with_reducible first | apply below_alloc | apply pw_below_drewN | apply below_drew1) | exact (Aside0.out (by assumption))))) :
  Calls Tryd.prog 3 #[.slice A0 l0.length c0, .agg #[.int .i64 a1_0, .int .i64 a1_1, .string a1_2], .agg #[.int .i64 a2_0, .int .i64 a2_1, .string a2_2]] w fun e w' => e = .returned (.bool r) ∧ Below w.heap.size w w' := by
 have hu24 := Tryd.underlying24
 have hu30 := Tryd.underlying30
 have HR0 := Aside0.mk hr0
 have HC0 := Aside0.mk hc0
 clear hr0 hc0
 have HB := Aside0.mk (Below.refl w.heap.size w)
 have H : ((truantlaw18_awake.f).bind fun t233 => (if t233 = true then (if (l0.length : Int) > 16 then (truantlaw18_NodeExact.j0 k l0 true a1_0 a1_1 a1_2 a2_0 a2_1 a2_2) else (if (a1_2.size : Int) > 100 then (truantlaw18_NodeExact.j0 k l0 true a1_0 a1_1 a1_2 a2_0 a2_1 a2_2) else (truantlaw18_NodeExact.j0 k l0 (decide ((a2_2.size : Int) > 100)) a1_0 a1_1 a1_2 a2_0 a2_1 a2_2))) else (none))) = some r := h
 clear h
 replace H := Option.bind_eq_some_iff.mp H
 obtain ⟨t233, A40, H⟩ := H
 replace H : (if t233 = true then (if (l0.length : Int) > 16 then (truantlaw18_NodeExact.j0 k l0 true a1_0 a1_1 a1_2 a2_0 a2_1 a2_2) else (if (a1_2.size : Int) > 100 then (truantlaw18_NodeExact.j0 k l0 true a1_0 a1_1 a1_2 a2_0 a2_1 a2_2) else (truantlaw18_NodeExact.j0 k l0 (decide ((a2_2.size : Int) > 100)) a1_0 a1_1 a1_2 a2_0 a2_1 a2_2))) else (none)) = some r := H
 have A4 := Aside0.mk A40
 clear A40
 by_cases c5 : t233 = true
 ·subst c5
  have H1 : (if (l0.length : Int) > 16 then (truantlaw18_NodeExact.j0 k l0 true a1_0 a1_1 a1_2 a2_0 a2_1 a2_2) else (if (a1_2.size : Int) > 100 then (truantlaw18_NodeExact.j0 k l0 true a1_0 a1_1 a1_2 a2_0 a2_1 a2_2) else (truantlaw18_NodeExact.j0 k l0 (decide ((a2_2.size : Int) > 100)) a1_0 a1_1 a1_2 a2_0 a2_1 a2_2))) = some r := by rw [if_pos rfl] at H; exact H
  clear H
  have H := H1
  clear H1
  have HC6 := Aside0.mk H
  clear H
  go_enter Tryd.func3, Tryd.ntmps3
  go_upto_region 3 with (first | ((with_reducible refine gate_dst (N := 4) rfl ?_); (try (refine gate_guard (by rfl) ?_; dsimp only)); refine box_event ?hg (N := 4) ?hd (cs := #[.int .i64 a1_0, .int .i64 a1_1, .string a1_2]) (t := 24) ?hr ?_; (case hd => rfl); (case hg => rfl); (case hr => first | (go_simp; done) | (go_simp; rfl)); intro gb231 hg w7 hbox hb; have n0_ := Aside0.mk (below_step (by repeat (first | (with_reducible first | exact HB.out | apply below_alloc | apply pw_below_drewN | apply below_drew1) | exact HB.out)) hb); have n1_ := Aside0.mk (hbox); have n2_ := Aside0.mk ((by rw [hg]; exact (below_size (by repeat (first | (with_reducible first | exact HB.out | apply below_alloc | apply pw_below_drewN | apply below_drew1) | exact HB.out))) : w.heap.size ≤ gb231)); have n3_ := Aside0.mk ((by rw [hg]; exact (below_size (by repeat (first | (with_reducible first | exact HB.out | apply below_alloc | apply pw_below_drewN | apply below_drew1) | exact HB.out))) : w.heap.size ≤ gb231)); clear HB; have HB := n0_; have BK231 := n1_; have GW231 := n2_; have GE231 := n3_; clear n0_ n1_ n2_ n3_; clear hb hbox hg) | ((with_reducible refine gate_dst (N := 5) rfl ?_); (try (refine gate_guard (by rfl) ?_; dsimp only)); refine box_event ?hg (N := 5) ?hd (cs := #[.int .i64 a2_0, .int .i64 a2_1, .string a2_2]) (t := 24) ?hr ?_; (case hd => rfl); (case hg => rfl); (case hr => first | (go_simp; done) | (go_simp; rfl)); intro gb232 hg w8 hbox hb; have n0_ := Aside0.mk (blk_below (g := gb231) (o := .cells #[.int .i64 a1_0, .int .i64 a1_1, .string a1_2] 24 (0, 0)) (by (with_reducible repeat (first | refine blk_drewN ?_ _ | refine blk_drew ?_ | refine blk_alloc ?_ _)); exact BK231.out) hb); have n1_ := Aside0.mk (below_step (by repeat (first | (with_reducible first | exact HB.out | apply below_alloc | apply pw_below_drewN | apply below_drew1 | refine below_set ?_ GE231.out) | exact HB.out)) hb); have n2_ := Aside0.mk (hbox); have n3_ := Aside0.mk ((by rw [hg]; exact (below_size (by repeat (first | (with_reducible first | exact HB.out | apply below_alloc | apply pw_below_drewN | apply below_drew1 | refine below_set ?_ GE231.out) | exact HB.out))) : w.heap.size ≤ gb232)); have n4_ := Aside0.mk ((by rw [hg]; exact (below_size (by repeat (first | (with_reducible first | exact HB.out | apply below_alloc | apply pw_below_drewN | apply below_drew1 | refine below_set ?_ GE231.out) | exact HB.out))) : w.heap.size ≤ gb232)); have n5_ := Aside0.mk ((by rw [hg]; exact Nat.ne_of_lt (blk_lt (g := gb231) (o := .cells #[.int .i64 a1_0, .int .i64 a1_1, .string a1_2] 24 (0, 0)) (by (with_reducible repeat (first | refine blk_drewN ?_ _ | refine blk_drew ?_ | refine blk_alloc ?_ _)); exact BK231.out)) : gb231 ≠ gb232)); have n6_ := Aside0.mk ((by rw [hg]; exact Nat.ne_of_gt (blk_lt (g := gb231) (o := .cells #[.int .i64 a1_0, .int .i64 a1_1, .string a1_2] 24 (0, 0)) (by (with_reducible repeat (first | refine blk_drewN ?_ _ | refine blk_drew ?_ | refine blk_alloc ?_ _)); exact BK231.out)) : gb232 ≠ gb231)); clear BK231; clear HB; have BK231 := n0_; have HB := n1_; have BK232 := n2_; have GW232 := n3_; have GE232 := n4_; have NB231_232 := n5_; have NB232_231 := n6_; clear n0_ n1_ n2_ n3_ n4_ n5_ n6_; clear hb hbox hg) | ((with_reducible refine gate_callee (f := 7) rfl ?_); refine goesL_ (some 12) rfl rfl Tryd.func7 (by kernel_rfl) rfl #[] rfl (by (try simp only [List.map_toArray, List.map_cons, List.map_nil]); first | done | rfl | (simp only [List.length_drop, List.length_take]; rfl)) ?_; (with_reducible refine (truantlaw18_awake.calls  true _ A4.out).mono ?_); rintro e w9 ⟨rfl, hb⟩; refine ⟨_, rfl, ?_⟩; have n0_ := Aside0.mk (blk_below (g := gb231) (o := .cells #[.int .i64 a1_0, .int .i64 a1_1, .string a1_2] 24 (0, 0)) (by (with_reducible repeat (first | refine blk_drewN ?_ _ | refine blk_drew ?_ | refine blk_alloc ?_ _)); exact BK231.out) hb); have n1_ := Aside0.mk (blk_below (g := gb232) (o := .cells #[.int .i64 a2_0, .int .i64 a2_1, .string a2_2] 24 (0, 0)) (by (with_reducible repeat (first | refine blk_drewN ?_ _ | refine blk_drew ?_ | refine blk_alloc ?_ _)); exact BK232.out) hb); have n2_ := Aside0.mk (below_step (by repeat (first | (with_reducible first | exact HB.out | apply below_alloc | apply pw_below_drewN | apply below_drew1 | refine below_set ?_ GE231.out | refine below_set ?_ GE232.out) | exact HB.out)) hb); clear BK231; clear BK232; clear HB; have BK231 := n0_; have BK232 := n1_; have HB := n2_; clear n0_ n1_ n2_; (try clear hb); (try clear hb2); (try clear hk); (try clear hi)))
  (try simp only [Act.put, List.setIfInBounds_toArray, List.set_cons_zero, List.set_cons_succ])
  go_cut [28] (fun v28 wc => ∃ (kq : Nat) (x28_5 : Bool), v28 = .bool x28_5 ∧ Aside0 (truantlaw18_NodeExact.j0 kq l0 x28_5 a1_0 a1_1 a1_2 a2_0 a2_1 a2_2 = some r) ∧ Aside0 (kq ≤ k) ∧ Aside0 (wc.heap[gb231]? = some (.cells #[.int .i64 a1_0, .int .i64 a1_1, .string a1_2] 24 (0, 0))) ∧ Aside0 (wc.heap[gb232]? = some (.cells #[.int .i64 a2_0, .int .i64 a2_1, .string a2_2] 24 (0, 0))) ∧ Aside0 (Below w.heap.size w wc))
  case first =>
   have H := HC6.out
   clear HC6
   by_cases c10 : (l0.length : Int) > 16
   ·rw [if_pos c10] at H
    have c10b0 : decide (16 < (l0.length : Int)) = true := decide_eq_true c10
    have c10b1 : decide (16 < l0.length) = true := decide_eq_true (by omega)
    clear c10
    (first | rw [c10b0] | rw [c10b1] | rw [c10b4] | (simp only [i64_w, i32_w]; rw [c10b0]) | skip)
    have H' := Aside0.mk H
    clear H
    go_wp2
    go_meet
    case rel => exact ⟨_, (true), (by first | rfl | (simp; done) | (simp [*]; done)), H', ⟨by first | omega | exact Nat.le_refl _⟩, ⟨by (with_reducible repeat (first | refine blk_drewN ?_ _ | refine blk_drew ?_ | refine blk_alloc ?_ _)); exact BK231.out⟩, ⟨by (with_reducible repeat (first | refine blk_drewN ?_ _ | refine blk_drew ?_ | refine blk_alloc ?_ _)); exact BK232.out⟩, ⟨by repeat (first | (with_reducible first | exact HB.out | apply below_alloc | apply pw_below_drewN | apply below_drew1 | refine below_set ?_ GE231.out | refine below_set ?_ GE232.out) | exact HB.out)⟩⟩
   ·rw [if_neg c10] at H
    have c10b0 : decide (16 < (l0.length : Int)) = false := decide_eq_false c10
    have c10b1 : decide (16 < l0.length) = false := decide_eq_false (by omega)
    clear c10
    (first | rw [c10b0] | rw [c10b1] | rw [c10b4] | (simp only [i64_w, i32_w]; rw [c10b0]) | skip)
    by_cases c11 : (a1_2.size : Int) > 100
    ·rw [if_pos c11] at H
     have c11b0 : decide (100 < (a1_2.size : Int)) = true := decide_eq_true c11
     have c11b1 : decide (100 < a1_2.size) = true := decide_eq_true (by omega)
     clear c11
     have H' := Aside0.mk H
     clear H
     have hnb12 := NB231_232.out
     have hnc12 := NB232_231.out
     have hcz13_0 : w9.cell? ⟨gb231, 0, none⟩ = some (.int .i64 a1_0) := (blk_cell BK231.out 0).trans rfl
     have hcz13_1 : w9.cell? ⟨gb231, 1, none⟩ = some (.int .i64 a1_1) := (blk_cell BK231.out 1).trans rfl
     have hcz13_2 : w9.cell? ⟨gb231, 2, none⟩ = some (.string a1_2) := (blk_cell BK231.out 2).trans rfl
     have hfz13_0 := blk_frozen BK231.out 0
     have hfz13_1 := blk_frozen BK231.out 1
     have hfz13_2 := blk_frozen BK231.out 2
     go_wp2
     go_meet
     case rel => exact ⟨_, (true), (by first | rfl | (simp; done) | (simp [*]; done)), H', ⟨by first | omega | exact Nat.le_refl _⟩, ⟨by (with_reducible repeat (first | refine blk_drewN ?_ _ | refine blk_drew ?_ | refine blk_alloc ?_ _)); exact BK231.out⟩, ⟨by (with_reducible repeat (first | refine blk_drewN ?_ _ | refine blk_drew ?_ | refine blk_alloc ?_ _)); exact BK232.out⟩, ⟨by repeat (first | (with_reducible first | exact HB.out | apply below_alloc | apply pw_below_drewN | apply below_drew1 | refine below_set ?_ GE231.out | refine below_set ?_ GE232.out) | exact HB.out)⟩⟩
    ·rw [if_neg c11] at H
     have c11b0 : decide (100 < (a1_2.size : Int)) = false := decide_eq_false c11
     have c11b1 : decide (100 < a1_2.size) = false := decide_eq_false (by omega)
     clear c11
     have H' := Aside0.mk H
     clear H
     have hnb14 := NB231_232.out
     have hnc14 := NB232_231.out
     have hcz15_0 : w9.cell? ⟨gb231, 0, none⟩ = some (.int .i64 a1_0) := (blk_cell BK231.out 0).trans rfl
     have hcz15_1 : w9.cell? ⟨gb231, 1, none⟩ = some (.int .i64 a1_1) := (blk_cell BK231.out 1).trans rfl
     have hcz15_2 : w9.cell? ⟨gb231, 2, none⟩ = some (.string a1_2) := (blk_cell BK231.out 2).trans rfl
     have hfz15_0 := blk_frozen BK231.out 0
     have hfz15_1 := blk_frozen BK231.out 1
     have hfz15_2 := blk_frozen BK231.out 2
     have hcz16_0 : w9.cell? ⟨gb232, 0, none⟩ = some (.int .i64 a2_0) := (blk_cell BK232.out 0).trans rfl
     have hcz16_1 : w9.cell? ⟨gb232, 1, none⟩ = some (.int .i64 a2_1) := (blk_cell BK232.out 1).trans rfl
     have hcz16_2 : w9.cell? ⟨gb232, 2, none⟩ = some (.string a2_2) := (blk_cell BK232.out 2).trans rfl
     have hfz16_0 := blk_frozen BK232.out 0
     have hfz16_1 := blk_frozen BK232.out 1
     have hfz16_2 := blk_frozen BK232.out 2
     go_wp2
     go_meet
     case rel => exact ⟨_, (decide ((a2_2.size : Int) > 100)), (by first | rfl | (simp; done) | (simp [*]; done)), H', ⟨by first | omega | exact Nat.le_refl _⟩, ⟨by (with_reducible repeat (first | refine blk_drewN ?_ _ | refine blk_drew ?_ | refine blk_alloc ?_ _)); exact BK231.out⟩, ⟨by (with_reducible repeat (first | refine blk_drewN ?_ _ | refine blk_drew ?_ | refine blk_alloc ?_ _)); exact BK232.out⟩, ⟨by repeat (first | (with_reducible first | exact HB.out | apply below_alloc | apply pw_below_drewN | apply below_drew1 | refine below_set ?_ GE231.out | refine below_set ?_ GE232.out) | exact HB.out)⟩⟩
  case rest =>
   clear HC6
   try clear c1
   try clear p2
   try clear c3
   try clear c5
   try clear c7
   try clear c10
   try clear c10b0
   try clear c10b1
   try clear c11
   try clear c11b0
   try clear c11b1
   try clear c12
   try clear c14
   try clear hcz13_0
   try clear hcz13_1
   try clear hcz13_2
   try clear hcz15_0
   try clear hcz15_1
   try clear hcz15_2
   try clear hcz16_0
   try clear hcz16_1
   try clear hcz16_2
   try clear hfz13_0
   try clear hfz13_1
   try clear hfz13_2
   try clear hfz15_0
   try clear hfz15_1
   try clear hfz15_2
   try clear hfz16_0
   try clear hfz16_1
   try clear hfz16_2
   obtain ⟨kq, x28_5, rfl, HA, HJ5, BK231, BK232, HB⟩ := hcut
   cases kq with
   | zero => exact absurd HA.out (by simp [truantlaw18_NodeExact.j0])
   | succ kj5 =>
    have H := HA.out
    clear HA
    simp only [truantlaw18_NodeExact.j0] at H
    by_cases c17 : x28_5 = true
    ·subst c17
     have H1 : (some true) = some r := by rw [if_pos rfl] at H; exact H
     clear H
     have H := H1
     clear H1
     obtain rfl := Option.some.inj H
     go_wp2
     go_ret
     exact ⟨by first | rfl | (simp [errW_none, errW_some] <;> rfl) | (simp [*, errW_none, errW_some] <;> rfl), by repeat (first | (with_reducible first | exact HB.out | apply below_alloc | apply pw_below_drewN | apply below_drew1 | refine below_set ?_ GE231.out | refine below_set ?_ GE232.out) | exact HB.out)⟩
    ·replace c17 := Bool.eq_false_iff.mpr c17
     subst c17
     have H1 : (truantlaw18_NodeExact.l0 kj5 l0 0 a1_0 a1_1 a1_2 a2_0 a2_1 a2_2) = some r := by rw [if_neg (show ¬ (false = true) by decide)] at H; exact H
     clear H
     have H := H1
     clear H1
     have H' := Aside0.mk H
     clear H
     go_wp2
     go_loopg [7] kj5 (fun kq v7 w' => ∃ (x7_2 : Int), v7 = .int .i64 x7_2 ∧ Aside0 (truantlaw18_NodeExact.l0 kq l0 x7_2 a1_0 a1_1 a1_2 a2_0 a2_1 a2_2 = some r) ∧ Aside0 (kq ≤ kj5) ∧ Aside0 (w'.heap[gb231]? = some (.cells #[.int .i64 a1_0, .int .i64 a1_1, .string a1_2] 24 (0, 0))) ∧ Aside0 (w'.heap[gb232]? = some (.cells #[.int .i64 a2_0, .int .i64 a2_1, .string a2_2] 24 (0, 0))) ∧ Aside0 (Below w.heap.size w w'))
     case atStart => exact ⟨(0), (by first | rfl | (simp; done) | (simp [*]; done)), H', ⟨Nat.le_refl _⟩, ⟨by (with_reducible repeat (first | refine blk_drewN ?_ _ | refine blk_drew ?_ | refine blk_alloc ?_ _)); exact BK231.out⟩, ⟨by (with_reducible repeat (first | refine blk_drewN ?_ _ | refine blk_drew ?_ | refine blk_alloc ?_ _)); exact BK232.out⟩, ⟨by repeat (first | (with_reducible first | exact HB.out | apply below_alloc | apply pw_below_drewN | apply below_drew1 | refine below_set ?_ GE231.out | refine below_set ?_ GE232.out) | exact HB.out)⟩⟩
     case round =>
      clear H'
      try clear c1
      try clear p2
      try clear c3
      try clear c5
      try clear c7
      try clear c10
      try clear c10b0
      try clear c10b1
      try clear c11
      try clear c11b0
      try clear c11b1
      try clear c12
      try clear c14
      try clear c17
      try clear hcz13_0
      try clear hcz13_1
      try clear hcz13_2
      try clear hcz15_0
      try clear hcz15_1
      try clear hcz15_2
      try clear hcz16_0
      try clear hcz16_1
      try clear hcz16_2
      try clear hfz13_0
      try clear hfz13_1
      try clear hfz13_2
      try clear hfz15_0
      try clear hfz15_1
      try clear hfz15_2
      try clear hfz16_0
      try clear hfz16_1
      try clear hfz16_2
      try clear p2
      obtain ⟨x7_2, rfl, HA, HK2, BK231, BK232, HB⟩ := hrel
      cases gk with
      | zero => exact absurd HA.out (by simp [truantlaw18_NodeExact.l0])
      | succ k2 =>
       have H := HA.out
       clear HA
       simp only [truantlaw18_NodeExact.l0] at H
       by_cases c18 : x7_2 < (l0.length : Int)
       ·rw [if_pos c18] at H
        have c18b0 : decide (x7_2 < (l0.length : Int)) = true := decide_eq_true c18
        clear c18
        by_cases c19 : 0 ≤ x7_2
        ·rw [if_pos c19] at H
         have c19b0 : decide (0 ≤ x7_2) = true := decide_eq_true c19
         clear c19
         by_cases c20 : (((rd_T28 l0 x7_2).f1).length : Int) > 12
         ·rw [if_pos c20] at H
          have c20b0 : decide (12 < (((rd_T28 l0 x7_2).f1).length : Int)) = true := decide_eq_true c20
          have c20b1 : decide (12 < ((rd_T28 l0 x7_2).f1).length) = true := decide_eq_true (by omega)
          clear c20
          obtain rfl := Option.some.inj H
          have p234 : 0 ≤ (x7_2 : Int) := of_decide_eq_true (by first | (with_reducible assumption) | assumption)
          have q234 : x7_2 < (l0.length : Int) := of_decide_eq_true (by first | (with_reducible assumption) | assumption)
          obtain ⟨ad234, A234_1, c234_1, e234, hx234_0, hx234_1, hl234_1, hi234_1⟩ := at_T28 HR0.out x7_2 p234 q234
          cases e234
          replace hx234_0 := (HB.out.cell (World.block_lt_of_cell? w _ hx234_0)).trans hx234_0
          replace hx234_1 := (HB.out.cell (World.block_lt_of_cell? w _ hx234_1)).trans hx234_1
          have HR234_1 := Aside0.mk hi234_1
          have HC234_1 := Aside0.mk hl234_1
          clear hi234_1 hl234_1
          replace p234 := eq_true p234
          replace q234 := eq_true q234
          go_wp2
          go_ret
          exact ⟨by first | rfl | (simp [errW_none, errW_some] <;> rfl) | (simp [*, errW_none, errW_some] <;> rfl), by repeat (first | (with_reducible first | exact HB.out | apply below_alloc | apply pw_below_drewN | apply below_drew1 | refine below_set ?_ GE231.out | refine below_set ?_ GE232.out) | exact HB.out)⟩
         ·rw [if_neg c20] at H
          have c20b0 : decide (12 < (((rd_T28 l0 x7_2).f1).length : Int)) = false := decide_eq_false c20
          have c20b1 : decide (12 < ((rd_T28 l0 x7_2).f1).length) = false := decide_eq_false (by omega)
          clear c20
          have H' := Aside0.mk H
          clear H
          have p234 : 0 ≤ (x7_2 : Int) := of_decide_eq_true (by first | (with_reducible assumption) | assumption)
          have q234 : x7_2 < (l0.length : Int) := of_decide_eq_true (by first | (with_reducible assumption) | assumption)
          obtain ⟨ad234, A234_1, c234_1, e234, hx234_0, hx234_1, hl234_1, hi234_1⟩ := at_T28 HR0.out x7_2 p234 q234
          cases e234
          replace hx234_0 := (HB.out.cell (World.block_lt_of_cell? w _ hx234_0)).trans hx234_0
          replace hx234_1 := (HB.out.cell (World.block_lt_of_cell? w _ hx234_1)).trans hx234_1
          have HR234_1 := Aside0.mk hi234_1
          have HC234_1 := Aside0.mk hl234_1
          clear hi234_1 hl234_1
          replace p234 := eq_true p234
          replace q234 := eq_true q234
          go_wp2
          go_roundg k2
          case measure => have := HJ5.out; have := HK2.out; omega
          case rel => exact ⟨(wrap64 (x7_2 + 1)), (by first | rfl | (simp; done) | (simp [*]; done)), H', ⟨by have := HJ5.out; have := HK2.out; omega⟩, ⟨by (with_reducible repeat (first | refine blk_drewN ?_ _ | refine blk_drew ?_ | refine blk_alloc ?_ _)); exact BK231.out⟩, ⟨by (with_reducible repeat (first | refine blk_drewN ?_ _ | refine blk_drew ?_ | refine blk_alloc ?_ _)); exact BK232.out⟩, ⟨by repeat (first | (with_reducible first | exact HB.out | apply below_alloc | apply pw_below_drewN | apply below_drew1 | refine below_set ?_ GE231.out | refine below_set ?_ GE232.out) | exact HB.out)⟩⟩
        ·rw [if_neg c19] at H
         exact absurd H (by simp)
       ·rw [if_neg c18] at H
        have c18b0 : decide (x7_2 < (l0.length : Int)) = false := decide_eq_false c18
        clear c18
        replace H := Option.bind_eq_some_iff.mp H
        obtain ⟨⟨t235, t236, t237⟩, A210, H⟩ := H
        replace H : ((truantlaw18_form.f a2_0 a2_1 a2_2).bind fun bt238 => ((truantref18_Less.f t235 t236 t237 bt238.1 bt238.2.1 bt238.2.2).bind fun t241 => (if t241 = true then (truantlaw18_NodeExact.j2 k2 l0 (-1) a1_0 a1_1 a1_2 a2_0 a2_1 a2_2) else (truantlaw18_NodeExact.j2 k2 l0 0 a1_0 a1_1 a1_2 a2_0 a2_1 a2_2)))) = some r := H
        have A21 := Aside0.mk A210
        clear A210
        replace H := Option.bind_eq_some_iff.mp H
        obtain ⟨⟨t238, t239, t240⟩, A220, H⟩ := H
        replace H : ((truantref18_Less.f t235 t236 t237 t238 t239 t240).bind fun t241 => (if t241 = true then (truantlaw18_NodeExact.j2 k2 l0 (-1) a1_0 a1_1 a1_2 a2_0 a2_1 a2_2) else (truantlaw18_NodeExact.j2 k2 l0 0 a1_0 a1_1 a1_2 a2_0 a2_1 a2_2))) = some r := H
        have A22 := Aside0.mk A220
        clear A220
        replace H := Option.bind_eq_some_iff.mp H
        obtain ⟨t241, A230, H⟩ := H
        replace H : (if t241 = true then (truantlaw18_NodeExact.j2 k2 l0 (-1) a1_0 a1_1 a1_2 a2_0 a2_1 a2_2) else (truantlaw18_NodeExact.j2 k2 l0 0 a1_0 a1_1 a1_2 a2_0 a2_1 a2_2)) = some r := H
        have A23 := Aside0.mk A230
        clear A230
        have HC24 := Aside0.mk H
        clear H
        try go_wp2
        have n0_ := Aside0.mk (blk_drew BK231.out)
        have n1_ := Aside0.mk (blk_drew BK232.out)
        have n2_ := Aside0.mk (below_drew1 HB.out)
        clear BK231
        clear BK232
        clear HB
        have BK231 := n0_
        have BK232 := n1_
        have HB := n2_
        clear n0_ n1_ n2_
        refine start_ (n := 5) (S := fun w' => w'.cell? ⟨gb231, 0, none⟩ = some (.int .i64 a1_0) ∧ w'.cell? ⟨gb231, 1, none⟩ = some (.int .i64 a1_1) ∧ w'.cell? ⟨gb231, 2, none⟩ = some (.string a1_2) ∧ w'.cell? ⟨gb232, 0, none⟩ = some (.int .i64 a2_0) ∧ w'.cell? ⟨gb232, 1, none⟩ = some (.int .i64 a2_1) ∧ w'.cell? ⟨gb232, 2, none⟩ = some (.string a2_2)) (ds := []) #[false, false, false, false, false] (by kernel_rfl) rfl rfl ⟨(blk_cell BK231.out 0).trans rfl, (blk_cell BK231.out 1).trans rfl, (blk_cell BK231.out 2).trans rfl, (blk_cell BK232.out 0).trans rfl, (blk_cell BK232.out 1).trans rfl, (blk_cell BK232.out 2).trans rfl⟩ (fun hHeld => ?_)
        generalize wr.drew = w25 at BK231 BK232 HB hHeld ⊢
        refine take_ (i := 0) (N := some 42) (v := ?_) (a' := ?_) #[true, false, false, false, false] rfl rfl (by kernel_rfl) (fun _ _ _ h => h) (Or.inl ⟨by rfl, ?_⟩) hHeld ?_ ?_
        rotate_left
        ·rintro w' ⟨s0, s1, s2, s3, s4, s5⟩
         go_simp
         with_reducible rfl
        rotate_left
        ·simp only [Act.put, List.setIfInBounds_toArray, List.set_cons_zero, List.set_cons_succ, i64_w, i32_w]
         rfl
        refine take_ (i := 2) (N := some 44) (v := ?_) (a' := ?_) #[true, false, true, false, false] rfl rfl (by kernel_rfl) (fun _ _ _ h => h) (Or.inl ⟨by rfl, ?_⟩) hHeld ?_ ?_
        rotate_left
        ·rintro w' ⟨s0, s1, s2, s3, s4, s5⟩
         go_simp
         with_reducible rfl
        rotate_left
        ·simp only [Act.put, List.setIfInBounds_toArray, List.set_cons_zero, List.set_cons_succ, i64_w, i32_w]
         rfl
        refine one_ (i := 1) (N := some 43) #[true, true, true, false, false] rfl rfl (by kernel_rfl) (by decide) (fun K hK => ?_)
        refine goes_ Tryd.func9 (by kernel_rfl) rfl #[.agg #[.int .i64 a1_0, .int .i64 a1_1, .string a1_2]] (by rfl) rfl rfl (by (try simp only [List.map_toArray, List.map_cons, List.map_nil]); first | done | rfl | (simp only [List.length_drop, List.length_take]; rfl)) ?_
        with_reducible refine (truantlaw18_form.calls a1_0 a1_1 a1_2 t235 t236 t237 _ A21.out).mono ?_
        rintro e w26 ⟨rfl, hb⟩
        refine ⟨_, rfl, ?_⟩
        have n0_ := Aside0.mk (blk_below (g := gb231) (o := .cells #[.int .i64 a1_0, .int .i64 a1_1, .string a1_2] 24 (0, 0)) (by (with_reducible repeat (first | refine blk_drewN ?_ _ | refine blk_drew ?_ | refine blk_alloc ?_ _)); exact BK231.out) hb)
        have n1_ := Aside0.mk (blk_below (g := gb232) (o := .cells #[.int .i64 a2_0, .int .i64 a2_1, .string a2_2] 24 (0, 0)) (by (with_reducible repeat (first | refine blk_drewN ?_ _ | refine blk_drew ?_ | refine blk_alloc ?_ _)); exact BK232.out) hb)
        have n2_ := Aside0.mk (below_step (by repeat (first | (with_reducible first | exact HB.out | apply below_alloc | apply pw_below_drewN | apply below_drew1 | refine below_set ?_ GE231.out | refine below_set ?_ GE232.out) | exact HB.out)) hb)
        clear BK231
        clear BK232
        clear HB
        have BK231 := n0_
        have BK232 := n1_
        have HB := n2_
        clear n0_ n1_ n2_
        (try clear hb)
        (try clear hb2)
        (try clear hk)
        (try clear hi)
        refine hK.out _ _ ⟨(blk_cell BK231.out 0).trans rfl, (blk_cell BK231.out 1).trans rfl, (blk_cell BK231.out 2).trans rfl, (blk_cell BK232.out 0).trans rfl, (blk_cell BK232.out 1).trans rfl, (blk_cell BK232.out 2).trans rfl⟩ (fun hHeld => ?_)
        clear hK K
        refine norm_ (a' := ?_) ?_ ?_
        rotate_left
        ·show Act.put _ (some 43) _ = _
         simp only [Act.put, List.setIfInBounds_toArray, List.set_cons_zero, List.set_cons_succ, i64_w, i32_w]
         rfl
        refine one_ (i := 3) (N := some 45) #[true, true, true, true, false] rfl rfl (by kernel_rfl) (by decide) (fun K hK => ?_)
        refine goes_ Tryd.func9 (by kernel_rfl) rfl #[.agg #[.int .i64 a2_0, .int .i64 a2_1, .string a2_2]] (by rfl) rfl rfl (by (try simp only [List.map_toArray, List.map_cons, List.map_nil]); first | done | rfl | (simp only [List.length_drop, List.length_take]; rfl)) ?_
        with_reducible refine (truantlaw18_form.calls a2_0 a2_1 a2_2 t238 t239 t240 _ A22.out).mono ?_
        rintro e w27 ⟨rfl, hb⟩
        refine ⟨_, rfl, ?_⟩
        have n0_ := Aside0.mk (blk_below (g := gb231) (o := .cells #[.int .i64 a1_0, .int .i64 a1_1, .string a1_2] 24 (0, 0)) (by (with_reducible repeat (first | refine blk_drewN ?_ _ | refine blk_drew ?_ | refine blk_alloc ?_ _)); exact BK231.out) hb)
        have n1_ := Aside0.mk (blk_below (g := gb232) (o := .cells #[.int .i64 a2_0, .int .i64 a2_1, .string a2_2] 24 (0, 0)) (by (with_reducible repeat (first | refine blk_drewN ?_ _ | refine blk_drew ?_ | refine blk_alloc ?_ _)); exact BK232.out) hb)
        have n2_ := Aside0.mk (below_step (by repeat (first | (with_reducible first | exact HB.out | apply below_alloc | apply pw_below_drewN | apply below_drew1 | refine below_set ?_ GE231.out | refine below_set ?_ GE232.out) | exact HB.out)) hb)
        clear BK231
        clear BK232
        clear HB
        have BK231 := n0_
        have BK232 := n1_
        have HB := n2_
        clear n0_ n1_ n2_
        (try clear hb)
        (try clear hb2)
        (try clear hk)
        (try clear hi)
        refine hK.out _ _ ⟨(blk_cell BK231.out 0).trans rfl, (blk_cell BK231.out 1).trans rfl, (blk_cell BK231.out 2).trans rfl, (blk_cell BK232.out 0).trans rfl, (blk_cell BK232.out 1).trans rfl, (blk_cell BK232.out 2).trans rfl⟩ (fun hHeld => ?_)
        clear hK K
        refine norm_ (a' := ?_) ?_ ?_
        rotate_left
        ·show Act.put _ (some 45) _ = _
         simp only [Act.put, List.setIfInBounds_toArray, List.set_cons_zero, List.set_cons_succ, i64_w, i32_w]
         rfl
        refine one_ (i := 4) (N := some 46) #[true, true, true, true, true] rfl rfl (by kernel_rfl) (by decide) (fun K hK => ?_)
        refine goes_ Tryd.func8 (by kernel_rfl) rfl #[.agg #[.int .i64 t235, .int .i64 t236, .string t237], .agg #[.int .i64 t238, .int .i64 t239, .string t240]] (by rfl) rfl rfl (by (try simp only [List.map_toArray, List.map_cons, List.map_nil]); first | done | rfl | (simp only [List.length_drop, List.length_take]; rfl)) ?_
        with_reducible refine (truantref18_Less.calls t235 t236 t237 t238 t239 t240 t241 _ A23.out).mono ?_
        rintro e w28 ⟨rfl, hb⟩
        refine ⟨_, rfl, ?_⟩
        have n0_ := Aside0.mk (blk_below (g := gb231) (o := .cells #[.int .i64 a1_0, .int .i64 a1_1, .string a1_2] 24 (0, 0)) (by (with_reducible repeat (first | refine blk_drewN ?_ _ | refine blk_drew ?_ | refine blk_alloc ?_ _)); exact BK231.out) hb)
        have n1_ := Aside0.mk (blk_below (g := gb232) (o := .cells #[.int .i64 a2_0, .int .i64 a2_1, .string a2_2] 24 (0, 0)) (by (with_reducible repeat (first | refine blk_drewN ?_ _ | refine blk_drew ?_ | refine blk_alloc ?_ _)); exact BK232.out) hb)
        have n2_ := Aside0.mk (below_step (by repeat (first | (with_reducible first | exact HB.out | apply below_alloc | apply pw_below_drewN | apply below_drew1 | refine below_set ?_ GE231.out | refine below_set ?_ GE232.out) | exact HB.out)) hb)
        clear BK231
        clear BK232
        clear HB
        have BK231 := n0_
        have BK232 := n1_
        have HB := n2_
        clear n0_ n1_ n2_
        (try clear hb)
        (try clear hb2)
        (try clear hk)
        (try clear hi)
        refine hK.out _ _ ⟨(blk_cell BK231.out 0).trans rfl, (blk_cell BK231.out 1).trans rfl, (blk_cell BK231.out 2).trans rfl, (blk_cell BK232.out 0).trans rfl, (blk_cell BK232.out 1).trans rfl, (blk_cell BK232.out 2).trans rfl⟩ (fun hHeld => ?_)
        clear hK K
        refine norm_ (a' := ?_) ?_ ?_
        rotate_left
        ·show Act.put _ (some 46) _ = _
         simp only [Act.put, List.setIfInBounds_toArray, List.set_cons_zero, List.set_cons_succ, i64_w, i32_w]
         rfl
        refine done_ (by kernel_rfl) ?_
        go_upto_if 46 with (fail)
        go_cut [8] (fun v8 wc => ∃ (kq : Nat) (x8_23 : Int), v8 = .int .i64 x8_23 ∧ Aside0 (truantlaw18_NodeExact.j2 kq l0 x8_23 a1_0 a1_1 a1_2 a2_0 a2_1 a2_2 = some r) ∧ Aside0 (kq ≤ k2) ∧ Aside0 (wc.heap[gb231]? = some (.cells #[.int .i64 a1_0, .int .i64 a1_1, .string a1_2] 24 (0, 0))) ∧ Aside0 (wc.heap[gb232]? = some (.cells #[.int .i64 a2_0, .int .i64 a2_1, .string a2_2] 24 (0, 0))) ∧ Aside0 (Below w.heap.size w wc))
        case first =>
         have H := HC24.out
         clear HC24
         by_cases c29 : t241 = true
         ·subst c29
          have H1 : (truantlaw18_NodeExact.j2 k2 l0 (-1) a1_0 a1_1 a1_2 a2_0 a2_1 a2_2) = some r := by rw [if_pos rfl] at H; exact H
          clear H
          have H := H1
          clear H1
          have H' := Aside0.mk H
          clear H
          go_wp2
          go_meet
          case rel => exact ⟨_, ((-1)), (by first | rfl | (simp; done) | (simp [*]; done)), H', ⟨by have := HJ5.out; have := HK2.out; first | omega | exact Nat.le_refl _⟩, ⟨by (with_reducible repeat (first | refine blk_drewN ?_ _ | refine blk_drew ?_ | refine blk_alloc ?_ _)); exact BK231.out⟩, ⟨by (with_reducible repeat (first | refine blk_drewN ?_ _ | refine blk_drew ?_ | refine blk_alloc ?_ _)); exact BK232.out⟩, ⟨by repeat (first | (with_reducible first | exact HB.out | apply below_alloc | apply pw_below_drewN | apply below_drew1 | refine below_set ?_ GE231.out | refine below_set ?_ GE232.out) | exact HB.out)⟩⟩
         ·replace c29 := Bool.eq_false_iff.mpr c29
          subst c29
          have H1 : (truantlaw18_NodeExact.j2 k2 l0 0 a1_0 a1_1 a1_2 a2_0 a2_1 a2_2) = some r := by rw [if_neg (show ¬ (false = true) by decide)] at H; exact H
          clear H
          have H := H1
          clear H1
          have H' := Aside0.mk H
          clear H
          go_wp2
          go_meet
          case rel => exact ⟨_, (0), (by first | rfl | (simp; done) | (simp [*]; done)), H', ⟨by have := HJ5.out; have := HK2.out; first | omega | exact Nat.le_refl _⟩, ⟨by (with_reducible repeat (first | refine blk_drewN ?_ _ | refine blk_drew ?_ | refine blk_alloc ?_ _)); exact BK231.out⟩, ⟨by (with_reducible repeat (first | refine blk_drewN ?_ _ | refine blk_drew ?_ | refine blk_alloc ?_ _)); exact BK232.out⟩, ⟨by repeat (first | (with_reducible first | exact HB.out | apply below_alloc | apply pw_below_drewN | apply below_drew1 | refine below_set ?_ GE231.out | refine below_set ?_ GE232.out) | exact HB.out)⟩⟩
        case rest =>
         clear HC24
         try clear c1
         try clear c2
         try clear p2
         try clear q2
         try clear hx2
         try clear c3
         try clear c5
         try clear p6
         try clear c7
         try clear c8
         try clear c9
         try clear c10
         try clear c10b0
         try clear c10b1
         try clear c11
         try clear c11b0
         try clear c11b1
         try clear c12
         try clear c14
         try clear c17
         try clear c18
         try clear c18b0
         try clear c19
         try clear c19b0
         try clear c20
         try clear c20b0
         try clear c20b1
         try clear c23
         try clear p23
         try clear q23
         try clear hx23
         try clear c29
         try clear hcz13_0
         try clear hcz13_1
         try clear hcz13_2
         try clear hcz15_0
         try clear hcz15_1
         try clear hcz15_2
         try clear hcz16_0
         try clear hcz16_1
         try clear hcz16_2
         try clear hfz13_0
         try clear hfz13_1
         try clear hfz13_2
         try clear hfz15_0
         try clear hfz15_1
         try clear hfz15_2
         try clear hfz16_0
         try clear hfz16_1
         try clear hfz16_2
         try clear hx234_0
         try clear hx234_1
         try clear p2
         try clear p234
         try clear q234
         obtain ⟨kq, x8_23, rfl, HA, HJ23, BK231, BK232, HB⟩ := hcut
         cases kq with
         | zero => exact absurd HA.out (by simp [truantlaw18_NodeExact.j2])
         | succ kj23 =>
          have H := HA.out
          clear HA
          simp only [truantlaw18_NodeExact.j2] at H
          replace H := Option.bind_eq_some_iff.mp H
          obtain ⟨⟨t242, t243, t244⟩, A300, H⟩ := H
          replace H : ((truantlaw18_form.f a1_0 a1_1 a1_2).bind fun bt245 => ((truantref18_Less.f t242 t243 t244 bt245.1 bt245.2.1 bt245.2.2).bind fun t248 => (if t248 = true then (truantlaw18_NodeExact.j3 kj23 l0 1 a1_0 a1_1 a1_2 a2_0 a2_1 a2_2) else (truantlaw18_NodeExact.j3 kj23 l0 x8_23 a1_0 a1_1 a1_2 a2_0 a2_1 a2_2)))) = some r := H
          have A30 := Aside0.mk A300
          clear A300
          replace H := Option.bind_eq_some_iff.mp H
          obtain ⟨⟨t245, t246, t247⟩, A310, H⟩ := H
          replace H : ((truantref18_Less.f t242 t243 t244 t245 t246 t247).bind fun t248 => (if t248 = true then (truantlaw18_NodeExact.j3 kj23 l0 1 a1_0 a1_1 a1_2 a2_0 a2_1 a2_2) else (truantlaw18_NodeExact.j3 kj23 l0 x8_23 a1_0 a1_1 a1_2 a2_0 a2_1 a2_2))) = some r := H
          have A31 := Aside0.mk A310
          clear A310
          replace H := Option.bind_eq_some_iff.mp H
          obtain ⟨t248, A320, H⟩ := H
          replace H : (if t248 = true then (truantlaw18_NodeExact.j3 kj23 l0 1 a1_0 a1_1 a1_2 a2_0 a2_1 a2_2) else (truantlaw18_NodeExact.j3 kj23 l0 x8_23 a1_0 a1_1 a1_2 a2_0 a2_1 a2_2)) = some r := H
          have A32 := Aside0.mk A320
          clear A320
          have HC33 := Aside0.mk H
          clear H
          try go_wp2
          have n0_ := Aside0.mk (blk_drew BK231.out)
          have n1_ := Aside0.mk (blk_drew BK232.out)
          have n2_ := Aside0.mk (below_drew1 HB.out)
          clear BK231
          clear BK232
          clear HB
          have BK231 := n0_
          have BK232 := n1_
          have HB := n2_
          clear n0_ n1_ n2_
          refine start_ (n := 5) (S := fun w' => w'.cell? ⟨gb232, 0, none⟩ = some (.int .i64 a2_0) ∧ w'.cell? ⟨gb232, 1, none⟩ = some (.int .i64 a2_1) ∧ w'.cell? ⟨gb232, 2, none⟩ = some (.string a2_2) ∧ w'.cell? ⟨gb231, 0, none⟩ = some (.int .i64 a1_0) ∧ w'.cell? ⟨gb231, 1, none⟩ = some (.int .i64 a1_1) ∧ w'.cell? ⟨gb231, 2, none⟩ = some (.string a1_2)) (ds := []) #[false, false, false, false, false] (by kernel_rfl) rfl rfl ⟨(blk_cell BK232.out 0).trans rfl, (blk_cell BK232.out 1).trans rfl, (blk_cell BK232.out 2).trans rfl, (blk_cell BK231.out 0).trans rfl, (blk_cell BK231.out 1).trans rfl, (blk_cell BK231.out 2).trans rfl⟩ (fun hHeld => ?_)
          generalize wc.drew = w34 at BK231 BK232 HB hHeld ⊢
          refine take_ (i := 0) (N := some 47) (v := ?_) (a' := ?_) #[true, false, false, false, false] rfl rfl (by kernel_rfl) (fun _ _ _ h => h) (Or.inl ⟨by rfl, ?_⟩) hHeld ?_ ?_
          rotate_left
          ·rintro w' ⟨s0, s1, s2, s3, s4, s5⟩
           go_simp
           with_reducible rfl
          rotate_left
          ·simp only [Act.put, List.setIfInBounds_toArray, List.set_cons_zero, List.set_cons_succ, i64_w, i32_w]
           rfl
          refine take_ (i := 2) (N := some 49) (v := ?_) (a' := ?_) #[true, false, true, false, false] rfl rfl (by kernel_rfl) (fun _ _ _ h => h) (Or.inl ⟨by rfl, ?_⟩) hHeld ?_ ?_
          rotate_left
          ·rintro w' ⟨s0, s1, s2, s3, s4, s5⟩
           go_simp
           with_reducible rfl
          rotate_left
          ·simp only [Act.put, List.setIfInBounds_toArray, List.set_cons_zero, List.set_cons_succ, i64_w, i32_w]
           rfl
          refine one_ (i := 1) (N := some 48) #[true, true, true, false, false] rfl rfl (by kernel_rfl) (by decide) (fun K hK => ?_)
          refine goes_ Tryd.func9 (by kernel_rfl) rfl #[.agg #[.int .i64 a2_0, .int .i64 a2_1, .string a2_2]] (by rfl) rfl rfl (by (try simp only [List.map_toArray, List.map_cons, List.map_nil]); first | done | rfl | (simp only [List.length_drop, List.length_take]; rfl)) ?_
          with_reducible refine (truantlaw18_form.calls a2_0 a2_1 a2_2 t242 t243 t244 _ A30.out).mono ?_
          rintro e w35 ⟨rfl, hb⟩
          refine ⟨_, rfl, ?_⟩
          have n0_ := Aside0.mk (blk_below (g := gb231) (o := .cells #[.int .i64 a1_0, .int .i64 a1_1, .string a1_2] 24 (0, 0)) (by (with_reducible repeat (first | refine blk_drewN ?_ _ | refine blk_drew ?_ | refine blk_alloc ?_ _)); exact BK231.out) hb)
          have n1_ := Aside0.mk (blk_below (g := gb232) (o := .cells #[.int .i64 a2_0, .int .i64 a2_1, .string a2_2] 24 (0, 0)) (by (with_reducible repeat (first | refine blk_drewN ?_ _ | refine blk_drew ?_ | refine blk_alloc ?_ _)); exact BK232.out) hb)
          have n2_ := Aside0.mk (below_step (by repeat (first | (with_reducible first | exact HB.out | apply below_alloc | apply pw_below_drewN | apply below_drew1 | refine below_set ?_ GE231.out | refine below_set ?_ GE232.out) | exact HB.out)) hb)
          clear BK231
          clear BK232
          clear HB
          have BK231 := n0_
          have BK232 := n1_
          have HB := n2_
          clear n0_ n1_ n2_
          (try clear hb)
          (try clear hb2)
          (try clear hk)
          (try clear hi)
          refine hK.out _ _ ⟨(blk_cell BK232.out 0).trans rfl, (blk_cell BK232.out 1).trans rfl, (blk_cell BK232.out 2).trans rfl, (blk_cell BK231.out 0).trans rfl, (blk_cell BK231.out 1).trans rfl, (blk_cell BK231.out 2).trans rfl⟩ (fun hHeld => ?_)
          clear hK K
          refine norm_ (a' := ?_) ?_ ?_
          rotate_left
          ·show Act.put _ (some 48) _ = _
           simp only [Act.put, List.setIfInBounds_toArray, List.set_cons_zero, List.set_cons_succ, i64_w, i32_w]
           rfl
          refine one_ (i := 3) (N := some 50) #[true, true, true, true, false] rfl rfl (by kernel_rfl) (by decide) (fun K hK => ?_)
          refine goes_ Tryd.func9 (by kernel_rfl) rfl #[.agg #[.int .i64 a1_0, .int .i64 a1_1, .string a1_2]] (by rfl) rfl rfl (by (try simp only [List.map_toArray, List.map_cons, List.map_nil]); first | done | rfl | (simp only [List.length_drop, List.length_take]; rfl)) ?_
          with_reducible refine (truantlaw18_form.calls a1_0 a1_1 a1_2 t245 t246 t247 _ A31.out).mono ?_
          rintro e w36 ⟨rfl, hb⟩
          refine ⟨_, rfl, ?_⟩
          have n0_ := Aside0.mk (blk_below (g := gb231) (o := .cells #[.int .i64 a1_0, .int .i64 a1_1, .string a1_2] 24 (0, 0)) (by (with_reducible repeat (first | refine blk_drewN ?_ _ | refine blk_drew ?_ | refine blk_alloc ?_ _)); exact BK231.out) hb)
          have n1_ := Aside0.mk (blk_below (g := gb232) (o := .cells #[.int .i64 a2_0, .int .i64 a2_1, .string a2_2] 24 (0, 0)) (by (with_reducible repeat (first | refine blk_drewN ?_ _ | refine blk_drew ?_ | refine blk_alloc ?_ _)); exact BK232.out) hb)
          have n2_ := Aside0.mk (below_step (by repeat (first | (with_reducible first | exact HB.out | apply below_alloc | apply pw_below_drewN | apply below_drew1 | refine below_set ?_ GE231.out | refine below_set ?_ GE232.out) | exact HB.out)) hb)
          clear BK231
          clear BK232
          clear HB
          have BK231 := n0_
          have BK232 := n1_
          have HB := n2_
          clear n0_ n1_ n2_
          (try clear hb)
          (try clear hb2)
          (try clear hk)
          (try clear hi)
          refine hK.out _ _ ⟨(blk_cell BK232.out 0).trans rfl, (blk_cell BK232.out 1).trans rfl, (blk_cell BK232.out 2).trans rfl, (blk_cell BK231.out 0).trans rfl, (blk_cell BK231.out 1).trans rfl, (blk_cell BK231.out 2).trans rfl⟩ (fun hHeld => ?_)
          clear hK K
          refine norm_ (a' := ?_) ?_ ?_
          rotate_left
          ·show Act.put _ (some 50) _ = _
           simp only [Act.put, List.setIfInBounds_toArray, List.set_cons_zero, List.set_cons_succ, i64_w, i32_w]
           rfl
          refine one_ (i := 4) (N := some 51) #[true, true, true, true, true] rfl rfl (by kernel_rfl) (by decide) (fun K hK => ?_)
          refine goes_ Tryd.func8 (by kernel_rfl) rfl #[.agg #[.int .i64 t242, .int .i64 t243, .string t244], .agg #[.int .i64 t245, .int .i64 t246, .string t247]] (by rfl) rfl rfl (by (try simp only [List.map_toArray, List.map_cons, List.map_nil]); first | done | rfl | (simp only [List.length_drop, List.length_take]; rfl)) ?_
          with_reducible refine (truantref18_Less.calls t242 t243 t244 t245 t246 t247 t248 _ A32.out).mono ?_
          rintro e w37 ⟨rfl, hb⟩
          refine ⟨_, rfl, ?_⟩
          have n0_ := Aside0.mk (blk_below (g := gb231) (o := .cells #[.int .i64 a1_0, .int .i64 a1_1, .string a1_2] 24 (0, 0)) (by (with_reducible repeat (first | refine blk_drewN ?_ _ | refine blk_drew ?_ | refine blk_alloc ?_ _)); exact BK231.out) hb)
          have n1_ := Aside0.mk (blk_below (g := gb232) (o := .cells #[.int .i64 a2_0, .int .i64 a2_1, .string a2_2] 24 (0, 0)) (by (with_reducible repeat (first | refine blk_drewN ?_ _ | refine blk_drew ?_ | refine blk_alloc ?_ _)); exact BK232.out) hb)
          have n2_ := Aside0.mk (below_step (by repeat (first | (with_reducible first | exact HB.out | apply below_alloc | apply pw_below_drewN | apply below_drew1 | refine below_set ?_ GE231.out | refine below_set ?_ GE232.out) | exact HB.out)) hb)
          clear BK231
          clear BK232
          clear HB
          have BK231 := n0_
          have BK232 := n1_
          have HB := n2_
          clear n0_ n1_ n2_
          (try clear hb)
          (try clear hb2)
          (try clear hk)
          (try clear hi)
          refine hK.out _ _ ⟨(blk_cell BK232.out 0).trans rfl, (blk_cell BK232.out 1).trans rfl, (blk_cell BK232.out 2).trans rfl, (blk_cell BK231.out 0).trans rfl, (blk_cell BK231.out 1).trans rfl, (blk_cell BK231.out 2).trans rfl⟩ (fun hHeld => ?_)
          clear hK K
          refine norm_ (a' := ?_) ?_ ?_
          rotate_left
          ·show Act.put _ (some 51) _ = _
           simp only [Act.put, List.setIfInBounds_toArray, List.set_cons_zero, List.set_cons_succ, i64_w, i32_w]
           rfl
          refine done_ (by kernel_rfl) ?_
          go_upto_if 51 with (fail)
          go_cut [8] (fun v8 wc => ∃ (kq : Nat) (x8_32 : Int), v8 = .int .i64 x8_32 ∧ Aside0 (truantlaw18_NodeExact.j3 kq l0 x8_32 a1_0 a1_1 a1_2 a2_0 a2_1 a2_2 = some r) ∧ Aside0 (kq ≤ kj23) ∧ Aside0 (wc.heap[gb231]? = some (.cells #[.int .i64 a1_0, .int .i64 a1_1, .string a1_2] 24 (0, 0))) ∧ Aside0 (wc.heap[gb232]? = some (.cells #[.int .i64 a2_0, .int .i64 a2_1, .string a2_2] 24 (0, 0))) ∧ Aside0 (Below w.heap.size w wc))
          case first =>
           have H := HC33.out
           clear HC33
           by_cases c38 : t248 = true
           ·subst c38
            have H1 : (truantlaw18_NodeExact.j3 kj23 l0 1 a1_0 a1_1 a1_2 a2_0 a2_1 a2_2) = some r := by rw [if_pos rfl] at H; exact H
            clear H
            have H := H1
            clear H1
            have H' := Aside0.mk H
            clear H
            go_wp2
            go_meet
            case rel => exact ⟨_, (1), (by first | rfl | (simp; done) | (simp [*]; done)), H', ⟨by have := HJ5.out; have := HK2.out; have := HJ23.out; first | omega | exact Nat.le_refl _⟩, ⟨by (with_reducible repeat (first | refine blk_drewN ?_ _ | refine blk_drew ?_ | refine blk_alloc ?_ _)); exact BK231.out⟩, ⟨by (with_reducible repeat (first | refine blk_drewN ?_ _ | refine blk_drew ?_ | refine blk_alloc ?_ _)); exact BK232.out⟩, ⟨by repeat (first | (with_reducible first | exact HB.out | apply below_alloc | apply pw_below_drewN | apply below_drew1 | refine below_set ?_ GE231.out | refine below_set ?_ GE232.out) | exact HB.out)⟩⟩
           ·replace c38 := Bool.eq_false_iff.mpr c38
            subst c38
            have H1 : (truantlaw18_NodeExact.j3 kj23 l0 x8_23 a1_0 a1_1 a1_2 a2_0 a2_1 a2_2) = some r := by rw [if_neg (show ¬ (false = true) by decide)] at H; exact H
            clear H
            have H := H1
            clear H1
            have H' := Aside0.mk H
            clear H
            go_wp2
            go_meet
            case rel => exact ⟨_, (x8_23), (by first | rfl | (simp; done) | (simp [*]; done)), H', ⟨by have := HJ5.out; have := HK2.out; have := HJ23.out; first | omega | exact Nat.le_refl _⟩, ⟨by (with_reducible repeat (first | refine blk_drewN ?_ _ | refine blk_drew ?_ | refine blk_alloc ?_ _)); exact BK231.out⟩, ⟨by (with_reducible repeat (first | refine blk_drewN ?_ _ | refine blk_drew ?_ | refine blk_alloc ?_ _)); exact BK232.out⟩, ⟨by repeat (first | (with_reducible first | exact HB.out | apply below_alloc | apply pw_below_drewN | apply below_drew1 | refine below_set ?_ GE231.out | refine below_set ?_ GE232.out) | exact HB.out)⟩⟩
          case rest =>
           clear HC33
           try clear c1
           try clear c2
           try clear p2
           try clear q2
           try clear hx2
           try clear c3
           try clear c5
           try clear p6
           try clear c7
           try clear c8
           try clear c9
           try clear c10
           try clear c10b0
           try clear c10b1
           try clear c11
           try clear c11b0
           try clear c11b1
           try clear c12
           try clear c14
           try clear c17
           try clear c18
           try clear c18b0
           try clear c19
           try clear c19b0
           try clear c20
           try clear c20b0
           try clear c20b1
           try clear c23
           try clear p23
           try clear q23
           try clear hx23
           try clear c29
           try clear c38
           try clear hcz13_0
           try clear hcz13_1
           try clear hcz13_2
           try clear hcz15_0
           try clear hcz15_1
           try clear hcz15_2
           try clear hcz16_0
           try clear hcz16_1
           try clear hcz16_2
           try clear hfz13_0
           try clear hfz13_1
           try clear hfz13_2
           try clear hfz15_0
           try clear hfz15_1
           try clear hfz15_2
           try clear hfz16_0
           try clear hfz16_1
           try clear hfz16_2
           try clear hx234_0
           try clear hx234_1
           try clear p2
           try clear p23
           try clear p234
           try clear p6
           try clear q2
           try clear q23
           try clear q234
           obtain ⟨kq, x8_32, rfl, HA, HJ32, BK231, BK232, HB⟩ := hcut
           cases kq with
           | zero => exact absurd HA.out (by simp [truantlaw18_NodeExact.j3])
           | succ kj32 =>
            have H := HA.out
            clear HA
            simp only [truantlaw18_NodeExact.j3] at H
            replace H := Option.bind_eq_some_iff.mp H
            obtain ⟨t249, A390, H⟩ := H
            replace H : ((truantlaw18_form.f a1_0 a1_1 a1_2).bind fun bt252 => ((truantref18_First.f kj32 l0 bt252.1 bt252.2.1 bt252.2.2).bind fun t255 => ((node_Compare.f kj32 a1_0 a1_1 a1_2 a2_0 a2_1 a2_2).bind fun t258 => (if t258 = x8_32 then ((node_Text.f kj32 a1_0 a1_1 a1_2).bind fun t259 => ((truantlaw18_form.f a1_0 a1_1 a1_2).bind fun bt260 => ((truantref18_Text.f kj32 bt260.1 bt260.2.1 bt260.2.2).bind fun t263 => (if t259.toList = t263.toList then (truantlaw18_NodeExact.j4 kj32 t249 t255 ((t249.length : Int) != (t255.length : Int))) else (truantlaw18_NodeExact.j4 kj32 t249 t255 true))))) else (truantlaw18_NodeExact.j4 kj32 t249 t255 true))))) = some r := H
            have A39 := Aside0.mk A390
            clear A390
            replace H := Option.bind_eq_some_iff.mp H
            obtain ⟨⟨t252, t253, t254⟩, A400, H⟩ := H
            replace H : ((truantref18_First.f kj32 l0 t252 t253 t254).bind fun t255 => ((node_Compare.f kj32 a1_0 a1_1 a1_2 a2_0 a2_1 a2_2).bind fun t258 => (if t258 = x8_32 then ((node_Text.f kj32 a1_0 a1_1 a1_2).bind fun t259 => ((truantlaw18_form.f a1_0 a1_1 a1_2).bind fun bt260 => ((truantref18_Text.f kj32 bt260.1 bt260.2.1 bt260.2.2).bind fun t263 => (if t259.toList = t263.toList then (truantlaw18_NodeExact.j4 kj32 t249 t255 ((t249.length : Int) != (t255.length : Int))) else (truantlaw18_NodeExact.j4 kj32 t249 t255 true))))) else (truantlaw18_NodeExact.j4 kj32 t249 t255 true)))) = some r := H
            have A40 := Aside0.mk A400
            clear A400
            replace H := Option.bind_eq_some_iff.mp H
            obtain ⟨t255, A410, H⟩ := H
            replace H : ((node_Compare.f kj32 a1_0 a1_1 a1_2 a2_0 a2_1 a2_2).bind fun t258 => (if t258 = x8_32 then ((node_Text.f kj32 a1_0 a1_1 a1_2).bind fun t259 => ((truantlaw18_form.f a1_0 a1_1 a1_2).bind fun bt260 => ((truantref18_Text.f kj32 bt260.1 bt260.2.1 bt260.2.2).bind fun t263 => (if t259.toList = t263.toList then (truantlaw18_NodeExact.j4 kj32 t249 t255 ((t249.length : Int) != (t255.length : Int))) else (truantlaw18_NodeExact.j4 kj32 t249 t255 true))))) else (truantlaw18_NodeExact.j4 kj32 t249 t255 true))) = some r := H
            have A41 := Aside0.mk A410
            clear A410
            have HC42 := Aside0.mk H
            clear H
            have hnb43 := NB231_232.out
            have hnc43 := NB232_231.out
            have hcz44_0 : wc.cell? ⟨gb231, 0, none⟩ = some (.int .i64 a1_0) := (blk_cell BK231.out 0).trans rfl
            have hcz44_1 : wc.cell? ⟨gb231, 1, none⟩ = some (.int .i64 a1_1) := (blk_cell BK231.out 1).trans rfl
            have hcz44_2 : wc.cell? ⟨gb231, 2, none⟩ = some (.string a1_2) := (blk_cell BK231.out 2).trans rfl
            have hfz44_0 := blk_frozen BK231.out 0
            have hfz44_1 := blk_frozen BK231.out 1
            have hfz44_2 := blk_frozen BK231.out 2
            go_upto_region 17 with (first | ((with_reducible refine gate_callee (f := 10) rfl ?_); refine goesL_ (some 54) rfl rfl Tryd.func10 (by kernel_rfl) rfl #[.slice A0 l0.length c0, .agg #[.int .i64 a1_0, .int .i64 a1_1, .string a1_2]] rfl (by (try simp only [List.map_toArray, List.map_cons, List.map_nil]); first | done | rfl | (simp only [List.length_drop, List.length_take]; rfl)) ?_; (with_reducible refine (node_First.calls kj32 _ _ l0 a1_0 a1_1 a1_2 t249 _ ?side1 ?side2 A39.out).mono ?_); (case side1 => repeat (first | exact (Kd.C_below HR0.out HB.out) | (with_reducible refine Kd.C_alloc ?_ _) | (with_reducible refine Kd.C_drewN ?_ _) | (with_reducible refine Kd.C_drew ?_))); (case side2 => exact HC0.out); rintro e w45 ⟨v250, rfl, ho0, hb⟩; refine ⟨_, rfl, ?_⟩; have n0_ := Aside0.mk (Kd.R_lower ho0 (below_size (by repeat (first | (with_reducible first | exact HB.out | apply below_alloc | apply pw_below_drewN | apply below_drew1 | refine below_set ?_ GE231.out | refine below_set ?_ GE232.out) | exact HB.out)))); have n1_ := Aside0.mk (blk_below (g := gb231) (o := .cells #[.int .i64 a1_0, .int .i64 a1_1, .string a1_2] 24 (0, 0)) (by (with_reducible repeat (first | refine blk_drewN ?_ _ | refine blk_drew ?_ | refine blk_alloc ?_ _)); exact BK231.out) hb); have n2_ := Aside0.mk (blk_below (g := gb232) (o := .cells #[.int .i64 a2_0, .int .i64 a2_1, .string a2_2] 24 (0, 0)) (by (with_reducible repeat (first | refine blk_drewN ?_ _ | refine blk_drew ?_ | refine blk_alloc ?_ _)); exact BK232.out) hb); have n3_ := Aside0.mk (below_step (by repeat (first | (with_reducible first | exact HB.out | apply below_alloc | apply pw_below_drewN | apply below_drew1 | refine below_set ?_ GE231.out | refine below_set ?_ GE232.out) | exact HB.out)) hb); clear BK231; clear BK232; clear HB; have HO251 := n0_; have BK231 := n1_; have BK232 := n2_; have HB := n3_; clear n0_ n1_ n2_ n3_; (try clear hb); (try clear hb2); (try clear hk); (try clear hi); (try clear ho0); have hcz46_0 : w45.cell? ⟨gb231, 0, none⟩ = some (.int .i64 a1_0) := (blk_cell BK231.out 0).trans rfl; have hcz46_1 : w45.cell? ⟨gb231, 1, none⟩ = some (.int .i64 a1_1) := (blk_cell BK231.out 1).trans rfl; have hcz46_2 : w45.cell? ⟨gb231, 2, none⟩ = some (.string a1_2) := (blk_cell BK231.out 2).trans rfl; have hfz46_0 := blk_frozen BK231.out 0; have hfz46_1 := blk_frozen BK231.out 1; have hfz46_2 := blk_frozen BK231.out 2) | ((with_reducible refine gate_callee (f := 9) rfl ?_); refine goesL_ (some 57) rfl rfl Tryd.func9 (by kernel_rfl) rfl #[.agg #[.int .i64 a1_0, .int .i64 a1_1, .string a1_2]] rfl (by (try simp only [List.map_toArray, List.map_cons, List.map_nil]); first | done | rfl | (simp only [List.length_drop, List.length_take]; rfl)) ?_; (with_reducible refine (truantlaw18_form.calls a1_0 a1_1 a1_2 t252 t253 t254 _ A40.out).mono ?_); rintro e w47 ⟨rfl, hb⟩; refine ⟨_, rfl, ?_⟩; have n0_ := Aside0.mk (Kd.R_below (by (with_reducible repeat (first | apply Kd.R_alloc | apply Kd.R_drewN | apply Kd.R_drew)); exact HO251.out) hb); have n1_ := Aside0.mk (blk_below (g := gb231) (o := .cells #[.int .i64 a1_0, .int .i64 a1_1, .string a1_2] 24 (0, 0)) (by (with_reducible repeat (first | refine blk_drewN ?_ _ | refine blk_drew ?_ | refine blk_alloc ?_ _)); exact BK231.out) hb); have n2_ := Aside0.mk (blk_below (g := gb232) (o := .cells #[.int .i64 a2_0, .int .i64 a2_1, .string a2_2] 24 (0, 0)) (by (with_reducible repeat (first | refine blk_drewN ?_ _ | refine blk_drew ?_ | refine blk_alloc ?_ _)); exact BK232.out) hb); have n3_ := Aside0.mk (below_step (by repeat (first | (with_reducible first | exact HB.out | apply below_alloc | apply pw_below_drewN | apply below_drew1 | refine below_set ?_ GE231.out | refine below_set ?_ GE232.out) | exact HB.out)) hb); clear HO251; clear BK231; clear BK232; clear HB; have HO251 := n0_; have BK231 := n1_; have BK232 := n2_; have HB := n3_; clear n0_ n1_ n2_ n3_; (try clear hb); (try clear hb2); (try clear hk); (try clear hi)) | ((with_reducible refine gate_callee (f := 11) rfl ?_); refine goesL_ (some 58) rfl rfl Tryd.func11 (by kernel_rfl) rfl #[.slice A0 l0.length c0, .agg #[.int .i64 t252, .int .i64 t253, .string t254]] rfl (by (try simp only [List.map_toArray, List.map_cons, List.map_nil]); first | done | rfl | (simp only [List.length_drop, List.length_take]; rfl)) ?_; (with_reducible refine (truantref18_First.calls kj32 _ _ l0 t252 t253 t254 t255 _ ?side1 ?side2 A41.out).mono ?_); (case side1 => repeat (first | exact (Kd.C_below HR0.out HB.out) | (with_reducible refine Kd.C_alloc ?_ _) | (with_reducible refine Kd.C_drewN ?_ _) | (with_reducible refine Kd.C_drew ?_))); (case side2 => exact HC0.out); rintro e w48 ⟨v256, rfl, ho0, hb⟩; refine ⟨_, rfl, ?_⟩; have n0_ := Aside0.mk (Kd.R_below (by (with_reducible repeat (first | apply Kd.R_alloc | apply Kd.R_drewN | apply Kd.R_drew)); exact HO251.out) hb); have n1_ := Aside0.mk (Kd.R_lower ho0 (below_size (by repeat (first | (with_reducible first | exact HB.out | apply below_alloc | apply pw_below_drewN | apply below_drew1 | refine below_set ?_ GE231.out | refine below_set ?_ GE232.out) | exact HB.out)))); have n2_ := Aside0.mk (blk_below (g := gb231) (o := .cells #[.int .i64 a1_0, .int .i64 a1_1, .string a1_2] 24 (0, 0)) (by (with_reducible repeat (first | refine blk_drewN ?_ _ | refine blk_drew ?_ | refine blk_alloc ?_ _)); exact BK231.out) hb); have n3_ := Aside0.mk (blk_below (g := gb232) (o := .cells #[.int .i64 a2_0, .int .i64 a2_1, .string a2_2] 24 (0, 0)) (by (with_reducible repeat (first | refine blk_drewN ?_ _ | refine blk_drew ?_ | refine blk_alloc ?_ _)); exact BK232.out) hb); have n4_ := Aside0.mk (below_step (by repeat (first | (with_reducible first | exact HB.out | apply below_alloc | apply pw_below_drewN | apply below_drew1 | refine below_set ?_ GE231.out | refine below_set ?_ GE232.out) | exact HB.out)) hb); clear HO251; clear BK231; clear BK232; clear HB; have HO251 := n0_; have HO257 := n1_; have BK231 := n2_; have BK232 := n3_; have HB := n4_; clear n0_ n1_ n2_ n3_ n4_; (try clear hb); (try clear hb2); (try clear hk); (try clear hi); (try clear ho0)))
            (try simp only [Act.put, List.setIfInBounds_toArray, List.set_cons_zero, List.set_cons_succ])
            go_cut [78] (fun v78 wc => ∃ (kq : Nat) (x78_41 : Bool), v78 = .bool x78_41 ∧ Aside0 (truantlaw18_NodeExact.j4 kq t249 t255 x78_41 = some r) ∧ Aside0 (kq ≤ kj32) ∧ Aside0 (Kd.R k40 40 wc w.heap.size (fun _ => True) v250 t249) ∧ Aside0 (Kd.R k42 42 wc w.heap.size (fun _ => True) v256 t255) ∧ Aside0 (wc.heap[gb231]? = some (.cells #[.int .i64 a1_0, .int .i64 a1_1, .string a1_2] 24 (0, 0))) ∧ Aside0 (wc.heap[gb232]? = some (.cells #[.int .i64 a2_0, .int .i64 a2_1, .string a2_2] 24 (0, 0))) ∧ Aside0 (Below w.heap.size w wc))
            case first =>
             have H := HC42.out
             clear HC42
             replace H := Option.bind_eq_some_iff.mp H
             obtain ⟨t258, A490, H⟩ := H
             replace H : (if t258 = x8_32 then ((node_Text.f kj32 a1_0 a1_1 a1_2).bind fun t259 => ((truantlaw18_form.f a1_0 a1_1 a1_2).bind fun bt260 => ((truantref18_Text.f kj32 bt260.1 bt260.2.1 bt260.2.2).bind fun t263 => (if t259.toList = t263.toList then (truantlaw18_NodeExact.j4 kj32 t249 t255 ((t249.length : Int) != (t255.length : Int))) else (truantlaw18_NodeExact.j4 kj32 t249 t255 true))))) else (truantlaw18_NodeExact.j4 kj32 t249 t255 true)) = some r := H
             have A49 := Aside0.mk A490
             clear A490
             by_cases c50 : t258 = x8_32
             ·rw [if_pos c50] at H
              have c50b0 : (t258 == x8_32) = true := beq_iff_eq.mpr c50
              have c50b1 : (t258 != x8_32) = false := bne_eq_false_iff_eq.mpr c50
              clear c50
              (first | rw [c50b0] | rw [c50b1] | rw [c50b4] | (simp only [i64_w, i32_w]; rw [c50b0]) | skip)
              replace H := Option.bind_eq_some_iff.mp H
              obtain ⟨t259, A510, H⟩ := H
              replace H : ((truantlaw18_form.f a1_0 a1_1 a1_2).bind fun bt260 => ((truantref18_Text.f kj32 bt260.1 bt260.2.1 bt260.2.2).bind fun t263 => (if t259.toList = t263.toList then (truantlaw18_NodeExact.j4 kj32 t249 t255 ((t249.length : Int) != (t255.length : Int))) else (truantlaw18_NodeExact.j4 kj32 t249 t255 true)))) = some r := H
              have A51 := Aside0.mk A510
              clear A510
              replace H := Option.bind_eq_some_iff.mp H
              obtain ⟨⟨t260, t261, t262⟩, A520, H⟩ := H
              replace H : ((truantref18_Text.f kj32 t260 t261 t262).bind fun t263 => (if t259.toList = t263.toList then (truantlaw18_NodeExact.j4 kj32 t249 t255 ((t249.length : Int) != (t255.length : Int))) else (truantlaw18_NodeExact.j4 kj32 t249 t255 true))) = some r := H
              have A52 := Aside0.mk A520
              clear A520
              replace H := Option.bind_eq_some_iff.mp H
              obtain ⟨t263, A530, H⟩ := H
              replace H : (if t259.toList = t263.toList then (truantlaw18_NodeExact.j4 kj32 t249 t255 ((t249.length : Int) != (t255.length : Int))) else (truantlaw18_NodeExact.j4 kj32 t249 t255 true)) = some r := H
              have A53 := Aside0.mk A530
              clear A530
              by_cases c54 : t259.toList = t263.toList
              ·rw [if_pos c54] at H
               have c54b0 : (t259.toList == t263.toList) = true := beq_iff_eq.mpr c54
               have c54b1 : (t259.toList != t263.toList) = false := bne_eq_false_iff_eq.mpr c54
               clear c54
               have H' := Aside0.mk H
               clear H
               try go_wp2
               have n0_ := Aside0.mk (Kd.R_drew HO251.out)
               have n1_ := Aside0.mk (Kd.R_drew HO257.out)
               have n2_ := Aside0.mk (blk_drew BK231.out)
               have n3_ := Aside0.mk (blk_drew BK232.out)
               have n4_ := Aside0.mk (below_drew1 HB.out)
               clear HO251
               clear HO257
               clear BK231
               clear BK232
               clear HB
               have HO251 := n0_
               have HO257 := n1_
               have BK231 := n2_
               have BK232 := n3_
               have HB := n4_
               clear n0_ n1_ n2_ n3_ n4_
               refine start_ (n := 20) (S := fun w' => w'.cell? ⟨gb231, 0, none⟩ = some (.int .i64 a1_0) ∧ w'.cell? ⟨gb231, 1, none⟩ = some (.int .i64 a1_1) ∧ w'.cell? ⟨gb231, 2, none⟩ = some (.string a1_2) ∧ w'.cell? ⟨gb232, 0, none⟩ = some (.int .i64 a2_0) ∧ w'.cell? ⟨gb232, 1, none⟩ = some (.int .i64 a2_1) ∧ w'.cell? ⟨gb232, 2, none⟩ = some (.string a2_2)) (ds := []) #[false, false, false, false, false, false, false, false, false, false, false, false, false, false, false, false, false, false, false, false] (by kernel_rfl) rfl rfl ⟨(blk_cell BK231.out 0).trans rfl, (blk_cell BK231.out 1).trans rfl, (blk_cell BK231.out 2).trans rfl, (blk_cell BK232.out 0).trans rfl, (blk_cell BK232.out 1).trans rfl, (blk_cell BK232.out 2).trans rfl⟩ (fun hHeld => ?_); refine with_tabW truantlaw18_NodeExact.tab17 truantlaw18_NodeExact.bits17 (fun HT_ HW_ => ?_)
               generalize w48.drew = w55 at HO251 HO257 BK231 BK232 HB hHeld ⊢
               refine pure_ (i := 3) (N := some 62) (v := ?_) (a' := ?_) #[false, false, false, true, false, false, false, false, false, false, false, false, false, false, false, false, false, false, false, false] rfl rfl (any_of HT_.out (by kernel_rfl)) (fun _ _ _ h => h) (Or.inl ⟨by rfl, ?_⟩) ?_ ?_
               rotate_left
               ·intro w'
                go_simp
                with_reducible rfl
               rotate_left
               ·simp only [Act.put, List.setIfInBounds_toArray, List.set_cons_zero, List.set_cons_succ, i64_w, i32_w]
                rfl
               refine take_ (i := 0) (N := some 59) (v := ?_) (a' := ?_) #[true, false, false, true, false, false, false, false, false, false, false, false, false, false, false, false, false, false, false, false] rfl rfl (take_ofW HT_.out HW_.out (by kernel_rfl)) (fun _ _ _ h => h) (Or.inl ⟨by rfl, ?_⟩) hHeld ?_ ?_
               rotate_left
               ·rintro w' ⟨s0, s1, s2, s3, s4, s5⟩
                go_simp
                with_reducible rfl
               rotate_left
               ·simp only [Act.put, List.setIfInBounds_toArray, List.set_cons_zero, List.set_cons_succ, i64_w, i32_w]
                rfl
               refine take_ (i := 1) (N := some 60) (v := ?_) (a' := ?_) #[true, true, false, true, false, false, false, false, false, false, false, false, false, false, false, false, false, false, false, false] rfl rfl (take_ofW HT_.out HW_.out (by kernel_rfl)) (fun _ _ _ h => h) (Or.inl ⟨by rfl, ?_⟩) hHeld ?_ ?_
               rotate_left
               ·rintro w' ⟨s0, s1, s2, s3, s4, s5⟩
                go_simp
                with_reducible rfl
               rotate_left
               ·simp only [Act.put, List.setIfInBounds_toArray, List.set_cons_zero, List.set_cons_succ, i64_w, i32_w]
                rfl
               refine one_ (i := 2) (N := some 61) #[true, true, true, true, false, false, false, false, false, false, false, false, false, false, false, false, false, false, false, false] rfl rfl (one_of HT_.out (by kernel_rfl)) (by decide) (fun K hK => ?_)
               refine goes_ Tryd.func12 (by kernel_rfl) rfl #[.agg #[.int .i64 a1_0, .int .i64 a1_1, .string a1_2], .agg #[.int .i64 a2_0, .int .i64 a2_1, .string a2_2]] (by rfl) rfl rfl (by (try simp only [List.map_toArray, List.map_cons, List.map_nil]); first | done | rfl | (simp only [List.length_drop, List.length_take]; rfl)) ?_
               with_reducible refine (node_Compare.calls kj32 a1_0 a1_1 a1_2 a2_0 a2_1 a2_2 t258 _ A49.out).mono ?_
               rintro e w56 ⟨rfl, hb⟩
               refine ⟨_, rfl, ?_⟩
               have n0_ := Aside0.mk (Kd.R_below (by (with_reducible repeat (first | apply Kd.R_alloc | apply Kd.R_drewN | apply Kd.R_drew)); exact HO251.out) hb)
               have n1_ := Aside0.mk (Kd.R_below (by (with_reducible repeat (first | apply Kd.R_alloc | apply Kd.R_drewN | apply Kd.R_drew)); exact HO257.out) hb)
               have n2_ := Aside0.mk (blk_below (g := gb231) (o := .cells #[.int .i64 a1_0, .int .i64 a1_1, .string a1_2] 24 (0, 0)) (by (with_reducible repeat (first | refine blk_drewN ?_ _ | refine blk_drew ?_ | refine blk_alloc ?_ _)); exact BK231.out) hb)
               have n3_ := Aside0.mk (blk_below (g := gb232) (o := .cells #[.int .i64 a2_0, .int .i64 a2_1, .string a2_2] 24 (0, 0)) (by (with_reducible repeat (first | refine blk_drewN ?_ _ | refine blk_drew ?_ | refine blk_alloc ?_ _)); exact BK232.out) hb)
               have n4_ := Aside0.mk (below_step (by repeat (first | (with_reducible first | exact HB.out | apply below_alloc | apply pw_below_drewN | apply below_drew1 | refine below_set ?_ GE231.out | refine below_set ?_ GE232.out) | exact HB.out)) hb)
               clear HO251
               clear HO257
               clear BK231
               clear BK232
               clear HB
               have HO251 := n0_
               have HO257 := n1_
               have BK231 := n2_
               have BK232 := n3_
               have HB := n4_
               clear n0_ n1_ n2_ n3_ n4_
               (try clear hb)
               (try clear hb2)
               (try clear hk)
               (try clear hi)
               refine hK.out _ _ ⟨(blk_cell BK231.out 0).trans rfl, (blk_cell BK231.out 1).trans rfl, (blk_cell BK231.out 2).trans rfl, (blk_cell BK232.out 0).trans rfl, (blk_cell BK232.out 1).trans rfl, (blk_cell BK232.out 2).trans rfl⟩ (fun hHeld => ?_)
               clear hK K
               refine norm_ (a' := ?_) ?_ ?_
               rotate_left
               ·show Act.put _ (some 61) _ = _
                simp only [Act.put, List.setIfInBounds_toArray, List.set_cons_zero, List.set_cons_succ, i64_w, i32_w]
                rfl
               refine pure_ (i := 4) (N := some 63) (v := ?_) (a' := ?_) #[true, true, true, true, true, false, false, false, false, false, false, false, false, false, false, false, false, false, false, false] rfl rfl (any_of HT_.out (by kernel_rfl)) (fun _ _ _ h => h) (Or.inl ⟨by rfl, ?_⟩) ?_ ?_
               rotate_left
               ·intro w'
                go_simp
                with_reducible rfl
               rotate_left
               ·simp only [Act.put, List.setIfInBounds_toArray, List.set_cons_zero, List.set_cons_succ, i64_w, i32_w]
                rfl
               refine pure_ (i := 5) (N := some 64) (v := ?_) (a' := ?_) #[true, true, true, true, true, true, false, false, false, false, false, false, false, false, false, false, false, false, false, false] rfl rfl (any_of HT_.out (by kernel_rfl)) (fun _ _ _ h => h) (Or.inl ⟨by rfl, ?_⟩) ?_ ?_
               rotate_left
               ·intro w'
                go_simp
                with_reducible rfl
               rotate_left
               ·simp only [Act.put, List.setIfInBounds_toArray, List.set_cons_zero, List.set_cons_succ, i64_w, i32_w]
                rfl
               refine take_ (i := 6) (N := some 65) (v := ?_) (a' := ?_) #[true, true, true, true, true, true, true, false, false, false, false, false, false, false, false, false, false, false, false, false] rfl rfl (take_ofW HT_.out HW_.out (by kernel_rfl)) (fun _ _ _ h => h) (Or.inl ⟨by rfl, ?_⟩) hHeld ?_ ?_
               rotate_left
               ·rintro w' ⟨s0, s1, s2, s3, s4, s5⟩
                go_simp
                with_reducible rfl
               rotate_left
               ·simp only [Act.put, List.setIfInBounds_toArray, List.set_cons_zero, List.set_cons_succ, i64_w, i32_w]
                rfl
               refine take_ (i := 8) (N := some 67) (v := ?_) (a' := ?_) #[true, true, true, true, true, true, true, false, true, false, false, false, false, false, false, false, false, false, false, false] rfl rfl (take_ofW HT_.out HW_.out (by kernel_rfl)) (fun _ _ _ h => h) (Or.inl ⟨by rfl, ?_⟩) hHeld ?_ ?_
               rotate_left
               ·rintro w' ⟨s0, s1, s2, s3, s4, s5⟩
                go_simp
                with_reducible rfl
               rotate_left
               ·simp only [Act.put, List.setIfInBounds_toArray, List.set_cons_zero, List.set_cons_succ, i64_w, i32_w]
                rfl
               refine one_ (i := 7) (N := some 66) #[true, true, true, true, true, true, true, true, true, false, false, false, false, false, false, false, false, false, false, false] rfl rfl (one_of HT_.out (by kernel_rfl)) (by decide) (fun K hK => ?_)
               refine goes_ Tryd.func13 (by kernel_rfl) rfl #[.agg #[.int .i64 a1_0, .int .i64 a1_1, .string a1_2]] (by rfl) rfl rfl (by (try simp only [List.map_toArray, List.map_cons, List.map_nil]); first | done | rfl | (simp only [List.length_drop, List.length_take]; rfl)) ?_
               with_reducible refine (node_Text.calls kj32 a1_0 a1_1 a1_2 t259 _ A51.out).mono ?_
               rintro e w57 ⟨rfl, hb⟩
               refine ⟨_, rfl, ?_⟩
               have n0_ := Aside0.mk (Kd.R_below (by (with_reducible repeat (first | apply Kd.R_alloc | apply Kd.R_drewN | apply Kd.R_drew)); exact HO251.out) hb)
               have n1_ := Aside0.mk (Kd.R_below (by (with_reducible repeat (first | apply Kd.R_alloc | apply Kd.R_drewN | apply Kd.R_drew)); exact HO257.out) hb)
               have n2_ := Aside0.mk (blk_below (g := gb231) (o := .cells #[.int .i64 a1_0, .int .i64 a1_1, .string a1_2] 24 (0, 0)) (by (with_reducible repeat (first | refine blk_drewN ?_ _ | refine blk_drew ?_ | refine blk_alloc ?_ _)); exact BK231.out) hb)
               have n3_ := Aside0.mk (blk_below (g := gb232) (o := .cells #[.int .i64 a2_0, .int .i64 a2_1, .string a2_2] 24 (0, 0)) (by (with_reducible repeat (first | refine blk_drewN ?_ _ | refine blk_drew ?_ | refine blk_alloc ?_ _)); exact BK232.out) hb)
               have n4_ := Aside0.mk (below_step (by repeat (first | (with_reducible first | exact HB.out | apply below_alloc | apply pw_below_drewN | apply below_drew1 | refine below_set ?_ GE231.out | refine below_set ?_ GE232.out) | exact HB.out)) hb)
               clear HO251
               clear HO257
               clear BK231
               clear BK232
               clear HB
               have HO251 := n0_
               have HO257 := n1_
               have BK231 := n2_
               have BK232 := n3_
               have HB := n4_
               clear n0_ n1_ n2_ n3_ n4_
               (try clear hb)
               (try clear hb2)
               (try clear hk)
               (try clear hi)
               refine hK.out _ _ ⟨(blk_cell BK231.out 0).trans rfl, (blk_cell BK231.out 1).trans rfl, (blk_cell BK231.out 2).trans rfl, (blk_cell BK232.out 0).trans rfl, (blk_cell BK232.out 1).trans rfl, (blk_cell BK232.out 2).trans rfl⟩ (fun hHeld => ?_)
               clear hK K
               refine norm_ (a' := ?_) ?_ ?_
               rotate_left
               ·show Act.put _ (some 66) _ = _
                simp only [Act.put, List.setIfInBounds_toArray, List.set_cons_zero, List.set_cons_succ, i64_w, i32_w]
                rfl
               refine one_ (i := 9) (N := some 68) #[true, true, true, true, true, true, true, true, true, true, false, false, false, false, false, false, false, false, false, false] rfl rfl (one_of HT_.out (by kernel_rfl)) (by decide) (fun K hK => ?_)
               refine goes_ Tryd.func9 (by kernel_rfl) rfl #[.agg #[.int .i64 a1_0, .int .i64 a1_1, .string a1_2]] (by rfl) rfl rfl (by (try simp only [List.map_toArray, List.map_cons, List.map_nil]); first | done | rfl | (simp only [List.length_drop, List.length_take]; rfl)) ?_
               with_reducible refine (truantlaw18_form.calls a1_0 a1_1 a1_2 t260 t261 t262 _ A52.out).mono ?_
               rintro e w58 ⟨rfl, hb⟩
               refine ⟨_, rfl, ?_⟩
               have n0_ := Aside0.mk (Kd.R_below (by (with_reducible repeat (first | apply Kd.R_alloc | apply Kd.R_drewN | apply Kd.R_drew)); exact HO251.out) hb)
               have n1_ := Aside0.mk (Kd.R_below (by (with_reducible repeat (first | apply Kd.R_alloc | apply Kd.R_drewN | apply Kd.R_drew)); exact HO257.out) hb)
               have n2_ := Aside0.mk (blk_below (g := gb231) (o := .cells #[.int .i64 a1_0, .int .i64 a1_1, .string a1_2] 24 (0, 0)) (by (with_reducible repeat (first | refine blk_drewN ?_ _ | refine blk_drew ?_ | refine blk_alloc ?_ _)); exact BK231.out) hb)
               have n3_ := Aside0.mk (blk_below (g := gb232) (o := .cells #[.int .i64 a2_0, .int .i64 a2_1, .string a2_2] 24 (0, 0)) (by (with_reducible repeat (first | refine blk_drewN ?_ _ | refine blk_drew ?_ | refine blk_alloc ?_ _)); exact BK232.out) hb)
               have n4_ := Aside0.mk (below_step (by repeat (first | (with_reducible first | exact HB.out | apply below_alloc | apply pw_below_drewN | apply below_drew1 | refine below_set ?_ GE231.out | refine below_set ?_ GE232.out) | exact HB.out)) hb)
               clear HO251
               clear HO257
               clear BK231
               clear BK232
               clear HB
               have HO251 := n0_
               have HO257 := n1_
               have BK231 := n2_
               have BK232 := n3_
               have HB := n4_
               clear n0_ n1_ n2_ n3_ n4_
               (try clear hb)
               (try clear hb2)
               (try clear hk)
               (try clear hi)
               refine hK.out _ _ ⟨(blk_cell BK231.out 0).trans rfl, (blk_cell BK231.out 1).trans rfl, (blk_cell BK231.out 2).trans rfl, (blk_cell BK232.out 0).trans rfl, (blk_cell BK232.out 1).trans rfl, (blk_cell BK232.out 2).trans rfl⟩ (fun hHeld => ?_)
               clear hK K
               refine norm_ (a' := ?_) ?_ ?_
               rotate_left
               ·show Act.put _ (some 68) _ = _
                simp only [Act.put, List.setIfInBounds_toArray, List.set_cons_zero, List.set_cons_succ, i64_w, i32_w]
                rfl
               refine one_ (i := 10) (N := some 69) #[true, true, true, true, true, true, true, true, true, true, true, false, false, false, false, false, false, false, false, false] rfl rfl (one_of HT_.out (by kernel_rfl)) (by decide) (fun K hK => ?_)
               refine goes_ Tryd.func14 (by kernel_rfl) rfl #[.agg #[.int .i64 t260, .int .i64 t261, .string t262]] (by rfl) rfl rfl (by (try simp only [List.map_toArray, List.map_cons, List.map_nil]); first | done | rfl | (simp only [List.length_drop, List.length_take]; rfl)) ?_
               with_reducible refine (truantref18_Text.calls kj32 t260 t261 t262 t263 _ A53.out).mono ?_
               rintro e w59 ⟨rfl, hb⟩
               refine ⟨_, rfl, ?_⟩
               have n0_ := Aside0.mk (Kd.R_below (by (with_reducible repeat (first | apply Kd.R_alloc | apply Kd.R_drewN | apply Kd.R_drew)); exact HO251.out) hb)
               have n1_ := Aside0.mk (Kd.R_below (by (with_reducible repeat (first | apply Kd.R_alloc | apply Kd.R_drewN | apply Kd.R_drew)); exact HO257.out) hb)
               have n2_ := Aside0.mk (blk_below (g := gb231) (o := .cells #[.int .i64 a1_0, .int .i64 a1_1, .string a1_2] 24 (0, 0)) (by (with_reducible repeat (first | refine blk_drewN ?_ _ | refine blk_drew ?_ | refine blk_alloc ?_ _)); exact BK231.out) hb)
               have n3_ := Aside0.mk (blk_below (g := gb232) (o := .cells #[.int .i64 a2_0, .int .i64 a2_1, .string a2_2] 24 (0, 0)) (by (with_reducible repeat (first | refine blk_drewN ?_ _ | refine blk_drew ?_ | refine blk_alloc ?_ _)); exact BK232.out) hb)
               have n4_ := Aside0.mk (below_step (by repeat (first | (with_reducible first | exact HB.out | apply below_alloc | apply pw_below_drewN | apply below_drew1 | refine below_set ?_ GE231.out | refine below_set ?_ GE232.out) | exact HB.out)) hb)
               clear HO251
               clear HO257
               clear BK231
               clear BK232
               clear HB
               have HO251 := n0_
               have HO257 := n1_
               have BK231 := n2_
               have BK232 := n3_
               have HB := n4_
               clear n0_ n1_ n2_ n3_ n4_
               (try clear hb)
               (try clear hb2)
               (try clear hk)
               (try clear hi)
               obtain ⟨Ao60, co60, eo60⟩ := Kd.R_slice HO251.out
               (first | subst eo60 | (injection eo60 with f1_ f2_ f3_; have f4_ := f1_.symm; have f5_ := f3_.symm; clear f1_ f2_ f3_; subst f4_; subst f5_))
               obtain ⟨Ao61, co61, eo61⟩ := Kd.R_slice HO257.out
               (first | subst eo61 | (injection eo61 with f1_ f2_ f3_; have f4_ := f1_.symm; have f5_ := f3_.symm; clear f1_ f2_ f3_; subst f4_; subst f5_))
               refine hK.out _ _ ⟨(blk_cell BK231.out 0).trans rfl, (blk_cell BK231.out 1).trans rfl, (blk_cell BK231.out 2).trans rfl, (blk_cell BK232.out 0).trans rfl, (blk_cell BK232.out 1).trans rfl, (blk_cell BK232.out 2).trans rfl⟩ (fun hHeld => ?_)
               clear hK K
               refine norm_ (a' := ?_) ?_ ?_
               rotate_left
               ·show Act.put _ (some 69) _ = _
                simp only [Act.put, List.setIfInBounds_toArray, List.set_cons_zero, List.set_cons_succ, i64_w, i32_w]
                rfl
               refine pure_ (i := 11) (N := some 70) (v := ?_) (a' := ?_) #[true, true, true, true, true, true, true, true, true, true, true, true, false, false, false, false, false, false, false, false] rfl rfl (any_of HT_.out (by kernel_rfl)) (fun _ _ _ h => h) (Or.inl ⟨by rfl, ?_⟩) ?_ ?_
               rotate_left
               ·intro w'
                go_simp
                with_reducible rfl
               rotate_left
               ·simp only [Act.put, List.setIfInBounds_toArray, List.set_cons_zero, List.set_cons_succ, i64_w, i32_w]
                rfl
               refine pure_ (i := 12) (N := some 71) (v := ?_) (a' := ?_) #[true, true, true, true, true, true, true, true, true, true, true, true, true, false, false, false, false, false, false, false] rfl rfl (any_of HT_.out (by kernel_rfl)) (fun _ _ _ h => h) (Or.inl ⟨by rfl, ?_⟩) ?_ ?_
               rotate_left
               ·intro w'
                go_simp
                with_reducible rfl
               rotate_left
               ·simp only [Act.put, List.setIfInBounds_toArray, List.set_cons_zero, List.set_cons_succ, i64_w, i32_w]
                rfl
               refine pure_ (i := 13) (N := some 72) (v := ?_) (a' := ?_) #[true, true, true, true, true, true, true, true, true, true, true, true, true, true, false, false, false, false, false, false] rfl rfl (any_of HT_.out (by kernel_rfl)) (fun _ _ _ h => h) (Or.inl ⟨by rfl, ?_⟩) ?_ ?_
               rotate_left
               ·intro w'
                go_simp
                with_reducible rfl
               rotate_left
               ·simp only [Act.put, List.setIfInBounds_toArray, List.set_cons_zero, List.set_cons_succ, i64_w, i32_w]
                rfl
               refine pure_ (i := 14) (N := some 73) (v := ?_) (a' := ?_) #[true, true, true, true, true, true, true, true, true, true, true, true, true, true, true, false, false, false, false, false] rfl rfl (any_of HT_.out (by kernel_rfl)) (fun _ _ _ h => h) (Or.inl ⟨by rfl, ?_⟩) ?_ ?_
               rotate_left
               ·intro w'
                go_simp
                with_reducible rfl
               rotate_left
               ·simp only [Act.put, List.setIfInBounds_toArray, List.set_cons_zero, List.set_cons_succ, i64_w, i32_w]
                rfl
               refine pure_ (i := 15) (N := some 74) (v := ?_) (a' := ?_) #[true, true, true, true, true, true, true, true, true, true, true, true, true, true, true, true, false, false, false, false] rfl rfl (any_of HT_.out (by kernel_rfl)) (fun _ _ _ h => h) (Or.inl ⟨by rfl, ?_⟩) ?_ ?_
               rotate_left
               ·intro w'
                go_simp
                with_reducible rfl
               rotate_left
               ·simp only [Act.put, List.setIfInBounds_toArray, List.set_cons_zero, List.set_cons_succ, i64_w, i32_w]
                rfl
               refine pure_ (i := 16) (N := some 75) (v := ?_) (a' := ?_) #[true, true, true, true, true, true, true, true, true, true, true, true, true, true, true, true, true, false, false, false] rfl rfl (any_of HT_.out (by kernel_rfl)) (fun _ _ _ h => h) (Or.inl ⟨by rfl, ?_⟩) ?_ ?_
               rotate_left
               ·intro w'
                go_simp
                with_reducible rfl
               rotate_left
               ·simp only [Act.put, List.setIfInBounds_toArray, List.set_cons_zero, List.set_cons_succ, i64_w, i32_w]
                rfl
               refine pure_ (i := 17) (N := some 76) (v := ?_) (a' := ?_) #[true, true, true, true, true, true, true, true, true, true, true, true, true, true, true, true, true, true, false, false] rfl rfl (any_of HT_.out (by kernel_rfl)) (fun _ _ _ h => h) (Or.inl ⟨by rfl, ?_⟩) ?_ ?_
               rotate_left
               ·intro w'
                go_simp
                with_reducible rfl
               rotate_left
               ·simp only [Act.put, List.setIfInBounds_toArray, List.set_cons_zero, List.set_cons_succ, i64_w, i32_w]
                rfl
               refine pure_ (i := 18) (N := some 77) (v := ?_) (a' := ?_) #[true, true, true, true, true, true, true, true, true, true, true, true, true, true, true, true, true, true, true, false] rfl rfl (any_of HT_.out (by kernel_rfl)) (fun _ _ _ h => h) (Or.inl ⟨by rfl, ?_⟩) ?_ ?_
               rotate_left
               ·intro w'
                go_simp
                with_reducible rfl
               rotate_left
               ·simp only [Act.put, List.setIfInBounds_toArray, List.set_cons_zero, List.set_cons_succ, i64_w, i32_w]
                rfl
               refine pure_ (i := 19) (N := some 78) (v := ?_) (a' := ?_) #[true, true, true, true, true, true, true, true, true, true, true, true, true, true, true, true, true, true, true, true] rfl rfl (any_of HT_.out (by kernel_rfl)) (fun _ _ _ h => h) (Or.inl ⟨by rfl, ?_⟩) ?_ ?_
               rotate_left
               ·intro w'
                go_simp
                with_reducible rfl
               rotate_left
               ·simp only [Act.put, List.setIfInBounds_toArray, List.set_cons_zero, List.set_cons_succ, i64_w, i32_w]
                rfl
               refine done_ (done_of HT_.out (by kernel_rfl)) ?_
               try go_wp2
               go_meet
               case rel => exact ⟨_, (((t249.length : Int) != (t255.length : Int))), (by first | rfl | (simp; done) | (simp [*]; done)), H', ⟨by have := HJ5.out; have := HK2.out; have := HJ23.out; have := HJ32.out; first | omega | exact Nat.le_refl _⟩, ⟨by (with_reducible repeat (first | apply Kd.R_alloc | apply Kd.R_drewN | apply Kd.R_drew)); exact HO251.out⟩, ⟨by (with_reducible repeat (first | apply Kd.R_alloc | apply Kd.R_drewN | apply Kd.R_drew)); exact HO257.out⟩, ⟨by (with_reducible repeat (first | refine blk_drewN ?_ _ | refine blk_drew ?_ | refine blk_alloc ?_ _)); exact BK231.out⟩, ⟨by (with_reducible repeat (first | refine blk_drewN ?_ _ | refine blk_drew ?_ | refine blk_alloc ?_ _)); exact BK232.out⟩, ⟨by repeat (first | (with_reducible first | exact HB.out | apply below_alloc | apply pw_below_drewN | apply below_drew1 | refine below_set ?_ GE231.out | refine below_set ?_ GE232.out) | exact HB.out)⟩⟩
              ·rw [if_neg c54] at H
               have c54b0 : (t259.toList == t263.toList) = false := beq_eq_false_iff_ne.mpr c54
               have c54b1 : (t259.toList != t263.toList) = true := bne_iff_ne.mpr c54
               have H' := Aside0.mk H
               clear H
               try go_wp2
               have n0_ := Aside0.mk (Kd.R_drew HO251.out)
               have n1_ := Aside0.mk (Kd.R_drew HO257.out)
               have n2_ := Aside0.mk (blk_drew BK231.out)
               have n3_ := Aside0.mk (blk_drew BK232.out)
               have n4_ := Aside0.mk (below_drew1 HB.out)
               clear HO251
               clear HO257
               clear BK231
               clear BK232
               clear HB
               have HO251 := n0_
               have HO257 := n1_
               have BK231 := n2_
               have BK232 := n3_
               have HB := n4_
               clear n0_ n1_ n2_ n3_ n4_
               refine start_ (n := 20) (S := fun w' => w'.cell? ⟨gb231, 0, none⟩ = some (.int .i64 a1_0) ∧ w'.cell? ⟨gb231, 1, none⟩ = some (.int .i64 a1_1) ∧ w'.cell? ⟨gb231, 2, none⟩ = some (.string a1_2) ∧ w'.cell? ⟨gb232, 0, none⟩ = some (.int .i64 a2_0) ∧ w'.cell? ⟨gb232, 1, none⟩ = some (.int .i64 a2_1) ∧ w'.cell? ⟨gb232, 2, none⟩ = some (.string a2_2)) (ds := []) #[false, false, false, false, false, false, false, false, false, false, false, false, false, false, false, false, false, false, false, false] (by kernel_rfl) rfl rfl ⟨(blk_cell BK231.out 0).trans rfl, (blk_cell BK231.out 1).trans rfl, (blk_cell BK231.out 2).trans rfl, (blk_cell BK232.out 0).trans rfl, (blk_cell BK232.out 1).trans rfl, (blk_cell BK232.out 2).trans rfl⟩ (fun hHeld => ?_); refine with_tabW truantlaw18_NodeExact.tab17 truantlaw18_NodeExact.bits17 (fun HT_ HW_ => ?_)
               generalize w48.drew = w62 at HO251 HO257 BK231 BK232 HB hHeld ⊢
               refine pure_ (i := 3) (N := some 62) (v := ?_) (a' := ?_) #[false, false, false, true, false, false, false, false, false, false, false, false, false, false, false, false, false, false, false, false] rfl rfl (any_of HT_.out (by kernel_rfl)) (fun _ _ _ h => h) (Or.inl ⟨by rfl, ?_⟩) ?_ ?_
               rotate_left
               ·intro w'
                go_simp
                with_reducible rfl
               rotate_left
               ·simp only [Act.put, List.setIfInBounds_toArray, List.set_cons_zero, List.set_cons_succ, i64_w, i32_w]
                rfl
               refine take_ (i := 0) (N := some 59) (v := ?_) (a' := ?_) #[true, false, false, true, false, false, false, false, false, false, false, false, false, false, false, false, false, false, false, false] rfl rfl (take_ofW HT_.out HW_.out (by kernel_rfl)) (fun _ _ _ h => h) (Or.inl ⟨by rfl, ?_⟩) hHeld ?_ ?_
               rotate_left
               ·rintro w' ⟨s0, s1, s2, s3, s4, s5⟩
                go_simp
                with_reducible rfl
               rotate_left
               ·simp only [Act.put, List.setIfInBounds_toArray, List.set_cons_zero, List.set_cons_succ, i64_w, i32_w]
                rfl
               refine take_ (i := 1) (N := some 60) (v := ?_) (a' := ?_) #[true, true, false, true, false, false, false, false, false, false, false, false, false, false, false, false, false, false, false, false] rfl rfl (take_ofW HT_.out HW_.out (by kernel_rfl)) (fun _ _ _ h => h) (Or.inl ⟨by rfl, ?_⟩) hHeld ?_ ?_
               rotate_left
               ·rintro w' ⟨s0, s1, s2, s3, s4, s5⟩
                go_simp
                with_reducible rfl
               rotate_left
               ·simp only [Act.put, List.setIfInBounds_toArray, List.set_cons_zero, List.set_cons_succ, i64_w, i32_w]
                rfl
               refine one_ (i := 2) (N := some 61) #[true, true, true, true, false, false, false, false, false, false, false, false, false, false, false, false, false, false, false, false] rfl rfl (one_of HT_.out (by kernel_rfl)) (by decide) (fun K hK => ?_)
               refine goes_ Tryd.func12 (by kernel_rfl) rfl #[.agg #[.int .i64 a1_0, .int .i64 a1_1, .string a1_2], .agg #[.int .i64 a2_0, .int .i64 a2_1, .string a2_2]] (by rfl) rfl rfl (by (try simp only [List.map_toArray, List.map_cons, List.map_nil]); first | done | rfl | (simp only [List.length_drop, List.length_take]; rfl)) ?_
               with_reducible refine (node_Compare.calls kj32 a1_0 a1_1 a1_2 a2_0 a2_1 a2_2 t258 _ A49.out).mono ?_
               rintro e w63 ⟨rfl, hb⟩
               refine ⟨_, rfl, ?_⟩
               have n0_ := Aside0.mk (Kd.R_below (by (with_reducible repeat (first | apply Kd.R_alloc | apply Kd.R_drewN | apply Kd.R_drew)); exact HO251.out) hb)
               have n1_ := Aside0.mk (Kd.R_below (by (with_reducible repeat (first | apply Kd.R_alloc | apply Kd.R_drewN | apply Kd.R_drew)); exact HO257.out) hb)
               have n2_ := Aside0.mk (blk_below (g := gb231) (o := .cells #[.int .i64 a1_0, .int .i64 a1_1, .string a1_2] 24 (0, 0)) (by (with_reducible repeat (first | refine blk_drewN ?_ _ | refine blk_drew ?_ | refine blk_alloc ?_ _)); exact BK231.out) hb)
               have n3_ := Aside0.mk (blk_below (g := gb232) (o := .cells #[.int .i64 a2_0, .int .i64 a2_1, .string a2_2] 24 (0, 0)) (by (with_reducible repeat (first | refine blk_drewN ?_ _ | refine blk_drew ?_ | refine blk_alloc ?_ _)); exact BK232.out) hb)
               have n4_ := Aside0.mk (below_step (by repeat (first | (with_reducible first | exact HB.out | apply below_alloc | apply pw_below_drewN | apply below_drew1 | refine below_set ?_ GE231.out | refine below_set ?_ GE232.out) | exact HB.out)) hb)
               clear HO251
               clear HO257
               clear BK231
               clear BK232
               clear HB
               have HO251 := n0_
               have HO257 := n1_
               have BK231 := n2_
               have BK232 := n3_
               have HB := n4_
               clear n0_ n1_ n2_ n3_ n4_
               (try clear hb)
               (try clear hb2)
               (try clear hk)
               (try clear hi)
               refine hK.out _ _ ⟨(blk_cell BK231.out 0).trans rfl, (blk_cell BK231.out 1).trans rfl, (blk_cell BK231.out 2).trans rfl, (blk_cell BK232.out 0).trans rfl, (blk_cell BK232.out 1).trans rfl, (blk_cell BK232.out 2).trans rfl⟩ (fun hHeld => ?_)
               clear hK K
               refine norm_ (a' := ?_) ?_ ?_
               rotate_left
               ·show Act.put _ (some 61) _ = _
                simp only [Act.put, List.setIfInBounds_toArray, List.set_cons_zero, List.set_cons_succ, i64_w, i32_w]
                rfl
               refine pure_ (i := 4) (N := some 63) (v := ?_) (a' := ?_) #[true, true, true, true, true, false, false, false, false, false, false, false, false, false, false, false, false, false, false, false] rfl rfl (any_of HT_.out (by kernel_rfl)) (fun _ _ _ h => h) (Or.inl ⟨by rfl, ?_⟩) ?_ ?_
               rotate_left
               ·intro w'
                go_simp
                with_reducible rfl
               rotate_left
               ·simp only [Act.put, List.setIfInBounds_toArray, List.set_cons_zero, List.set_cons_succ, i64_w, i32_w]
                rfl
               refine pure_ (i := 5) (N := some 64) (v := ?_) (a' := ?_) #[true, true, true, true, true, true, false, false, false, false, false, false, false, false, false, false, false, false, false, false] rfl rfl (any_of HT_.out (by kernel_rfl)) (fun _ _ _ h => h) (Or.inl ⟨by rfl, ?_⟩) ?_ ?_
               rotate_left
               ·intro w'
                go_simp
                with_reducible rfl
               rotate_left
               ·simp only [Act.put, List.setIfInBounds_toArray, List.set_cons_zero, List.set_cons_succ, i64_w, i32_w]
                rfl
               refine take_ (i := 6) (N := some 65) (v := ?_) (a' := ?_) #[true, true, true, true, true, true, true, false, false, false, false, false, false, false, false, false, false, false, false, false] rfl rfl (take_ofW HT_.out HW_.out (by kernel_rfl)) (fun _ _ _ h => h) (Or.inl ⟨by rfl, ?_⟩) hHeld ?_ ?_
               rotate_left
               ·rintro w' ⟨s0, s1, s2, s3, s4, s5⟩
                go_simp
                with_reducible rfl
               rotate_left
               ·simp only [Act.put, List.setIfInBounds_toArray, List.set_cons_zero, List.set_cons_succ, i64_w, i32_w]
                rfl
               refine take_ (i := 8) (N := some 67) (v := ?_) (a' := ?_) #[true, true, true, true, true, true, true, false, true, false, false, false, false, false, false, false, false, false, false, false] rfl rfl (take_ofW HT_.out HW_.out (by kernel_rfl)) (fun _ _ _ h => h) (Or.inl ⟨by rfl, ?_⟩) hHeld ?_ ?_
               rotate_left
               ·rintro w' ⟨s0, s1, s2, s3, s4, s5⟩
                go_simp
                with_reducible rfl
               rotate_left
               ·simp only [Act.put, List.setIfInBounds_toArray, List.set_cons_zero, List.set_cons_succ, i64_w, i32_w]
                rfl
               refine one_ (i := 7) (N := some 66) #[true, true, true, true, true, true, true, true, true, false, false, false, false, false, false, false, false, false, false, false] rfl rfl (one_of HT_.out (by kernel_rfl)) (by decide) (fun K hK => ?_)
               refine goes_ Tryd.func13 (by kernel_rfl) rfl #[.agg #[.int .i64 a1_0, .int .i64 a1_1, .string a1_2]] (by rfl) rfl rfl (by (try simp only [List.map_toArray, List.map_cons, List.map_nil]); first | done | rfl | (simp only [List.length_drop, List.length_take]; rfl)) ?_
               with_reducible refine (node_Text.calls kj32 a1_0 a1_1 a1_2 t259 _ A51.out).mono ?_
               rintro e w64 ⟨rfl, hb⟩
               refine ⟨_, rfl, ?_⟩
               have n0_ := Aside0.mk (Kd.R_below (by (with_reducible repeat (first | apply Kd.R_alloc | apply Kd.R_drewN | apply Kd.R_drew)); exact HO251.out) hb)
               have n1_ := Aside0.mk (Kd.R_below (by (with_reducible repeat (first | apply Kd.R_alloc | apply Kd.R_drewN | apply Kd.R_drew)); exact HO257.out) hb)
               have n2_ := Aside0.mk (blk_below (g := gb231) (o := .cells #[.int .i64 a1_0, .int .i64 a1_1, .string a1_2] 24 (0, 0)) (by (with_reducible repeat (first | refine blk_drewN ?_ _ | refine blk_drew ?_ | refine blk_alloc ?_ _)); exact BK231.out) hb)
               have n3_ := Aside0.mk (blk_below (g := gb232) (o := .cells #[.int .i64 a2_0, .int .i64 a2_1, .string a2_2] 24 (0, 0)) (by (with_reducible repeat (first | refine blk_drewN ?_ _ | refine blk_drew ?_ | refine blk_alloc ?_ _)); exact BK232.out) hb)
               have n4_ := Aside0.mk (below_step (by repeat (first | (with_reducible first | exact HB.out | apply below_alloc | apply pw_below_drewN | apply below_drew1 | refine below_set ?_ GE231.out | refine below_set ?_ GE232.out) | exact HB.out)) hb)
               clear HO251
               clear HO257
               clear BK231
               clear BK232
               clear HB
               have HO251 := n0_
               have HO257 := n1_
               have BK231 := n2_
               have BK232 := n3_
               have HB := n4_
               clear n0_ n1_ n2_ n3_ n4_
               (try clear hb)
               (try clear hb2)
               (try clear hk)
               (try clear hi)
               refine hK.out _ _ ⟨(blk_cell BK231.out 0).trans rfl, (blk_cell BK231.out 1).trans rfl, (blk_cell BK231.out 2).trans rfl, (blk_cell BK232.out 0).trans rfl, (blk_cell BK232.out 1).trans rfl, (blk_cell BK232.out 2).trans rfl⟩ (fun hHeld => ?_)
               clear hK K
               refine norm_ (a' := ?_) ?_ ?_
               rotate_left
               ·show Act.put _ (some 66) _ = _
                simp only [Act.put, List.setIfInBounds_toArray, List.set_cons_zero, List.set_cons_succ, i64_w, i32_w]
                rfl
               refine one_ (i := 9) (N := some 68) #[true, true, true, true, true, true, true, true, true, true, false, false, false, false, false, false, false, false, false, false] rfl rfl (one_of HT_.out (by kernel_rfl)) (by decide) (fun K hK => ?_)
               refine goes_ Tryd.func9 (by kernel_rfl) rfl #[.agg #[.int .i64 a1_0, .int .i64 a1_1, .string a1_2]] (by rfl) rfl rfl (by (try simp only [List.map_toArray, List.map_cons, List.map_nil]); first | done | rfl | (simp only [List.length_drop, List.length_take]; rfl)) ?_
               with_reducible refine (truantlaw18_form.calls a1_0 a1_1 a1_2 t260 t261 t262 _ A52.out).mono ?_
               rintro e w65 ⟨rfl, hb⟩
               refine ⟨_, rfl, ?_⟩
               have n0_ := Aside0.mk (Kd.R_below (by (with_reducible repeat (first | apply Kd.R_alloc | apply Kd.R_drewN | apply Kd.R_drew)); exact HO251.out) hb)
               have n1_ := Aside0.mk (Kd.R_below (by (with_reducible repeat (first | apply Kd.R_alloc | apply Kd.R_drewN | apply Kd.R_drew)); exact HO257.out) hb)
               have n2_ := Aside0.mk (blk_below (g := gb231) (o := .cells #[.int .i64 a1_0, .int .i64 a1_1, .string a1_2] 24 (0, 0)) (by (with_reducible repeat (first | refine blk_drewN ?_ _ | refine blk_drew ?_ | refine blk_alloc ?_ _)); exact BK231.out) hb)
               have n3_ := Aside0.mk (blk_below (g := gb232) (o := .cells #[.int .i64 a2_0, .int .i64 a2_1, .string a2_2] 24 (0, 0)) (by (with_reducible repeat (first | refine blk_drewN ?_ _ | refine blk_drew ?_ | refine blk_alloc ?_ _)); exact BK232.out) hb)
               have n4_ := Aside0.mk (below_step (by repeat (first | (with_reducible first | exact HB.out | apply below_alloc | apply pw_below_drewN | apply below_drew1 | refine below_set ?_ GE231.out | refine below_set ?_ GE232.out) | exact HB.out)) hb)
               clear HO251
               clear HO257
               clear BK231
               clear BK232
               clear HB
               have HO251 := n0_
               have HO257 := n1_
               have BK231 := n2_
               have BK232 := n3_
               have HB := n4_
               clear n0_ n1_ n2_ n3_ n4_
               (try clear hb)
               (try clear hb2)
               (try clear hk)
               (try clear hi)
               refine hK.out _ _ ⟨(blk_cell BK231.out 0).trans rfl, (blk_cell BK231.out 1).trans rfl, (blk_cell BK231.out 2).trans rfl, (blk_cell BK232.out 0).trans rfl, (blk_cell BK232.out 1).trans rfl, (blk_cell BK232.out 2).trans rfl⟩ (fun hHeld => ?_)
               clear hK K
               refine norm_ (a' := ?_) ?_ ?_
               rotate_left
               ·show Act.put _ (some 68) _ = _
                simp only [Act.put, List.setIfInBounds_toArray, List.set_cons_zero, List.set_cons_succ, i64_w, i32_w]
                rfl
               refine one_ (i := 10) (N := some 69) #[true, true, true, true, true, true, true, true, true, true, true, false, false, false, false, false, false, false, false, false] rfl rfl (one_of HT_.out (by kernel_rfl)) (by decide) (fun K hK => ?_)
               refine goes_ Tryd.func14 (by kernel_rfl) rfl #[.agg #[.int .i64 t260, .int .i64 t261, .string t262]] (by rfl) rfl rfl (by (try simp only [List.map_toArray, List.map_cons, List.map_nil]); first | done | rfl | (simp only [List.length_drop, List.length_take]; rfl)) ?_
               with_reducible refine (truantref18_Text.calls kj32 t260 t261 t262 t263 _ A53.out).mono ?_
               rintro e w66 ⟨rfl, hb⟩
               refine ⟨_, rfl, ?_⟩
               have n0_ := Aside0.mk (Kd.R_below (by (with_reducible repeat (first | apply Kd.R_alloc | apply Kd.R_drewN | apply Kd.R_drew)); exact HO251.out) hb)
               have n1_ := Aside0.mk (Kd.R_below (by (with_reducible repeat (first | apply Kd.R_alloc | apply Kd.R_drewN | apply Kd.R_drew)); exact HO257.out) hb)
               have n2_ := Aside0.mk (blk_below (g := gb231) (o := .cells #[.int .i64 a1_0, .int .i64 a1_1, .string a1_2] 24 (0, 0)) (by (with_reducible repeat (first | refine blk_drewN ?_ _ | refine blk_drew ?_ | refine blk_alloc ?_ _)); exact BK231.out) hb)
               have n3_ := Aside0.mk (blk_below (g := gb232) (o := .cells #[.int .i64 a2_0, .int .i64 a2_1, .string a2_2] 24 (0, 0)) (by (with_reducible repeat (first | refine blk_drewN ?_ _ | refine blk_drew ?_ | refine blk_alloc ?_ _)); exact BK232.out) hb)
               have n4_ := Aside0.mk (below_step (by repeat (first | (with_reducible first | exact HB.out | apply below_alloc | apply pw_below_drewN | apply below_drew1 | refine below_set ?_ GE231.out | refine below_set ?_ GE232.out) | exact HB.out)) hb)
               clear HO251
               clear HO257
               clear BK231
               clear BK232
               clear HB
               have HO251 := n0_
               have HO257 := n1_
               have BK231 := n2_
               have BK232 := n3_
               have HB := n4_
               clear n0_ n1_ n2_ n3_ n4_
               (try clear hb)
               (try clear hb2)
               (try clear hk)
               (try clear hi)
               refine hK.out _ _ ⟨(blk_cell BK231.out 0).trans rfl, (blk_cell BK231.out 1).trans rfl, (blk_cell BK231.out 2).trans rfl, (blk_cell BK232.out 0).trans rfl, (blk_cell BK232.out 1).trans rfl, (blk_cell BK232.out 2).trans rfl⟩ (fun hHeld => ?_)
               clear hK K
               refine norm_ (a' := ?_) ?_ ?_
               rotate_left
               ·show Act.put _ (some 69) _ = _
                simp only [Act.put, List.setIfInBounds_toArray, List.set_cons_zero, List.set_cons_succ, i64_w, i32_w]
                rfl
               refine pure_ (i := 11) (N := some 70) (v := ?_) (a' := ?_) #[true, true, true, true, true, true, true, true, true, true, true, true, false, false, false, false, false, false, false, false] rfl rfl (any_of HT_.out (by kernel_rfl)) (fun _ _ _ h => h) (Or.inl ⟨by rfl, ?_⟩) ?_ ?_
               rotate_left
               ·intro w'
                go_simp
                with_reducible rfl
               rotate_left
               ·simp only [Act.put, List.setIfInBounds_toArray, List.set_cons_zero, List.set_cons_succ, i64_w, i32_w]
                rfl
               refine pure_ (i := 12) (N := some 71) (v := ?_) (a' := ?_) #[true, true, true, true, true, true, true, true, true, true, true, true, true, false, false, false, false, false, false, false] rfl rfl (any_of HT_.out (by kernel_rfl)) (fun _ _ _ h => h) (Or.inl ⟨by rfl, ?_⟩) ?_ ?_
               rotate_left
               ·intro w'
                go_simp
                with_reducible rfl
               rotate_left
               ·simp only [Act.put, List.setIfInBounds_toArray, List.set_cons_zero, List.set_cons_succ, i64_w, i32_w]
                rfl
               refine pure_ (i := 13) (N := some 72) (v := ?_) (a' := ?_) #[true, true, true, true, true, true, true, true, true, true, true, true, true, true, false, false, false, false, false, false] rfl rfl (any_of HT_.out (by kernel_rfl)) (fun _ _ _ h => h) (Or.inl ⟨by rfl, ?_⟩) ?_ ?_
               rotate_left
               ·intro w'
                go_simp
                with_reducible rfl
               rotate_left
               ·simp only [Act.put, List.setIfInBounds_toArray, List.set_cons_zero, List.set_cons_succ, i64_w, i32_w]
                rfl
               refine pure_ (i := 14) (N := some 73) (v := undef) (a' := ?_) #[true, true, true, true, true, true, true, true, true, true, true, true, true, true, true, false, false, false, false, false] rfl rfl (any_of HT_.out (by kernel_rfl)) (fun _ _ _ h => h) (Or.inr ⟨by rfl, rfl⟩) ?_ ?_
               rotate_left
               ·simp only [Act.put, List.setIfInBounds_toArray, List.set_cons_zero, List.set_cons_succ, i64_w, i32_w]
                rfl
               refine pure_ (i := 15) (N := some 74) (v := undef) (a' := ?_) #[true, true, true, true, true, true, true, true, true, true, true, true, true, true, true, true, false, false, false, false] rfl rfl (any_of HT_.out (by kernel_rfl)) (fun _ _ _ h => h) (Or.inr ⟨by rfl, rfl⟩) ?_ ?_
               rotate_left
               ·simp only [Act.put, List.setIfInBounds_toArray, List.set_cons_zero, List.set_cons_succ, i64_w, i32_w]
                rfl
               refine pure_ (i := 16) (N := some 75) (v := undef) (a' := ?_) #[true, true, true, true, true, true, true, true, true, true, true, true, true, true, true, true, true, false, false, false] rfl rfl (any_of HT_.out (by kernel_rfl)) (fun _ _ _ h => h) (Or.inr ⟨by rfl, rfl⟩) ?_ ?_
               rotate_left
               ·simp only [Act.put, List.setIfInBounds_toArray, List.set_cons_zero, List.set_cons_succ, i64_w, i32_w]
                rfl
               refine pure_ (i := 17) (N := some 76) (v := undef) (a' := ?_) #[true, true, true, true, true, true, true, true, true, true, true, true, true, true, true, true, true, true, false, false] rfl rfl (any_of HT_.out (by kernel_rfl)) (fun _ _ _ h => h) (Or.inr ⟨by rfl, rfl⟩) ?_ ?_
               rotate_left
               ·simp only [Act.put, List.setIfInBounds_toArray, List.set_cons_zero, List.set_cons_succ, i64_w, i32_w]
                rfl
               refine pure_ (i := 18) (N := some 77) (v := undef) (a' := ?_) #[true, true, true, true, true, true, true, true, true, true, true, true, true, true, true, true, true, true, true, false] rfl rfl (any_of HT_.out (by kernel_rfl)) (fun _ _ _ h => h) (Or.inr ⟨by rfl, rfl⟩) ?_ ?_
               rotate_left
               ·simp only [Act.put, List.setIfInBounds_toArray, List.set_cons_zero, List.set_cons_succ, i64_w, i32_w]
                rfl
               refine pure_ (i := 19) (N := some 78) (v := ?_) (a' := ?_) #[true, true, true, true, true, true, true, true, true, true, true, true, true, true, true, true, true, true, true, true] rfl rfl (any_of HT_.out (by kernel_rfl)) (fun _ _ _ h => h) (Or.inl ⟨by rfl, ?_⟩) ?_ ?_
               rotate_left
               ·intro w'
                go_simp
                with_reducible rfl
               rotate_left
               ·simp only [Act.put, List.setIfInBounds_toArray, List.set_cons_zero, List.set_cons_succ, i64_w, i32_w]
                rfl
               refine done_ (done_of HT_.out (by kernel_rfl)) ?_
               try go_wp2
               go_meet
               case rel => exact ⟨_, (true), (by first | rfl | (simp; done) | (simp [*]; done)), H', ⟨by have := HJ5.out; have := HK2.out; have := HJ23.out; have := HJ32.out; first | omega | exact Nat.le_refl _⟩, ⟨by (with_reducible repeat (first | apply Kd.R_alloc | apply Kd.R_drewN | apply Kd.R_drew)); exact HO251.out⟩, ⟨by (with_reducible repeat (first | apply Kd.R_alloc | apply Kd.R_drewN | apply Kd.R_drew)); exact HO257.out⟩, ⟨by (with_reducible repeat (first | refine blk_drewN ?_ _ | refine blk_drew ?_ | refine blk_alloc ?_ _)); exact BK231.out⟩, ⟨by (with_reducible repeat (first | refine blk_drewN ?_ _ | refine blk_drew ?_ | refine blk_alloc ?_ _)); exact BK232.out⟩, ⟨by repeat (first | (with_reducible first | exact HB.out | apply below_alloc | apply pw_below_drewN | apply below_drew1 | refine below_set ?_ GE231.out | refine below_set ?_ GE232.out) | exact HB.out)⟩⟩
             ·rw [if_neg c50] at H
              have c50b0 : (t258 == x8_32) = false := beq_eq_false_iff_ne.mpr c50
              have c50b1 : (t258 != x8_32) = true := bne_iff_ne.mpr c50
              (first | rw [c50b0] | rw [c50b1] | rw [c50b4] | (simp only [i64_w, i32_w]; rw [c50b0]) | skip)
              have H' := Aside0.mk H
              clear H
              try go_wp2
              have n0_ := Aside0.mk (Kd.R_drew HO251.out)
              have n1_ := Aside0.mk (Kd.R_drew HO257.out)
              have n2_ := Aside0.mk (blk_drew BK231.out)
              have n3_ := Aside0.mk (blk_drew BK232.out)
              have n4_ := Aside0.mk (below_drew1 HB.out)
              clear HO251
              clear HO257
              clear BK231
              clear BK232
              clear HB
              have HO251 := n0_
              have HO257 := n1_
              have BK231 := n2_
              have BK232 := n3_
              have HB := n4_
              clear n0_ n1_ n2_ n3_ n4_
              refine start_ (n := 20) (S := fun w' => w'.cell? ⟨gb231, 0, none⟩ = some (.int .i64 a1_0) ∧ w'.cell? ⟨gb231, 1, none⟩ = some (.int .i64 a1_1) ∧ w'.cell? ⟨gb231, 2, none⟩ = some (.string a1_2) ∧ w'.cell? ⟨gb232, 0, none⟩ = some (.int .i64 a2_0) ∧ w'.cell? ⟨gb232, 1, none⟩ = some (.int .i64 a2_1) ∧ w'.cell? ⟨gb232, 2, none⟩ = some (.string a2_2)) (ds := []) #[false, false, false, false, false, false, false, false, false, false, false, false, false, false, false, false, false, false, false, false] (by kernel_rfl) rfl rfl ⟨(blk_cell BK231.out 0).trans rfl, (blk_cell BK231.out 1).trans rfl, (blk_cell BK231.out 2).trans rfl, (blk_cell BK232.out 0).trans rfl, (blk_cell BK232.out 1).trans rfl, (blk_cell BK232.out 2).trans rfl⟩ (fun hHeld => ?_); refine with_tabW truantlaw18_NodeExact.tab17 truantlaw18_NodeExact.bits17 (fun HT_ HW_ => ?_)
              generalize w48.drew = w67 at HO251 HO257 BK231 BK232 HB hHeld ⊢
              refine pure_ (i := 3) (N := some 62) (v := ?_) (a' := ?_) #[false, false, false, true, false, false, false, false, false, false, false, false, false, false, false, false, false, false, false, false] rfl rfl (any_of HT_.out (by kernel_rfl)) (fun _ _ _ h => h) (Or.inl ⟨by rfl, ?_⟩) ?_ ?_
              rotate_left
              ·intro w'
               go_simp
               with_reducible rfl
              rotate_left
              ·simp only [Act.put, List.setIfInBounds_toArray, List.set_cons_zero, List.set_cons_succ, i64_w, i32_w]
               rfl
              refine take_ (i := 0) (N := some 59) (v := ?_) (a' := ?_) #[true, false, false, true, false, false, false, false, false, false, false, false, false, false, false, false, false, false, false, false] rfl rfl (take_ofW HT_.out HW_.out (by kernel_rfl)) (fun _ _ _ h => h) (Or.inl ⟨by rfl, ?_⟩) hHeld ?_ ?_
              rotate_left
              ·rintro w' ⟨s0, s1, s2, s3, s4, s5⟩
               go_simp
               with_reducible rfl
              rotate_left
              ·simp only [Act.put, List.setIfInBounds_toArray, List.set_cons_zero, List.set_cons_succ, i64_w, i32_w]
               rfl
              refine take_ (i := 1) (N := some 60) (v := ?_) (a' := ?_) #[true, true, false, true, false, false, false, false, false, false, false, false, false, false, false, false, false, false, false, false] rfl rfl (take_ofW HT_.out HW_.out (by kernel_rfl)) (fun _ _ _ h => h) (Or.inl ⟨by rfl, ?_⟩) hHeld ?_ ?_
              rotate_left
              ·rintro w' ⟨s0, s1, s2, s3, s4, s5⟩
               go_simp
               with_reducible rfl
              rotate_left
              ·simp only [Act.put, List.setIfInBounds_toArray, List.set_cons_zero, List.set_cons_succ, i64_w, i32_w]
               rfl
              refine one_ (i := 2) (N := some 61) #[true, true, true, true, false, false, false, false, false, false, false, false, false, false, false, false, false, false, false, false] rfl rfl (one_of HT_.out (by kernel_rfl)) (by decide) (fun K hK => ?_)
              refine goes_ Tryd.func12 (by kernel_rfl) rfl #[.agg #[.int .i64 a1_0, .int .i64 a1_1, .string a1_2], .agg #[.int .i64 a2_0, .int .i64 a2_1, .string a2_2]] (by rfl) rfl rfl (by (try simp only [List.map_toArray, List.map_cons, List.map_nil]); first | done | rfl | (simp only [List.length_drop, List.length_take]; rfl)) ?_
              with_reducible refine (node_Compare.calls kj32 a1_0 a1_1 a1_2 a2_0 a2_1 a2_2 t258 _ A49.out).mono ?_
              rintro e w68 ⟨rfl, hb⟩
              refine ⟨_, rfl, ?_⟩
              have n0_ := Aside0.mk (Kd.R_below (by (with_reducible repeat (first | apply Kd.R_alloc | apply Kd.R_drewN | apply Kd.R_drew)); exact HO251.out) hb)
              have n1_ := Aside0.mk (Kd.R_below (by (with_reducible repeat (first | apply Kd.R_alloc | apply Kd.R_drewN | apply Kd.R_drew)); exact HO257.out) hb)
              have n2_ := Aside0.mk (blk_below (g := gb231) (o := .cells #[.int .i64 a1_0, .int .i64 a1_1, .string a1_2] 24 (0, 0)) (by (with_reducible repeat (first | refine blk_drewN ?_ _ | refine blk_drew ?_ | refine blk_alloc ?_ _)); exact BK231.out) hb)
              have n3_ := Aside0.mk (blk_below (g := gb232) (o := .cells #[.int .i64 a2_0, .int .i64 a2_1, .string a2_2] 24 (0, 0)) (by (with_reducible repeat (first | refine blk_drewN ?_ _ | refine blk_drew ?_ | refine blk_alloc ?_ _)); exact BK232.out) hb)
              have n4_ := Aside0.mk (below_step (by repeat (first | (with_reducible first | exact HB.out | apply below_alloc | apply pw_below_drewN | apply below_drew1 | refine below_set ?_ GE231.out | refine below_set ?_ GE232.out) | exact HB.out)) hb)
              clear HO251
              clear HO257
              clear BK231
              clear BK232
              clear HB
              have HO251 := n0_
              have HO257 := n1_
              have BK231 := n2_
              have BK232 := n3_
              have HB := n4_
              clear n0_ n1_ n2_ n3_ n4_
              (try clear hb)
              (try clear hb2)
              (try clear hk)
              (try clear hi)
              refine hK.out _ _ ⟨(blk_cell BK231.out 0).trans rfl, (blk_cell BK231.out 1).trans rfl, (blk_cell BK231.out 2).trans rfl, (blk_cell BK232.out 0).trans rfl, (blk_cell BK232.out 1).trans rfl, (blk_cell BK232.out 2).trans rfl⟩ (fun hHeld => ?_)
              clear hK K
              refine norm_ (a' := ?_) ?_ ?_
              rotate_left
              ·show Act.put _ (some 61) _ = _
               simp only [Act.put, List.setIfInBounds_toArray, List.set_cons_zero, List.set_cons_succ, i64_w, i32_w]
               rfl
              refine pure_ (i := 4) (N := some 63) (v := ?_) (a' := ?_) #[true, true, true, true, true, false, false, false, false, false, false, false, false, false, false, false, false, false, false, false] rfl rfl (any_of HT_.out (by kernel_rfl)) (fun _ _ _ h => h) (Or.inl ⟨by rfl, ?_⟩) ?_ ?_
              rotate_left
              ·intro w'
               go_simp
               with_reducible rfl
              rotate_left
              ·simp only [Act.put, List.setIfInBounds_toArray, List.set_cons_zero, List.set_cons_succ, i64_w, i32_w]
               rfl
              refine pure_ (i := 5) (N := some 64) (v := ?_) (a' := ?_) #[true, true, true, true, true, true, false, false, false, false, false, false, false, false, false, false, false, false, false, false] rfl rfl (any_of HT_.out (by kernel_rfl)) (fun _ _ _ h => h) (Or.inl ⟨by rfl, ?_⟩) ?_ ?_
              rotate_left
              ·intro w'
               go_simp
               with_reducible rfl
              rotate_left
              ·simp only [Act.put, List.setIfInBounds_toArray, List.set_cons_zero, List.set_cons_succ, i64_w, i32_w]
               rfl
              refine pure_ (i := 6) (N := some 65) (v := undef) (a' := ?_) #[true, true, true, true, true, true, true, false, false, false, false, false, false, false, false, false, false, false, false, false] rfl rfl (any_of HT_.out (by kernel_rfl)) (fun _ _ _ h => h) (Or.inr ⟨by rfl, rfl⟩) ?_ ?_
              rotate_left
              ·simp only [Act.put, List.setIfInBounds_toArray, List.set_cons_zero, List.set_cons_succ, i64_w, i32_w]
               rfl
              refine pure_ (i := 7) (N := some 66) (v := undef) (a' := ?_) #[true, true, true, true, true, true, true, true, false, false, false, false, false, false, false, false, false, false, false, false] rfl rfl (any_of HT_.out (by kernel_rfl)) (fun _ _ _ h => h) (Or.inr ⟨by rfl, rfl⟩) ?_ ?_
              rotate_left
              ·simp only [Act.put, List.setIfInBounds_toArray, List.set_cons_zero, List.set_cons_succ, i64_w, i32_w]
               rfl
              refine pure_ (i := 8) (N := some 67) (v := undef) (a' := ?_) #[true, true, true, true, true, true, true, true, true, false, false, false, false, false, false, false, false, false, false, false] rfl rfl (any_of HT_.out (by kernel_rfl)) (fun _ _ _ h => h) (Or.inr ⟨by rfl, rfl⟩) ?_ ?_
              rotate_left
              ·simp only [Act.put, List.setIfInBounds_toArray, List.set_cons_zero, List.set_cons_succ, i64_w, i32_w]
               rfl
              refine pure_ (i := 9) (N := some 68) (v := undef) (a' := ?_) #[true, true, true, true, true, true, true, true, true, true, false, false, false, false, false, false, false, false, false, false] rfl rfl (any_of HT_.out (by kernel_rfl)) (fun _ _ _ h => h) (Or.inr ⟨by rfl, rfl⟩) ?_ ?_
              rotate_left
              ·simp only [Act.put, List.setIfInBounds_toArray, List.set_cons_zero, List.set_cons_succ, i64_w, i32_w]
               rfl
              refine pure_ (i := 10) (N := some 69) (v := undef) (a' := ?_) #[true, true, true, true, true, true, true, true, true, true, true, false, false, false, false, false, false, false, false, false] rfl rfl (any_of HT_.out (by kernel_rfl)) (fun _ _ _ h => h) (Or.inr ⟨by rfl, rfl⟩) ?_ ?_
              rotate_left
              ·simp only [Act.put, List.setIfInBounds_toArray, List.set_cons_zero, List.set_cons_succ, i64_w, i32_w]
               rfl
              refine pure_ (i := 11) (N := some 70) (v := undef) (a' := ?_) #[true, true, true, true, true, true, true, true, true, true, true, true, false, false, false, false, false, false, false, false] rfl rfl (any_of HT_.out (by kernel_rfl)) (fun _ _ _ h => h) (Or.inr ⟨by rfl, rfl⟩) ?_ ?_
              rotate_left
              ·simp only [Act.put, List.setIfInBounds_toArray, List.set_cons_zero, List.set_cons_succ, i64_w, i32_w]
               rfl
              refine pure_ (i := 12) (N := some 71) (v := ?_) (a' := ?_) #[true, true, true, true, true, true, true, true, true, true, true, true, true, false, false, false, false, false, false, false] rfl rfl (any_of HT_.out (by kernel_rfl)) (fun _ _ _ h => h) (Or.inl ⟨by rfl, ?_⟩) ?_ ?_
              rotate_left
              ·intro w'
               go_simp
               with_reducible rfl
              rotate_left
              ·simp only [Act.put, List.setIfInBounds_toArray, List.set_cons_zero, List.set_cons_succ, i64_w, i32_w]
               rfl
              refine pure_ (i := 13) (N := some 72) (v := ?_) (a' := ?_) #[true, true, true, true, true, true, true, true, true, true, true, true, true, true, false, false, false, false, false, false] rfl rfl (any_of HT_.out (by kernel_rfl)) (fun _ _ _ h => h) (Or.inl ⟨by rfl, ?_⟩) ?_ ?_
              rotate_left
              ·intro w'
               go_simp
               with_reducible rfl
              rotate_left
              ·simp only [Act.put, List.setIfInBounds_toArray, List.set_cons_zero, List.set_cons_succ, i64_w, i32_w]
               rfl
              refine pure_ (i := 14) (N := some 73) (v := undef) (a' := ?_) #[true, true, true, true, true, true, true, true, true, true, true, true, true, true, true, false, false, false, false, false] rfl rfl (any_of HT_.out (by kernel_rfl)) (fun _ _ _ h => h) (Or.inr ⟨by rfl, rfl⟩) ?_ ?_
              rotate_left
              ·simp only [Act.put, List.setIfInBounds_toArray, List.set_cons_zero, List.set_cons_succ, i64_w, i32_w]
               rfl
              refine pure_ (i := 15) (N := some 74) (v := undef) (a' := ?_) #[true, true, true, true, true, true, true, true, true, true, true, true, true, true, true, true, false, false, false, false] rfl rfl (any_of HT_.out (by kernel_rfl)) (fun _ _ _ h => h) (Or.inr ⟨by rfl, rfl⟩) ?_ ?_
              rotate_left
              ·simp only [Act.put, List.setIfInBounds_toArray, List.set_cons_zero, List.set_cons_succ, i64_w, i32_w]
               rfl
              refine pure_ (i := 16) (N := some 75) (v := undef) (a' := ?_) #[true, true, true, true, true, true, true, true, true, true, true, true, true, true, true, true, true, false, false, false] rfl rfl (any_of HT_.out (by kernel_rfl)) (fun _ _ _ h => h) (Or.inr ⟨by rfl, rfl⟩) ?_ ?_
              rotate_left
              ·simp only [Act.put, List.setIfInBounds_toArray, List.set_cons_zero, List.set_cons_succ, i64_w, i32_w]
               rfl
              refine pure_ (i := 17) (N := some 76) (v := undef) (a' := ?_) #[true, true, true, true, true, true, true, true, true, true, true, true, true, true, true, true, true, true, false, false] rfl rfl (any_of HT_.out (by kernel_rfl)) (fun _ _ _ h => h) (Or.inr ⟨by rfl, rfl⟩) ?_ ?_
              rotate_left
              ·simp only [Act.put, List.setIfInBounds_toArray, List.set_cons_zero, List.set_cons_succ, i64_w, i32_w]
               rfl
              refine pure_ (i := 18) (N := some 77) (v := undef) (a' := ?_) #[true, true, true, true, true, true, true, true, true, true, true, true, true, true, true, true, true, true, true, false] rfl rfl (any_of HT_.out (by kernel_rfl)) (fun _ _ _ h => h) (Or.inr ⟨by rfl, rfl⟩) ?_ ?_
              rotate_left
              ·simp only [Act.put, List.setIfInBounds_toArray, List.set_cons_zero, List.set_cons_succ, i64_w, i32_w]
               rfl
              refine pure_ (i := 19) (N := some 78) (v := ?_) (a' := ?_) #[true, true, true, true, true, true, true, true, true, true, true, true, true, true, true, true, true, true, true, true] rfl rfl (any_of HT_.out (by kernel_rfl)) (fun _ _ _ h => h) (Or.inl ⟨by rfl, ?_⟩) ?_ ?_
              rotate_left
              ·intro w'
               go_simp
               with_reducible rfl
              rotate_left
              ·simp only [Act.put, List.setIfInBounds_toArray, List.set_cons_zero, List.set_cons_succ, i64_w, i32_w]
               rfl
              refine done_ (done_of HT_.out (by kernel_rfl)) ?_
              try go_wp2
              go_meet
              case rel => exact ⟨_, (true), (by first | rfl | (simp; done) | (simp [*]; done)), H', ⟨by have := HJ5.out; have := HK2.out; have := HJ23.out; have := HJ32.out; first | omega | exact Nat.le_refl _⟩, ⟨by (with_reducible repeat (first | apply Kd.R_alloc | apply Kd.R_drewN | apply Kd.R_drew)); exact HO251.out⟩, ⟨by (with_reducible repeat (first | apply Kd.R_alloc | apply Kd.R_drewN | apply Kd.R_drew)); exact HO257.out⟩, ⟨by (with_reducible repeat (first | refine blk_drewN ?_ _ | refine blk_drew ?_ | refine blk_alloc ?_ _)); exact BK231.out⟩, ⟨by (with_reducible repeat (first | refine blk_drewN ?_ _ | refine blk_drew ?_ | refine blk_alloc ?_ _)); exact BK232.out⟩, ⟨by repeat (first | (with_reducible first | exact HB.out | apply below_alloc | apply pw_below_drewN | apply below_drew1 | refine below_set ?_ GE231.out | refine below_set ?_ GE232.out) | exact HB.out)⟩⟩
            case rest =>
             clear HC42
             try clear c1
             try clear p2
             try clear c5
             try clear c9
             try clear c12
             try clear c13
             try clear c14
             try clear c50
             try clear c50b0
             try clear c50b1
             try clear c54
             try clear c54b0
             try clear c54b1
             obtain ⟨kq, x78_41, rfl, HA, HJ41, HO_9, HO_10, BK231, BK232, HB⟩ := hcut
             cases kq with
             | zero => exact absurd HA.out (by simp [truantlaw18_NodeExact.j4])
             | succ kj41 =>
              have H := HA.out
              clear HA
              simp only [truantlaw18_NodeExact.j4] at H
              by_cases c69 : x78_41 = true
              ·subst c69
               have H1 : (none) = some r := by rw [if_pos rfl] at H; exact H
               clear H
               have H := H1
               clear H1
               exact absurd H (by simp)
              ·replace c69 := Bool.eq_false_iff.mpr c69
               subst c69
               have H1 : (truantlaw18_NodeExact.l1 kj41 t249 t255 0) = some r := by rw [if_neg (show ¬ (false = true) by decide)] at H; exact H
               clear H
               have H := H1
               clear H1
               have H' := Aside0.mk H
               clear H
               go_wp2
               go_loopg [11] kj41 (fun kq v11 w' => ∃ (x11_6 : Int), v11 = .int .i64 x11_6 ∧ Aside0 (truantlaw18_NodeExact.l1 kq t249 t255 x11_6 = some r) ∧ Aside0 (kq ≤ kj41) ∧ Aside0 (Kd.R k40 40 w' w.heap.size (fun _ => True) v250 t249) ∧ Aside0 (Kd.R k42 42 w' w.heap.size (fun _ => True) v256 t255) ∧ Aside0 (w'.heap[gb231]? = some (.cells #[.int .i64 a1_0, .int .i64 a1_1, .string a1_2] 24 (0, 0))) ∧ Aside0 (w'.heap[gb232]? = some (.cells #[.int .i64 a2_0, .int .i64 a2_1, .string a2_2] 24 (0, 0))) ∧ Aside0 (Below w.heap.size w w'))
               case atStart => exact ⟨(0), (by first | rfl | (simp; done) | (simp [*]; done)), H', ⟨Nat.le_refl _⟩, ⟨by (with_reducible repeat (first | apply Kd.R_alloc | apply Kd.R_drewN | apply Kd.R_drew)); exact HO_9.out⟩, ⟨by (with_reducible repeat (first | apply Kd.R_alloc | apply Kd.R_drewN | apply Kd.R_drew)); exact HO_10.out⟩, ⟨by (with_reducible repeat (first | refine blk_drewN ?_ _ | refine blk_drew ?_ | refine blk_alloc ?_ _)); exact BK231.out⟩, ⟨by (with_reducible repeat (first | refine blk_drewN ?_ _ | refine blk_drew ?_ | refine blk_alloc ?_ _)); exact BK232.out⟩, ⟨by repeat (first | (with_reducible first | exact HB.out | apply below_alloc | apply pw_below_drewN | apply below_drew1 | refine below_set ?_ GE231.out | refine below_set ?_ GE232.out) | exact HB.out)⟩⟩
               case round =>
                clear H'
                try clear c1
                try clear p2
                try clear c5
                try clear c6
                try clear c9
                try clear c12
                try clear c13
                try clear c14
                try clear c50
                try clear c50b0
                try clear c50b1
                try clear c54
                try clear c54b0
                try clear c54b1
                try clear c69
                try clear p2
                obtain ⟨x11_6, rfl, HA, HK6, HO_9, HO_10, BK231, BK232, HB⟩ := hrel
                cases gk with
                | zero => exact absurd HA.out (by simp [truantlaw18_NodeExact.l1])
                | succ k6 =>
                 have H := HA.out
                 clear HA
                 simp only [truantlaw18_NodeExact.l1] at H
                 by_cases c70 : x11_6 < (t255.length : Int)
                 ·rw [if_pos c70] at H
                  have c70b0 : decide (x11_6 < (t255.length : Int)) = true := decide_eq_true c70
                  clear c70
                  by_cases c71 : 0 ≤ x11_6
                  ·rw [if_pos c71] at H
                   have c71b0 : decide (0 ≤ x11_6) = true := decide_eq_true c71
                   clear c71
                   by_cases c72 : x11_6 < (t249.length : Int)
                   ·rw [if_pos c72] at H
                    have c72b0 : decide (x11_6 < (t249.length : Int)) = true := decide_eq_true c72
                    clear c72
                    replace H := Option.bind_eq_some_iff.mp H
                    obtain ⟨⟨t265, t266, t267⟩, A730, H⟩ := H
                    replace H : (if (!(t265 == ((rd_T42 t255 x11_6).f0.f0)) || (!(t266 == ((rd_T42 t255 x11_6).f0.f1)) || (!(t267.toList == (((rd_T42 t255 x11_6).f0.f2).toList))))) = true then (none) else (if ((rd_T40 t249 x11_6).f1) = ((rd_T42 t255 x11_6).f1) then ((truantlaw18_form.f ((rd_T40 t249 x11_6).f2.f0) ((rd_T40 t249 x11_6).f2.f1) ((rd_T40 t249 x11_6).f2.f2)).bind fun bt272 => (if (!(bt272.1 == ((rd_T42 t255 x11_6).f2.f0)) || (!(bt272.2.1 == ((rd_T42 t255 x11_6).f2.f1)) || (!(bt272.2.2.toList == (((rd_T42 t255 x11_6).f2.f2).toList))))) = true then (none) else (truantlaw18_NodeExact.l1 k6 t249 t255 (wrap64 (x11_6 + 1))))) else (none))) = some r := H
                    have A73 := Aside0.mk A730
                    clear A730
                    by_cases c74 : (!(t265 == ((rd_T42 t255 x11_6).f0.f0)) || (!(t266 == ((rd_T42 t255 x11_6).f0.f1)) || (!(t267.toList == (((rd_T42 t255 x11_6).f0.f2).toList))))) = true
                    ·rw [if_pos c74] at H
                     exact absurd H (by simp)
                    ·rw [if_neg c74] at H
                     have c74b0 : (!(t265 == ((rd_T42 t255 x11_6).f0.f0)) || (!(t266 == ((rd_T42 t255 x11_6).f0.f1)) || (!(t267.toList == (((rd_T42 t255 x11_6).f0.f2).toList))))) = false := by simpa using c74
                     clear c74
                     by_cases c75 : ((rd_T40 t249 x11_6).f1) = ((rd_T42 t255 x11_6).f1)
                     ·rw [if_pos c75] at H
                      have c75b0 : (((rd_T40 t249 x11_6).f1) == ((rd_T42 t255 x11_6).f1)) = true := beq_iff_eq.mpr c75
                      have c75b1 : (((rd_T40 t249 x11_6).f1) != ((rd_T42 t255 x11_6).f1)) = false := bne_eq_false_iff_eq.mpr c75
                      clear c75
                      replace H := Option.bind_eq_some_iff.mp H
                      obtain ⟨⟨t272, t273, t274⟩, A760, H⟩ := H
                      replace H : (if (!(t272 == ((rd_T42 t255 x11_6).f2.f0)) || (!(t273 == ((rd_T42 t255 x11_6).f2.f1)) || (!(t274.toList == (((rd_T42 t255 x11_6).f2.f2).toList))))) = true then (none) else (truantlaw18_NodeExact.l1 k6 t249 t255 (wrap64 (x11_6 + 1)))) = some r := H
                      have A76 := Aside0.mk A760
                      clear A760
                      by_cases c77 : (!(t272 == ((rd_T42 t255 x11_6).f2.f0)) || (!(t273 == ((rd_T42 t255 x11_6).f2.f1)) || (!(t274.toList == (((rd_T42 t255 x11_6).f2.f2).toList))))) = true
                      ·rw [if_pos c77] at H
                       exact absurd H (by simp)
                      ·rw [if_neg c77] at H
                       have c77b0 : (!(t272 == ((rd_T42 t255 x11_6).f2.f0)) || (!(t273 == ((rd_T42 t255 x11_6).f2.f1)) || (!(t274.toList == (((rd_T42 t255 x11_6).f2.f2).toList))))) = false := by simpa using c77
                       clear c77
                       have H' := Aside0.mk H
                       clear H
                       obtain ⟨Ao78, co78, eo78⟩ := Kd.R_slice HO_10.out
                       subst eo78
                       try go_wp2
                       have n0_ := Aside0.mk (Kd.R_drew HO_9.out)
                       have n1_ := Aside0.mk (Kd.R_drew HO_10.out)
                       have n2_ := Aside0.mk (blk_drew BK231.out)
                       have n3_ := Aside0.mk (blk_drew BK232.out)
                       have n4_ := Aside0.mk (below_drew1 HB.out)
                       clear HO_9
                       clear HO_10
                       clear BK231
                       clear BK232
                       clear HB
                       have HO_9 := n0_
                       have HO_10 := n1_
                       have BK231 := n2_
                       have BK232 := n3_
                       have HB := n4_
                       clear n0_ n1_ n2_ n3_ n4_
                       obtain ⟨Ao80, co80, eo80⟩ := Kd.R_slice HO_9.out
                       (first | subst eo80 | (injection eo80 with f1_ f2_ f3_; have f4_ := f1_.symm; have f5_ := f3_.symm; clear f1_ f2_ f3_; subst f4_; subst f5_))
                       have p264 : 0 ≤ (x11_6 : Int) := of_decide_eq_true (by first | (with_reducible assumption) | assumption)
                       have q264 : x11_6 < (t249.length : Int) := of_decide_eq_true (by first | (with_reducible assumption) | assumption)
                       obtain ⟨ad264, e264, hx264_0, hx264_1, hx264_2, hx264_3, hx264_4, hx264_5, hx264_6⟩ := at_T40 (Kd.R_reads' HO_9.out).2.2 x11_6 p264 q264
                       cases e264
                       replace p264 := eq_true p264
                       replace q264 := eq_true q264
                       have p268 : 0 ≤ (x11_6 : Int) := of_decide_eq_true (by first | (with_reducible assumption) | assumption)
                       have q268 : x11_6 < (t255.length : Int) := of_decide_eq_true (by first | (with_reducible assumption) | assumption)
                       obtain ⟨ad268, e268, hx268_0, hx268_1, hx268_2, hx268_3, hx268_4, hx268_5, hx268_6⟩ := at_T42 (Kd.R_reads' HO_10.out).2.2 x11_6 p268 q268
                       cases e268
                       replace p268 := eq_true p268
                       replace q268 := eq_true q268
                       have p269 : 0 ≤ (x11_6 : Int) := of_decide_eq_true (by first | (with_reducible assumption) | assumption)
                       have q269 : x11_6 < (t249.length : Int) := of_decide_eq_true (by first | (with_reducible assumption) | assumption)
                       obtain ⟨ad269, e269, hx269_0, hx269_1, hx269_2, hx269_3, hx269_4, hx269_5, hx269_6⟩ := at_T40 (Kd.R_reads' HO_9.out).2.2 x11_6 p269 q269
                       obtain rfl : ad264 = ad269 := (by injection e269)
                       replace p269 := eq_true p269
                       replace q269 := eq_true q269
                       have p270 : 0 ≤ (x11_6 : Int) := of_decide_eq_true (by first | (with_reducible assumption) | assumption)
                       have q270 : x11_6 < (t255.length : Int) := of_decide_eq_true (by first | (with_reducible assumption) | assumption)
                       obtain ⟨ad270, e270, hx270_0, hx270_1, hx270_2, hx270_3, hx270_4, hx270_5, hx270_6⟩ := at_T42 (Kd.R_reads' HO_10.out).2.2 x11_6 p270 q270
                       obtain rfl : ad268 = ad270 := (by injection e270)
                       replace p270 := eq_true p270
                       replace q270 := eq_true q270
                       have p271 : 0 ≤ (x11_6 : Int) := of_decide_eq_true (by first | (with_reducible assumption) | assumption)
                       have q271 : x11_6 < (t249.length : Int) := of_decide_eq_true (by first | (with_reducible assumption) | assumption)
                       obtain ⟨ad271, e271, hx271_0, hx271_1, hx271_2, hx271_3, hx271_4, hx271_5, hx271_6⟩ := at_T40 (Kd.R_reads' HO_9.out).2.2 x11_6 p271 q271
                       obtain rfl : ad264 = ad271 := (by injection e271)
                       replace p271 := eq_true p271
                       replace q271 := eq_true q271
                       have p275 : 0 ≤ (x11_6 : Int) := of_decide_eq_true (by first | (with_reducible assumption) | assumption)
                       have q275 : x11_6 < (t255.length : Int) := of_decide_eq_true (by first | (with_reducible assumption) | assumption)
                       obtain ⟨ad275, e275, hx275_0, hx275_1, hx275_2, hx275_3, hx275_4, hx275_5, hx275_6⟩ := at_T42 (Kd.R_reads' HO_10.out).2.2 x11_6 p275 q275
                       obtain rfl : ad268 = ad275 := (by injection e275)
                       replace p275 := eq_true p275
                       replace q275 := eq_true q275
                       refine start_ (n := 39) (S := fun w' => w'.cell? (ad264.add ((x11_6).toNat * 7)) = some (.int .i64 ((rd_T40 t249 x11_6).f0.f0)) ∧ w'.cell? ⟨(ad264.add ((x11_6).toNat * 7)).block, (ad264.add ((x11_6).toNat * 7)).off + 1, none⟩ = some (.int .i64 ((rd_T40 t249 x11_6).f0.f1)) ∧ w'.cell? ⟨(ad264.add ((x11_6).toNat * 7)).block, (ad264.add ((x11_6).toNat * 7)).off + 2, none⟩ = some (.string ((rd_T40 t249 x11_6).f0.f2)) ∧ w'.cell? ⟨(ad264.add ((x11_6).toNat * 7)).block, (ad264.add ((x11_6).toNat * 7)).off + 3, none⟩ = some (.int .i64 ((rd_T40 t249 x11_6).f1)) ∧ w'.cell? ⟨(ad264.add ((x11_6).toNat * 7)).block, (ad264.add ((x11_6).toNat * 7)).off + 4, none⟩ = some (.int .i64 ((rd_T40 t249 x11_6).f2.f0)) ∧ w'.cell? ⟨(ad264.add ((x11_6).toNat * 7)).block, (ad264.add ((x11_6).toNat * 7)).off + 5, none⟩ = some (.int .i64 ((rd_T40 t249 x11_6).f2.f1)) ∧ w'.cell? ⟨(ad264.add ((x11_6).toNat * 7)).block, (ad264.add ((x11_6).toNat * 7)).off + 6, none⟩ = some (.string ((rd_T40 t249 x11_6).f2.f2)) ∧ w'.cell? (ad268.add ((x11_6).toNat * 7)) = some (.int .i64 ((rd_T42 t255 x11_6).f0.f0)) ∧ w'.cell? ⟨(ad268.add ((x11_6).toNat * 7)).block, (ad268.add ((x11_6).toNat * 7)).off + 1, none⟩ = some (.int .i64 ((rd_T42 t255 x11_6).f0.f1)) ∧ w'.cell? ⟨(ad268.add ((x11_6).toNat * 7)).block, (ad268.add ((x11_6).toNat * 7)).off + 2, none⟩ = some (.string ((rd_T42 t255 x11_6).f0.f2)) ∧ w'.cell? ⟨(ad268.add ((x11_6).toNat * 7)).block, (ad268.add ((x11_6).toNat * 7)).off + 3, none⟩ = some (.int .i64 ((rd_T42 t255 x11_6).f1)) ∧ w'.cell? ⟨(ad268.add ((x11_6).toNat * 7)).block, (ad268.add ((x11_6).toNat * 7)).off + 4, none⟩ = some (.int .i64 ((rd_T42 t255 x11_6).f2.f0)) ∧ w'.cell? ⟨(ad268.add ((x11_6).toNat * 7)).block, (ad268.add ((x11_6).toNat * 7)).off + 5, none⟩ = some (.int .i64 ((rd_T42 t255 x11_6).f2.f1)) ∧ w'.cell? ⟨(ad268.add ((x11_6).toNat * 7)).block, (ad268.add ((x11_6).toNat * 7)).off + 6, none⟩ = some (.string ((rd_T42 t255 x11_6).f2.f2)) ∧ w'.cell? (ad264.add ((x11_6).toNat * 7)) = some (.int .i64 ((rd_T40 t249 x11_6).f0.f0)) ∧ w'.cell? ⟨(ad264.add ((x11_6).toNat * 7)).block, (ad264.add ((x11_6).toNat * 7)).off + 1, none⟩ = some (.int .i64 ((rd_T40 t249 x11_6).f0.f1)) ∧ w'.cell? ⟨(ad264.add ((x11_6).toNat * 7)).block, (ad264.add ((x11_6).toNat * 7)).off + 2, none⟩ = some (.string ((rd_T40 t249 x11_6).f0.f2)) ∧ w'.cell? ⟨(ad264.add ((x11_6).toNat * 7)).block, (ad264.add ((x11_6).toNat * 7)).off + 3, none⟩ = some (.int .i64 ((rd_T40 t249 x11_6).f1)) ∧ w'.cell? ⟨(ad264.add ((x11_6).toNat * 7)).block, (ad264.add ((x11_6).toNat * 7)).off + 4, none⟩ = some (.int .i64 ((rd_T40 t249 x11_6).f2.f0)) ∧ w'.cell? ⟨(ad264.add ((x11_6).toNat * 7)).block, (ad264.add ((x11_6).toNat * 7)).off + 5, none⟩ = some (.int .i64 ((rd_T40 t249 x11_6).f2.f1)) ∧ w'.cell? ⟨(ad264.add ((x11_6).toNat * 7)).block, (ad264.add ((x11_6).toNat * 7)).off + 6, none⟩ = some (.string ((rd_T40 t249 x11_6).f2.f2)) ∧ w'.cell? (ad268.add ((x11_6).toNat * 7)) = some (.int .i64 ((rd_T42 t255 x11_6).f0.f0)) ∧ w'.cell? ⟨(ad268.add ((x11_6).toNat * 7)).block, (ad268.add ((x11_6).toNat * 7)).off + 1, none⟩ = some (.int .i64 ((rd_T42 t255 x11_6).f0.f1)) ∧ w'.cell? ⟨(ad268.add ((x11_6).toNat * 7)).block, (ad268.add ((x11_6).toNat * 7)).off + 2, none⟩ = some (.string ((rd_T42 t255 x11_6).f0.f2)) ∧ w'.cell? ⟨(ad268.add ((x11_6).toNat * 7)).block, (ad268.add ((x11_6).toNat * 7)).off + 3, none⟩ = some (.int .i64 ((rd_T42 t255 x11_6).f1)) ∧ w'.cell? ⟨(ad268.add ((x11_6).toNat * 7)).block, (ad268.add ((x11_6).toNat * 7)).off + 4, none⟩ = some (.int .i64 ((rd_T42 t255 x11_6).f2.f0)) ∧ w'.cell? ⟨(ad268.add ((x11_6).toNat * 7)).block, (ad268.add ((x11_6).toNat * 7)).off + 5, none⟩ = some (.int .i64 ((rd_T42 t255 x11_6).f2.f1)) ∧ w'.cell? ⟨(ad268.add ((x11_6).toNat * 7)).block, (ad268.add ((x11_6).toNat * 7)).off + 6, none⟩ = some (.string ((rd_T42 t255 x11_6).f2.f2)) ∧ w'.cell? (ad264.add ((x11_6).toNat * 7)) = some (.int .i64 ((rd_T40 t249 x11_6).f0.f0)) ∧ w'.cell? ⟨(ad264.add ((x11_6).toNat * 7)).block, (ad264.add ((x11_6).toNat * 7)).off + 1, none⟩ = some (.int .i64 ((rd_T40 t249 x11_6).f0.f1)) ∧ w'.cell? ⟨(ad264.add ((x11_6).toNat * 7)).block, (ad264.add ((x11_6).toNat * 7)).off + 2, none⟩ = some (.string ((rd_T40 t249 x11_6).f0.f2)) ∧ w'.cell? ⟨(ad264.add ((x11_6).toNat * 7)).block, (ad264.add ((x11_6).toNat * 7)).off + 3, none⟩ = some (.int .i64 ((rd_T40 t249 x11_6).f1)) ∧ w'.cell? ⟨(ad264.add ((x11_6).toNat * 7)).block, (ad264.add ((x11_6).toNat * 7)).off + 4, none⟩ = some (.int .i64 ((rd_T40 t249 x11_6).f2.f0)) ∧ w'.cell? ⟨(ad264.add ((x11_6).toNat * 7)).block, (ad264.add ((x11_6).toNat * 7)).off + 5, none⟩ = some (.int .i64 ((rd_T40 t249 x11_6).f2.f1)) ∧ w'.cell? ⟨(ad264.add ((x11_6).toNat * 7)).block, (ad264.add ((x11_6).toNat * 7)).off + 6, none⟩ = some (.string ((rd_T40 t249 x11_6).f2.f2)) ∧ w'.cell? (ad268.add ((x11_6).toNat * 7)) = some (.int .i64 ((rd_T42 t255 x11_6).f0.f0)) ∧ w'.cell? ⟨(ad268.add ((x11_6).toNat * 7)).block, (ad268.add ((x11_6).toNat * 7)).off + 1, none⟩ = some (.int .i64 ((rd_T42 t255 x11_6).f0.f1)) ∧ w'.cell? ⟨(ad268.add ((x11_6).toNat * 7)).block, (ad268.add ((x11_6).toNat * 7)).off + 2, none⟩ = some (.string ((rd_T42 t255 x11_6).f0.f2)) ∧ w'.cell? ⟨(ad268.add ((x11_6).toNat * 7)).block, (ad268.add ((x11_6).toNat * 7)).off + 3, none⟩ = some (.int .i64 ((rd_T42 t255 x11_6).f1)) ∧ w'.cell? ⟨(ad268.add ((x11_6).toNat * 7)).block, (ad268.add ((x11_6).toNat * 7)).off + 4, none⟩ = some (.int .i64 ((rd_T42 t255 x11_6).f2.f0)) ∧ w'.cell? ⟨(ad268.add ((x11_6).toNat * 7)).block, (ad268.add ((x11_6).toNat * 7)).off + 5, none⟩ = some (.int .i64 ((rd_T42 t255 x11_6).f2.f1)) ∧ w'.cell? ⟨(ad268.add ((x11_6).toNat * 7)).block, (ad268.add ((x11_6).toNat * 7)).off + 6, none⟩ = some (.string ((rd_T42 t255 x11_6).f2.f2))) (ds := []) #[false, false, false, false, false, false, false, false, false, false, false, false, false, false, false, false, false, false, false, false, false, false, false, false, false, false, false, false, false, false, false, false, false, false, false, false, false, false, false] (by kernel_rfl) rfl rfl ⟨hx264_0, hx264_1, hx264_2, hx264_3, hx264_4, hx264_5, hx264_6, hx268_0, hx268_1, hx268_2, hx268_3, hx268_4, hx268_5, hx268_6, hx269_0, hx269_1, hx269_2, hx269_3, hx269_4, hx269_5, hx269_6, hx270_0, hx270_1, hx270_2, hx270_3, hx270_4, hx270_5, hx270_6, hx271_0, hx271_1, hx271_2, hx271_3, hx271_4, hx271_5, hx271_6, hx275_0, hx275_1, hx275_2, hx275_3, hx275_4, hx275_5, hx275_6⟩ (fun hHeld => ?_); refine with_tabW truantlaw18_NodeExact.tab22 truantlaw18_NodeExact.bits22 (fun HT_ HW_ => ?_)
                       generalize wr.drew = w79 at HO_9 HO_10 BK231 BK232 HB hx264_0 hx264_1 hx264_2 hx264_3 hx264_4 hx264_5 hx264_6 hx268_0 hx268_1 hx268_2 hx268_3 hx268_4 hx268_5 hx268_6 hx269_0 hx269_1 hx269_2 hx269_3 hx269_4 hx269_5 hx269_6 hx270_0 hx270_1 hx270_2 hx270_3 hx270_4 hx270_5 hx270_6 hx271_0 hx271_1 hx271_2 hx271_3 hx271_4 hx271_5 hx271_6 hx275_0 hx275_1 hx275_2 hx275_3 hx275_4 hx275_5 hx275_6 hHeld ⊢
                       refine pure_ (i := 0) (N := some 85) (v := ?_) (a' := ?_) #[true, false, false, false, false, false, false, false, false, false, false, false, false, false, false, false, false, false, false, false, false, false, false, false, false, false, false, false, false, false, false, false, false, false, false, false, false, false, false] rfl rfl (any_of HT_.out (by kernel_rfl)) (fun _ _ _ h => h) (Or.inl ⟨by rfl, ?_⟩) ?_ ?_
                       rotate_left
                       ·intro w'
                        go_simp
                        with_reducible rfl
                       rotate_left
                       ·simp only [Act.put, List.setIfInBounds_toArray, List.set_cons_zero, List.set_cons_succ, i64_w, i32_w]
                        rfl
                       refine pure_ (i := 1) (N := some 86) (v := ?_) (a' := ?_) #[true, true, false, false, false, false, false, false, false, false, false, false, false, false, false, false, false, false, false, false, false, false, false, false, false, false, false, false, false, false, false, false, false, false, false, false, false, false, false] rfl rfl (any_of HT_.out (by kernel_rfl)) (fun _ _ _ h => h) (Or.inl ⟨by rfl, ?_⟩) ?_ ?_
                       rotate_left
                       ·intro w'
                        go_simp
                        with_reducible rfl
                       rotate_left
                       ·simp only [Act.put, List.setIfInBounds_toArray, List.set_cons_zero, List.set_cons_succ, i64_w, i32_w]
                        rfl
                       refine pure_ (i := 2) (N := some 87) (v := ?_) (a' := ?_) #[true, true, true, false, false, false, false, false, false, false, false, false, false, false, false, false, false, false, false, false, false, false, false, false, false, false, false, false, false, false, false, false, false, false, false, false, false, false, false] rfl rfl (any_of HT_.out (by kernel_rfl)) (fun _ _ _ h => h) (Or.inl ⟨by rfl, ?_⟩) ?_ ?_
                       rotate_left
                       ·intro w'
                        go_simp
                        with_reducible rfl
                       rotate_left
                       ·simp only [Act.put, List.setIfInBounds_toArray, List.set_cons_zero, List.set_cons_succ, i64_w, i32_w]
                        rfl
                       refine pure_ (i := 3) (N := some 88) (v := ?_) (a' := ?_) #[true, true, true, true, false, false, false, false, false, false, false, false, false, false, false, false, false, false, false, false, false, false, false, false, false, false, false, false, false, false, false, false, false, false, false, false, false, false, false] rfl rfl (any_of HT_.out (by kernel_rfl)) (fun _ _ _ h => h) (Or.inl ⟨by rfl, ?_⟩) ?_ ?_
                       rotate_left
                       ·intro w'
                        go_simp
                        with_reducible rfl
                       rotate_left
                       ·simp only [Act.put, List.setIfInBounds_toArray, List.set_cons_zero, List.set_cons_succ, i64_w, i32_w]
                        rfl
                       refine pure_ (i := 6) (N := some 91) (v := ?_) (a' := ?_) #[true, true, true, true, false, false, true, false, false, false, false, false, false, false, false, false, false, false, false, false, false, false, false, false, false, false, false, false, false, false, false, false, false, false, false, false, false, false, false] rfl rfl (any_of HT_.out (by kernel_rfl)) (fun _ _ _ h => h) (Or.inl ⟨by rfl, ?_⟩) ?_ ?_
                       rotate_left
                       ·intro w'
                        go_simp
                        with_reducible rfl
                       rotate_left
                       ·simp only [Act.put, List.setIfInBounds_toArray, List.set_cons_zero, List.set_cons_succ, i64_w, i32_w]
                        rfl
                       refine pure_ (i := 7) (N := some 92) (v := ?_) (a' := ?_) #[true, true, true, true, false, false, true, true, false, false, false, false, false, false, false, false, false, false, false, false, false, false, false, false, false, false, false, false, false, false, false, false, false, false, false, false, false, false, false] rfl rfl (any_of HT_.out (by kernel_rfl)) (fun _ _ _ h => h) (Or.inl ⟨by rfl, ?_⟩) ?_ ?_
                       rotate_left
                       ·intro w'
                        go_simp
                        with_reducible rfl
                       rotate_left
                       ·simp only [Act.put, List.setIfInBounds_toArray, List.set_cons_zero, List.set_cons_succ, i64_w, i32_w]
                        rfl
                       refine pure_ (i := 8) (N := some 93) (v := ?_) (a' := ?_) #[true, true, true, true, false, false, true, true, true, false, false, false, false, false, false, false, false, false, false, false, false, false, false, false, false, false, false, false, false, false, false, false, false, false, false, false, false, false, false] rfl rfl (any_of HT_.out (by kernel_rfl)) (fun _ _ _ h => h) (Or.inl ⟨by rfl, ?_⟩) ?_ ?_
                       rotate_left
                       ·intro w'
                        go_simp
                        with_reducible rfl
                       rotate_left
                       ·simp only [Act.put, List.setIfInBounds_toArray, List.set_cons_zero, List.set_cons_succ, i64_w, i32_w]
                        rfl
                       refine pure_ (i := 9) (N := some 94) (v := ?_) (a' := ?_) #[true, true, true, true, false, false, true, true, true, true, false, false, false, false, false, false, false, false, false, false, false, false, false, false, false, false, false, false, false, false, false, false, false, false, false, false, false, false, false] rfl rfl (any_of HT_.out (by kernel_rfl)) (fun _ _ _ h => h) (Or.inl ⟨by rfl, ?_⟩) ?_ ?_
                       rotate_left
                       ·intro w'
                        go_simp
                        with_reducible rfl
                       rotate_left
                       ·simp only [Act.put, List.setIfInBounds_toArray, List.set_cons_zero, List.set_cons_succ, i64_w, i32_w]
                        rfl
                       refine take_ (i := 4) (N := some 89) (v := ?_) (a' := ?_) #[true, true, true, true, true, false, true, true, true, true, false, false, false, false, false, false, false, false, false, false, false, false, false, false, false, false, false, false, false, false, false, false, false, false, false, false, false, false, false] rfl rfl (take_ofW HT_.out HW_.out (by kernel_rfl)) (fun _ _ _ h => h) (Or.inl ⟨by rfl, ?_⟩) hHeld ?_ ?_
                       rotate_left
                       ·rintro w' ⟨s0, s1, s2, s3, s4, s5, s6, s7, s8, s9, s10, s11, s12, s13, s14, s15, s16, s17, s18, s19, s20, s21, s22, s23, s24, s25, s26, s27, s28, s29, s30, s31, s32, s33, s34, s35, s36, s37, s38, s39, s40, s41⟩
                        go_simp
                        with_reducible rfl
                       rotate_left
                       ·simp only [Act.put, List.setIfInBounds_toArray, List.set_cons_zero, List.set_cons_succ, i64_w, i32_w]
                        rfl
                       refine take_ (i := 10) (N := some 95) (v := ?_) (a' := ?_) #[true, true, true, true, true, false, true, true, true, true, true, false, false, false, false, false, false, false, false, false, false, false, false, false, false, false, false, false, false, false, false, false, false, false, false, false, false, false, false] rfl rfl (take_ofW HT_.out HW_.out (by kernel_rfl)) (fun _ _ _ h => h) (Or.inl ⟨by rfl, ?_⟩) hHeld ?_ ?_
                       rotate_left
                       ·rintro w' ⟨s0, s1, s2, s3, s4, s5, s6, s7, s8, s9, s10, s11, s12, s13, s14, s15, s16, s17, s18, s19, s20, s21, s22, s23, s24, s25, s26, s27, s28, s29, s30, s31, s32, s33, s34, s35, s36, s37, s38, s39, s40, s41⟩
                        go_simp
                        with_reducible rfl
                       rotate_left
                       ·simp only [Act.put, List.setIfInBounds_toArray, List.set_cons_zero, List.set_cons_succ, i64_w, i32_w]
                        rfl
                       refine one_ (i := 5) (N := some 90) #[true, true, true, true, true, true, true, true, true, true, true, false, false, false, false, false, false, false, false, false, false, false, false, false, false, false, false, false, false, false, false, false, false, false, false, false, false, false, false] rfl rfl (one_of HT_.out (by kernel_rfl)) (by decide) (fun K hK => ?_)
                       refine goes_ Tryd.func9 (by kernel_rfl) rfl #[.agg #[.int .i64 ((rd_T40 t249 x11_6).f0.f0), .int .i64 ((rd_T40 t249 x11_6).f0.f1), .string ((rd_T40 t249 x11_6).f0.f2)]] (by rfl) rfl rfl (by (try simp only [List.map_toArray, List.map_cons, List.map_nil]); first | done | rfl | (simp only [List.length_drop, List.length_take]; rfl)) ?_
                       with_reducible refine (truantlaw18_form.calls ((rd_T40 t249 x11_6).f0.f0) ((rd_T40 t249 x11_6).f0.f1) ((rd_T40 t249 x11_6).f0.f2) t265 t266 t267 _ A73.out).mono ?_
                       rintro e w81 ⟨rfl, hb⟩
                       have HS0_ := (hb.cell (World.block_lt_of_cell? _ _ (hHeld.1))).trans (hHeld.1)
                       have HS1_ := (hb.cell (World.block_lt_of_cell? _ _ (hHeld.2.1))).trans (hHeld.2.1)
                       have HS2_ := (hb.cell (World.block_lt_of_cell? _ _ (hHeld.2.2.1))).trans (hHeld.2.2.1)
                       have HS3_ := (hb.cell (World.block_lt_of_cell? _ _ (hHeld.2.2.2.1))).trans (hHeld.2.2.2.1)
                       have HS4_ := (hb.cell (World.block_lt_of_cell? _ _ (hHeld.2.2.2.2.1))).trans (hHeld.2.2.2.2.1)
                       have HS5_ := (hb.cell (World.block_lt_of_cell? _ _ (hHeld.2.2.2.2.2.1))).trans (hHeld.2.2.2.2.2.1)
                       have HS6_ := (hb.cell (World.block_lt_of_cell? _ _ (hHeld.2.2.2.2.2.2.1))).trans (hHeld.2.2.2.2.2.2.1)
                       have HS7_ := (hb.cell (World.block_lt_of_cell? _ _ (hHeld.2.2.2.2.2.2.2.1))).trans (hHeld.2.2.2.2.2.2.2.1)
                       have HS8_ := (hb.cell (World.block_lt_of_cell? _ _ (hHeld.2.2.2.2.2.2.2.2.1))).trans (hHeld.2.2.2.2.2.2.2.2.1)
                       have HS9_ := (hb.cell (World.block_lt_of_cell? _ _ (hHeld.2.2.2.2.2.2.2.2.2.1))).trans (hHeld.2.2.2.2.2.2.2.2.2.1)
                       have HS10_ := (hb.cell (World.block_lt_of_cell? _ _ (hHeld.2.2.2.2.2.2.2.2.2.2.1))).trans (hHeld.2.2.2.2.2.2.2.2.2.2.1)
                       have HS11_ := (hb.cell (World.block_lt_of_cell? _ _ (hHeld.2.2.2.2.2.2.2.2.2.2.2.1))).trans (hHeld.2.2.2.2.2.2.2.2.2.2.2.1)
                       have HS12_ := (hb.cell (World.block_lt_of_cell? _ _ (hHeld.2.2.2.2.2.2.2.2.2.2.2.2.1))).trans (hHeld.2.2.2.2.2.2.2.2.2.2.2.2.1)
                       have HS13_ := (hb.cell (World.block_lt_of_cell? _ _ (hHeld.2.2.2.2.2.2.2.2.2.2.2.2.2.1))).trans (hHeld.2.2.2.2.2.2.2.2.2.2.2.2.2.1)
                       have HS14_ := (hb.cell (World.block_lt_of_cell? _ _ (hHeld.2.2.2.2.2.2.2.2.2.2.2.2.2.2.1))).trans (hHeld.2.2.2.2.2.2.2.2.2.2.2.2.2.2.1)
                       have HS15_ := (hb.cell (World.block_lt_of_cell? _ _ (hHeld.2.2.2.2.2.2.2.2.2.2.2.2.2.2.2.1))).trans (hHeld.2.2.2.2.2.2.2.2.2.2.2.2.2.2.2.1)
                       have HS16_ := (hb.cell (World.block_lt_of_cell? _ _ (hHeld.2.2.2.2.2.2.2.2.2.2.2.2.2.2.2.2.1))).trans (hHeld.2.2.2.2.2.2.2.2.2.2.2.2.2.2.2.2.1)
                       have HS17_ := (hb.cell (World.block_lt_of_cell? _ _ (hHeld.2.2.2.2.2.2.2.2.2.2.2.2.2.2.2.2.2.1))).trans (hHeld.2.2.2.2.2.2.2.2.2.2.2.2.2.2.2.2.2.1)
                       have HS18_ := (hb.cell (World.block_lt_of_cell? _ _ (hHeld.2.2.2.2.2.2.2.2.2.2.2.2.2.2.2.2.2.2.1))).trans (hHeld.2.2.2.2.2.2.2.2.2.2.2.2.2.2.2.2.2.2.1)
                       have HS19_ := (hb.cell (World.block_lt_of_cell? _ _ (hHeld.2.2.2.2.2.2.2.2.2.2.2.2.2.2.2.2.2.2.2.1))).trans (hHeld.2.2.2.2.2.2.2.2.2.2.2.2.2.2.2.2.2.2.2.1)
                       have HS20_ := (hb.cell (World.block_lt_of_cell? _ _ (hHeld.2.2.2.2.2.2.2.2.2.2.2.2.2.2.2.2.2.2.2.2.1))).trans (hHeld.2.2.2.2.2.2.2.2.2.2.2.2.2.2.2.2.2.2.2.2.1)
                       have HS21_ := (hb.cell (World.block_lt_of_cell? _ _ (hHeld.2.2.2.2.2.2.2.2.2.2.2.2.2.2.2.2.2.2.2.2.2.1))).trans (hHeld.2.2.2.2.2.2.2.2.2.2.2.2.2.2.2.2.2.2.2.2.2.1)
                       have HS22_ := (hb.cell (World.block_lt_of_cell? _ _ (hHeld.2.2.2.2.2.2.2.2.2.2.2.2.2.2.2.2.2.2.2.2.2.2.1))).trans (hHeld.2.2.2.2.2.2.2.2.2.2.2.2.2.2.2.2.2.2.2.2.2.2.1)
                       have HS23_ := (hb.cell (World.block_lt_of_cell? _ _ (hHeld.2.2.2.2.2.2.2.2.2.2.2.2.2.2.2.2.2.2.2.2.2.2.2.1))).trans (hHeld.2.2.2.2.2.2.2.2.2.2.2.2.2.2.2.2.2.2.2.2.2.2.2.1)
                       have HS24_ := (hb.cell (World.block_lt_of_cell? _ _ (hHeld.2.2.2.2.2.2.2.2.2.2.2.2.2.2.2.2.2.2.2.2.2.2.2.2.1))).trans (hHeld.2.2.2.2.2.2.2.2.2.2.2.2.2.2.2.2.2.2.2.2.2.2.2.2.1)
                       have HS25_ := (hb.cell (World.block_lt_of_cell? _ _ (hHeld.2.2.2.2.2.2.2.2.2.2.2.2.2.2.2.2.2.2.2.2.2.2.2.2.2.1))).trans (hHeld.2.2.2.2.2.2.2.2.2.2.2.2.2.2.2.2.2.2.2.2.2.2.2.2.2.1)
                       have HS26_ := (hb.cell (World.block_lt_of_cell? _ _ (hHeld.2.2.2.2.2.2.2.2.2.2.2.2.2.2.2.2.2.2.2.2.2.2.2.2.2.2.1))).trans (hHeld.2.2.2.2.2.2.2.2.2.2.2.2.2.2.2.2.2.2.2.2.2.2.2.2.2.2.1)
                       have HS27_ := (hb.cell (World.block_lt_of_cell? _ _ (hHeld.2.2.2.2.2.2.2.2.2.2.2.2.2.2.2.2.2.2.2.2.2.2.2.2.2.2.2.1))).trans (hHeld.2.2.2.2.2.2.2.2.2.2.2.2.2.2.2.2.2.2.2.2.2.2.2.2.2.2.2.1)
                       have HS28_ := (hb.cell (World.block_lt_of_cell? _ _ (hHeld.2.2.2.2.2.2.2.2.2.2.2.2.2.2.2.2.2.2.2.2.2.2.2.2.2.2.2.2.1))).trans (hHeld.2.2.2.2.2.2.2.2.2.2.2.2.2.2.2.2.2.2.2.2.2.2.2.2.2.2.2.2.1)
                       have HS29_ := (hb.cell (World.block_lt_of_cell? _ _ (hHeld.2.2.2.2.2.2.2.2.2.2.2.2.2.2.2.2.2.2.2.2.2.2.2.2.2.2.2.2.2.1))).trans (hHeld.2.2.2.2.2.2.2.2.2.2.2.2.2.2.2.2.2.2.2.2.2.2.2.2.2.2.2.2.2.1)
                       have HS30_ := (hb.cell (World.block_lt_of_cell? _ _ (hHeld.2.2.2.2.2.2.2.2.2.2.2.2.2.2.2.2.2.2.2.2.2.2.2.2.2.2.2.2.2.2.1))).trans (hHeld.2.2.2.2.2.2.2.2.2.2.2.2.2.2.2.2.2.2.2.2.2.2.2.2.2.2.2.2.2.2.1)
                       have HS31_ := (hb.cell (World.block_lt_of_cell? _ _ (hHeld.2.2.2.2.2.2.2.2.2.2.2.2.2.2.2.2.2.2.2.2.2.2.2.2.2.2.2.2.2.2.2.1))).trans (hHeld.2.2.2.2.2.2.2.2.2.2.2.2.2.2.2.2.2.2.2.2.2.2.2.2.2.2.2.2.2.2.2.1)
                       have HS32_ := (hb.cell (World.block_lt_of_cell? _ _ (hHeld.2.2.2.2.2.2.2.2.2.2.2.2.2.2.2.2.2.2.2.2.2.2.2.2.2.2.2.2.2.2.2.2.1))).trans (hHeld.2.2.2.2.2.2.2.2.2.2.2.2.2.2.2.2.2.2.2.2.2.2.2.2.2.2.2.2.2.2.2.2.1)
                       have HS33_ := (hb.cell (World.block_lt_of_cell? _ _ (hHeld.2.2.2.2.2.2.2.2.2.2.2.2.2.2.2.2.2.2.2.2.2.2.2.2.2.2.2.2.2.2.2.2.2.1))).trans (hHeld.2.2.2.2.2.2.2.2.2.2.2.2.2.2.2.2.2.2.2.2.2.2.2.2.2.2.2.2.2.2.2.2.2.1)
                       have HS34_ := (hb.cell (World.block_lt_of_cell? _ _ (hHeld.2.2.2.2.2.2.2.2.2.2.2.2.2.2.2.2.2.2.2.2.2.2.2.2.2.2.2.2.2.2.2.2.2.2.1))).trans (hHeld.2.2.2.2.2.2.2.2.2.2.2.2.2.2.2.2.2.2.2.2.2.2.2.2.2.2.2.2.2.2.2.2.2.2.1)
                       have HS35_ := (hb.cell (World.block_lt_of_cell? _ _ (hHeld.2.2.2.2.2.2.2.2.2.2.2.2.2.2.2.2.2.2.2.2.2.2.2.2.2.2.2.2.2.2.2.2.2.2.2.1))).trans (hHeld.2.2.2.2.2.2.2.2.2.2.2.2.2.2.2.2.2.2.2.2.2.2.2.2.2.2.2.2.2.2.2.2.2.2.2.1)
                       have HS36_ := (hb.cell (World.block_lt_of_cell? _ _ (hHeld.2.2.2.2.2.2.2.2.2.2.2.2.2.2.2.2.2.2.2.2.2.2.2.2.2.2.2.2.2.2.2.2.2.2.2.2.1))).trans (hHeld.2.2.2.2.2.2.2.2.2.2.2.2.2.2.2.2.2.2.2.2.2.2.2.2.2.2.2.2.2.2.2.2.2.2.2.2.1)
                       have HS37_ := (hb.cell (World.block_lt_of_cell? _ _ (hHeld.2.2.2.2.2.2.2.2.2.2.2.2.2.2.2.2.2.2.2.2.2.2.2.2.2.2.2.2.2.2.2.2.2.2.2.2.2.1))).trans (hHeld.2.2.2.2.2.2.2.2.2.2.2.2.2.2.2.2.2.2.2.2.2.2.2.2.2.2.2.2.2.2.2.2.2.2.2.2.2.1)
                       have HS38_ := (hb.cell (World.block_lt_of_cell? _ _ (hHeld.2.2.2.2.2.2.2.2.2.2.2.2.2.2.2.2.2.2.2.2.2.2.2.2.2.2.2.2.2.2.2.2.2.2.2.2.2.2.1))).trans (hHeld.2.2.2.2.2.2.2.2.2.2.2.2.2.2.2.2.2.2.2.2.2.2.2.2.2.2.2.2.2.2.2.2.2.2.2.2.2.2.1)
                       have HS39_ := (hb.cell (World.block_lt_of_cell? _ _ (hHeld.2.2.2.2.2.2.2.2.2.2.2.2.2.2.2.2.2.2.2.2.2.2.2.2.2.2.2.2.2.2.2.2.2.2.2.2.2.2.2.1))).trans (hHeld.2.2.2.2.2.2.2.2.2.2.2.2.2.2.2.2.2.2.2.2.2.2.2.2.2.2.2.2.2.2.2.2.2.2.2.2.2.2.2.1)
                       have HS40_ := (hb.cell (World.block_lt_of_cell? _ _ (hHeld.2.2.2.2.2.2.2.2.2.2.2.2.2.2.2.2.2.2.2.2.2.2.2.2.2.2.2.2.2.2.2.2.2.2.2.2.2.2.2.2.1))).trans (hHeld.2.2.2.2.2.2.2.2.2.2.2.2.2.2.2.2.2.2.2.2.2.2.2.2.2.2.2.2.2.2.2.2.2.2.2.2.2.2.2.2.1)
                       have HS41_ := (hb.cell (World.block_lt_of_cell? _ _ (hHeld.2.2.2.2.2.2.2.2.2.2.2.2.2.2.2.2.2.2.2.2.2.2.2.2.2.2.2.2.2.2.2.2.2.2.2.2.2.2.2.2.2))).trans (hHeld.2.2.2.2.2.2.2.2.2.2.2.2.2.2.2.2.2.2.2.2.2.2.2.2.2.2.2.2.2.2.2.2.2.2.2.2.2.2.2.2.2)
                       refine ⟨_, rfl, ?_⟩
                       have n0_ := Aside0.mk (Kd.R_below (by (with_reducible repeat (first | apply Kd.R_alloc | apply Kd.R_drewN | apply Kd.R_drew)); exact HO_9.out) hb)
                       have n1_ := Aside0.mk (Kd.R_below (by (with_reducible repeat (first | apply Kd.R_alloc | apply Kd.R_drewN | apply Kd.R_drew)); exact HO_10.out) hb)
                       have n2_ := Aside0.mk (blk_below (g := gb231) (o := .cells #[.int .i64 a1_0, .int .i64 a1_1, .string a1_2] 24 (0, 0)) (by (with_reducible repeat (first | refine blk_drewN ?_ _ | refine blk_drew ?_ | refine blk_alloc ?_ _)); exact BK231.out) hb)
                       have n3_ := Aside0.mk (blk_below (g := gb232) (o := .cells #[.int .i64 a2_0, .int .i64 a2_1, .string a2_2] 24 (0, 0)) (by (with_reducible repeat (first | refine blk_drewN ?_ _ | refine blk_drew ?_ | refine blk_alloc ?_ _)); exact BK232.out) hb)
                       have n4_ := Aside0.mk (below_step (by repeat (first | (with_reducible first | exact HB.out | apply below_alloc | apply pw_below_drewN | apply below_drew1 | refine below_set ?_ GE231.out | refine below_set ?_ GE232.out) | exact HB.out)) hb)
                       clear HO_9
                       clear HO_10
                       clear BK231
                       clear BK232
                       clear HB
                       have HO_9 := n0_
                       have HO_10 := n1_
                       have BK231 := n2_
                       have BK232 := n3_
                       have HB := n4_
                       clear n0_ n1_ n2_ n3_ n4_
                       (try clear hb)
                       (try clear hb2)
                       (try clear hk)
                       (try clear hi)
                       refine hK.out _ _ ⟨HS0_, HS1_, HS2_, HS3_, HS4_, HS5_, HS6_, HS7_, HS8_, HS9_, HS10_, HS11_, HS12_, HS13_, HS14_, HS15_, HS16_, HS17_, HS18_, HS19_, HS20_, HS21_, HS22_, HS23_, HS24_, HS25_, HS26_, HS27_, HS28_, HS29_, HS30_, HS31_, HS32_, HS33_, HS34_, HS35_, HS36_, HS37_, HS38_, HS39_, HS40_, HS41_⟩ (fun hHeld => ?_)
                       clear hK K
                       refine norm_ (a' := ?_) ?_ ?_
                       rotate_left
                       ·show Act.put _ (some 90) _ = _
                        simp only [Act.put, List.setIfInBounds_toArray, List.set_cons_zero, List.set_cons_succ, i64_w, i32_w]
                        rfl
                       refine pure_ (i := 11) (N := some 96) (v := ?_) (a' := ?_) #[true, true, true, true, true, true, true, true, true, true, true, true, false, false, false, false, false, false, false, false, false, false, false, false, false, false, false, false, false, false, false, false, false, false, false, false, false, false, false] rfl rfl (any_of HT_.out (by kernel_rfl)) (fun _ _ _ h => h) (Or.inl ⟨by rfl, ?_⟩) ?_ ?_
                       rotate_left
                       ·intro w'
                        go_simp
                        with_reducible rfl
                       rotate_left
                       ·simp only [Act.put, List.setIfInBounds_toArray, List.set_cons_zero, List.set_cons_succ, i64_w, i32_w]
                        rfl
                       refine pure_ (i := 12) (N := some 97) (v := ?_) (a' := ?_) #[true, true, true, true, true, true, true, true, true, true, true, true, true, false, false, false, false, false, false, false, false, false, false, false, false, false, false, false, false, false, false, false, false, false, false, false, false, false, false] rfl rfl (any_of HT_.out (by kernel_rfl)) (fun _ _ _ h => h) (Or.inl ⟨by rfl, ?_⟩) ?_ ?_
                       rotate_left
                       ·intro w'
                        go_simp
                        with_reducible rfl
                       rotate_left
                       ·simp only [Act.put, List.setIfInBounds_toArray, List.set_cons_zero, List.set_cons_succ, i64_w, i32_w]
                        rfl
                       refine pure_ (i := 13) (N := some 98) (v := ?_) (a' := ?_) #[true, true, true, true, true, true, true, true, true, true, true, true, true, true, false, false, false, false, false, false, false, false, false, false, false, false, false, false, false, false, false, false, false, false, false, false, false, false, false] rfl rfl (any_of HT_.out (by kernel_rfl)) (fun _ _ _ h => h) (Or.inl ⟨by rfl, ?_⟩) ?_ ?_
                       rotate_left
                       ·intro w'
                        go_simp
                        with_reducible rfl
                       rotate_left
                       ·simp only [Act.put, List.setIfInBounds_toArray, List.set_cons_zero, List.set_cons_succ, i64_w, i32_w]
                        rfl
                       refine pure_ (i := 14) (N := some 99) (v := ?_) (a' := ?_) #[true, true, true, true, true, true, true, true, true, true, true, true, true, true, true, false, false, false, false, false, false, false, false, false, false, false, false, false, false, false, false, false, false, false, false, false, false, false, false] rfl rfl (any_of HT_.out (by kernel_rfl)) (fun _ _ _ h => h) (Or.inl ⟨by rfl, ?_⟩) ?_ ?_
                       rotate_left
                       ·intro w'
                        go_simp
                        with_reducible rfl
                       rotate_left
                       ·simp only [Act.put, List.setIfInBounds_toArray, List.set_cons_zero, List.set_cons_succ, i64_w, i32_w]
                        rfl
                       refine pure_ (i := 15) (N := some 100) (v := ?_) (a' := ?_) #[true, true, true, true, true, true, true, true, true, true, true, true, true, true, true, true, false, false, false, false, false, false, false, false, false, false, false, false, false, false, false, false, false, false, false, false, false, false, false] rfl rfl (any_of HT_.out (by kernel_rfl)) (fun _ _ _ h => h) (Or.inl ⟨by rfl, ?_⟩) ?_ ?_
                       rotate_left
                       ·intro w'
                        go_simp
                        with_reducible rfl
                       rotate_left
                       ·simp only [Act.put, List.setIfInBounds_toArray, List.set_cons_zero, List.set_cons_succ, i64_w, i32_w]
                        rfl
                       refine pure_ (i := 16) (N := some 101) (v := ?_) (a' := ?_) #[true, true, true, true, true, true, true, true, true, true, true, true, true, true, true, true, true, false, false, false, false, false, false, false, false, false, false, false, false, false, false, false, false, false, false, false, false, false, false] rfl rfl (any_of HT_.out (by kernel_rfl)) (fun _ _ _ h => h) (Or.inl ⟨by rfl, ?_⟩) ?_ ?_
                       rotate_left
                       ·intro w'
                        go_simp
                        with_reducible rfl
                       rotate_left
                       ·simp only [Act.put, List.setIfInBounds_toArray, List.set_cons_zero, List.set_cons_succ, i64_w, i32_w]
                        rfl
                       refine pure_ (i := 18) (N := some 103) (v := ?_) (a' := ?_) #[true, true, true, true, true, true, true, true, true, true, true, true, true, true, true, true, true, false, true, false, false, false, false, false, false, false, false, false, false, false, false, false, false, false, false, false, false, false, false] rfl rfl (any_of HT_.out (by kernel_rfl)) (fun _ _ _ h => h) (Or.inl ⟨by rfl, ?_⟩) ?_ ?_
                       rotate_left
                       ·intro w'
                        go_simp
                        with_reducible rfl
                       rotate_left
                       ·simp only [Act.put, List.setIfInBounds_toArray, List.set_cons_zero, List.set_cons_succ, i64_w, i32_w]
                        rfl
                       refine pure_ (i := 19) (N := some 104) (v := ?_) (a' := ?_) #[true, true, true, true, true, true, true, true, true, true, true, true, true, true, true, true, true, false, true, true, false, false, false, false, false, false, false, false, false, false, false, false, false, false, false, false, false, false, false] rfl rfl (any_of HT_.out (by kernel_rfl)) (fun _ _ _ h => h) (Or.inl ⟨by rfl, ?_⟩) ?_ ?_
                       rotate_left
                       ·intro w'
                        go_simp
                        with_reducible rfl
                       rotate_left
                       ·simp only [Act.put, List.setIfInBounds_toArray, List.set_cons_zero, List.set_cons_succ, i64_w, i32_w]
                        rfl
                       refine pure_ (i := 20) (N := some 105) (v := ?_) (a' := ?_) #[true, true, true, true, true, true, true, true, true, true, true, true, true, true, true, true, true, false, true, true, true, false, false, false, false, false, false, false, false, false, false, false, false, false, false, false, false, false, false] rfl rfl (any_of HT_.out (by kernel_rfl)) (fun _ _ _ h => h) (Or.inl ⟨by rfl, ?_⟩) ?_ ?_
                       rotate_left
                       ·intro w'
                        go_simp
                        with_reducible rfl
                       rotate_left
                       ·simp only [Act.put, List.setIfInBounds_toArray, List.set_cons_zero, List.set_cons_succ, i64_w, i32_w]
                        rfl
                       refine pure_ (i := 21) (N := some 106) (v := ?_) (a' := ?_) #[true, true, true, true, true, true, true, true, true, true, true, true, true, true, true, true, true, false, true, true, true, true, false, false, false, false, false, false, false, false, false, false, false, false, false, false, false, false, false] rfl rfl (any_of HT_.out (by kernel_rfl)) (fun _ _ _ h => h) (Or.inl ⟨by rfl, ?_⟩) ?_ ?_
                       rotate_left
                       ·intro w'
                        go_simp
                        with_reducible rfl
                       rotate_left
                       ·simp only [Act.put, List.setIfInBounds_toArray, List.set_cons_zero, List.set_cons_succ, i64_w, i32_w]
                        rfl
                       refine take_ (i := 17) (N := some 102) (v := ?_) (a' := ?_) #[true, true, true, true, true, true, true, true, true, true, true, true, true, true, true, true, true, true, true, true, true, true, false, false, false, false, false, false, false, false, false, false, false, false, false, false, false, false, false] rfl rfl (take_ofW HT_.out HW_.out (by kernel_rfl)) (fun _ _ _ h => h) (Or.inl ⟨by rfl, ?_⟩) hHeld ?_ ?_
                       rotate_left
                       ·rintro w' ⟨s0, s1, s2, s3, s4, s5, s6, s7, s8, s9, s10, s11, s12, s13, s14, s15, s16, s17, s18, s19, s20, s21, s22, s23, s24, s25, s26, s27, s28, s29, s30, s31, s32, s33, s34, s35, s36, s37, s38, s39, s40, s41⟩
                        go_simp
                        with_reducible rfl
                       rotate_left
                       ·simp only [Act.put, List.setIfInBounds_toArray, List.set_cons_zero, List.set_cons_succ, i64_w, i32_w]
                        rfl
                       refine take_ (i := 22) (N := some 107) (v := ?_) (a' := ?_) #[true, true, true, true, true, true, true, true, true, true, true, true, true, true, true, true, true, true, true, true, true, true, true, false, false, false, false, false, false, false, false, false, false, false, false, false, false, false, false] rfl rfl (take_ofW HT_.out HW_.out (by kernel_rfl)) (fun _ _ _ h => h) (Or.inl ⟨by rfl, ?_⟩) hHeld ?_ ?_
                       rotate_left
                       ·rintro w' ⟨s0, s1, s2, s3, s4, s5, s6, s7, s8, s9, s10, s11, s12, s13, s14, s15, s16, s17, s18, s19, s20, s21, s22, s23, s24, s25, s26, s27, s28, s29, s30, s31, s32, s33, s34, s35, s36, s37, s38, s39, s40, s41⟩
                        go_simp
                        with_reducible rfl
                       rotate_left
                       ·simp only [Act.put, List.setIfInBounds_toArray, List.set_cons_zero, List.set_cons_succ, i64_w, i32_w]
                        rfl
                       refine pure_ (i := 23) (N := some 108) (v := ?_) (a' := ?_) #[true, true, true, true, true, true, true, true, true, true, true, true, true, true, true, true, true, true, true, true, true, true, true, true, false, false, false, false, false, false, false, false, false, false, false, false, false, false, false] rfl rfl (any_of HT_.out (by kernel_rfl)) (fun _ _ _ h => h) (Or.inl ⟨by rfl, ?_⟩) ?_ ?_
                       rotate_left
                       ·intro w'
                        go_simp
                        with_reducible rfl
                       rotate_left
                       ·simp only [Act.put, List.setIfInBounds_toArray, List.set_cons_zero, List.set_cons_succ, i64_w, i32_w]
                        rfl
                       refine pure_ (i := 24) (N := some 109) (v := ?_) (a' := ?_) #[true, true, true, true, true, true, true, true, true, true, true, true, true, true, true, true, true, true, true, true, true, true, true, true, true, false, false, false, false, false, false, false, false, false, false, false, false, false, false] rfl rfl (any_of HT_.out (by kernel_rfl)) (fun _ _ _ h => h) (Or.inl ⟨by rfl, ?_⟩) ?_ ?_
                       rotate_left
                       ·intro w'
                        go_simp
                        with_reducible rfl
                       rotate_left
                       ·simp only [Act.put, List.setIfInBounds_toArray, List.set_cons_zero, List.set_cons_succ, i64_w, i32_w]
                        rfl
                       refine pure_ (i := 25) (N := some 110) (v := ?_) (a' := ?_) #[true, true, true, true, true, true, true, true, true, true, true, true, true, true, true, true, true, true, true, true, true, true, true, true, true, true, false, false, false, false, false, false, false, false, false, false, false, false, false] rfl rfl (any_of HT_.out (by kernel_rfl)) (fun _ _ _ h => h) (Or.inl ⟨by rfl, ?_⟩) ?_ ?_
                       rotate_left
                       ·intro w'
                        go_simp
                        with_reducible rfl
                       rotate_left
                       ·simp only [Act.put, List.setIfInBounds_toArray, List.set_cons_zero, List.set_cons_succ, i64_w, i32_w]
                        rfl
                       refine pure_ (i := 26) (N := some 111) (v := ?_) (a' := ?_) #[true, true, true, true, true, true, true, true, true, true, true, true, true, true, true, true, true, true, true, true, true, true, true, true, true, true, true, false, false, false, false, false, false, false, false, false, false, false, false] rfl rfl (any_of HT_.out (by kernel_rfl)) (fun _ _ _ h => h) (Or.inl ⟨by rfl, ?_⟩) ?_ ?_
                       rotate_left
                       ·intro w'
                        go_simp
                        with_reducible rfl
                       rotate_left
                       ·simp only [Act.put, List.setIfInBounds_toArray, List.set_cons_zero, List.set_cons_succ, i64_w, i32_w]
                        rfl
                       refine pure_ (i := 27) (N := some 112) (v := ?_) (a' := ?_) #[true, true, true, true, true, true, true, true, true, true, true, true, true, true, true, true, true, true, true, true, true, true, true, true, true, true, true, true, false, false, false, false, false, false, false, false, false, false, false] rfl rfl (any_of HT_.out (by kernel_rfl)) (fun _ _ _ h => h) (Or.inl ⟨by rfl, ?_⟩) ?_ ?_
                       rotate_left
                       ·intro w'
                        go_simp
                        with_reducible rfl
                       rotate_left
                       ·simp only [Act.put, List.setIfInBounds_toArray, List.set_cons_zero, List.set_cons_succ, i64_w, i32_w]
                        rfl
                       refine pure_ (i := 28) (N := some 113) (v := ?_) (a' := ?_) #[true, true, true, true, true, true, true, true, true, true, true, true, true, true, true, true, true, true, true, true, true, true, true, true, true, true, true, true, true, false, false, false, false, false, false, false, false, false, false] rfl rfl (any_of HT_.out (by kernel_rfl)) (fun _ _ _ h => h) (Or.inl ⟨by rfl, ?_⟩) ?_ ?_
                       rotate_left
                       ·intro w'
                        go_simp
                        with_reducible rfl
                       rotate_left
                       ·simp only [Act.put, List.setIfInBounds_toArray, List.set_cons_zero, List.set_cons_succ, i64_w, i32_w]
                        rfl
                       refine pure_ (i := 29) (N := some 114) (v := ?_) (a' := ?_) #[true, true, true, true, true, true, true, true, true, true, true, true, true, true, true, true, true, true, true, true, true, true, true, true, true, true, true, true, true, true, false, false, false, false, false, false, false, false, false] rfl rfl (any_of HT_.out (by kernel_rfl)) (fun _ _ _ h => h) (Or.inl ⟨by rfl, ?_⟩) ?_ ?_
                       rotate_left
                       ·intro w'
                        go_simp
                        with_reducible rfl
                       rotate_left
                       ·simp only [Act.put, List.setIfInBounds_toArray, List.set_cons_zero, List.set_cons_succ, i64_w, i32_w]
                        rfl
                       refine pure_ (i := 32) (N := some 117) (v := ?_) (a' := ?_) #[true, true, true, true, true, true, true, true, true, true, true, true, true, true, true, true, true, true, true, true, true, true, true, true, true, true, true, true, true, true, false, false, true, false, false, false, false, false, false] rfl rfl (any_of HT_.out (by kernel_rfl)) (fun _ _ _ h => h) (Or.inl ⟨by rfl, ?_⟩) ?_ ?_
                       rotate_left
                       ·intro w'
                        go_simp
                        with_reducible rfl
                       rotate_left
                       ·simp only [Act.put, List.setIfInBounds_toArray, List.set_cons_zero, List.set_cons_succ, i64_w, i32_w]
                        rfl
                       refine pure_ (i := 33) (N := some 118) (v := ?_) (a' := ?_) #[true, true, true, true, true, true, true, true, true, true, true, true, true, true, true, true, true, true, true, true, true, true, true, true, true, true, true, true, true, true, false, false, true, true, false, false, false, false, false] rfl rfl (any_of HT_.out (by kernel_rfl)) (fun _ _ _ h => h) (Or.inl ⟨by rfl, ?_⟩) ?_ ?_
                       rotate_left
                       ·intro w'
                        go_simp
                        with_reducible rfl
                       rotate_left
                       ·simp only [Act.put, List.setIfInBounds_toArray, List.set_cons_zero, List.set_cons_succ, i64_w, i32_w]
                        rfl
                       refine pure_ (i := 34) (N := some 119) (v := ?_) (a' := ?_) #[true, true, true, true, true, true, true, true, true, true, true, true, true, true, true, true, true, true, true, true, true, true, true, true, true, true, true, true, true, true, false, false, true, true, true, false, false, false, false] rfl rfl (any_of HT_.out (by kernel_rfl)) (fun _ _ _ h => h) (Or.inl ⟨by rfl, ?_⟩) ?_ ?_
                       rotate_left
                       ·intro w'
                        go_simp
                        with_reducible rfl
                       rotate_left
                       ·simp only [Act.put, List.setIfInBounds_toArray, List.set_cons_zero, List.set_cons_succ, i64_w, i32_w]
                        rfl
                       refine pure_ (i := 35) (N := some 120) (v := ?_) (a' := ?_) #[true, true, true, true, true, true, true, true, true, true, true, true, true, true, true, true, true, true, true, true, true, true, true, true, true, true, true, true, true, true, false, false, true, true, true, true, false, false, false] rfl rfl (any_of HT_.out (by kernel_rfl)) (fun _ _ _ h => h) (Or.inl ⟨by rfl, ?_⟩) ?_ ?_
                       rotate_left
                       ·intro w'
                        go_simp
                        with_reducible rfl
                       rotate_left
                       ·simp only [Act.put, List.setIfInBounds_toArray, List.set_cons_zero, List.set_cons_succ, i64_w, i32_w]
                        rfl
                       refine take_ (i := 30) (N := some 115) (v := ?_) (a' := ?_) #[true, true, true, true, true, true, true, true, true, true, true, true, true, true, true, true, true, true, true, true, true, true, true, true, true, true, true, true, true, true, true, false, true, true, true, true, false, false, false] rfl rfl (take_ofW HT_.out HW_.out (by kernel_rfl)) (fun _ _ _ h => h) (Or.inl ⟨by rfl, ?_⟩) hHeld ?_ ?_
                       rotate_left
                       ·rintro w' ⟨s0, s1, s2, s3, s4, s5, s6, s7, s8, s9, s10, s11, s12, s13, s14, s15, s16, s17, s18, s19, s20, s21, s22, s23, s24, s25, s26, s27, s28, s29, s30, s31, s32, s33, s34, s35, s36, s37, s38, s39, s40, s41⟩
                        go_simp
                        with_reducible rfl
                       rotate_left
                       ·simp only [Act.put, List.setIfInBounds_toArray, List.set_cons_zero, List.set_cons_succ, i64_w, i32_w]
                        rfl
                       refine take_ (i := 36) (N := some 121) (v := ?_) (a' := ?_) #[true, true, true, true, true, true, true, true, true, true, true, true, true, true, true, true, true, true, true, true, true, true, true, true, true, true, true, true, true, true, true, false, true, true, true, true, true, false, false] rfl rfl (take_ofW HT_.out HW_.out (by kernel_rfl)) (fun _ _ _ h => h) (Or.inl ⟨by rfl, ?_⟩) hHeld ?_ ?_
                       rotate_left
                       ·rintro w' ⟨s0, s1, s2, s3, s4, s5, s6, s7, s8, s9, s10, s11, s12, s13, s14, s15, s16, s17, s18, s19, s20, s21, s22, s23, s24, s25, s26, s27, s28, s29, s30, s31, s32, s33, s34, s35, s36, s37, s38, s39, s40, s41⟩
                        go_simp
                        with_reducible rfl
                       rotate_left
                       ·simp only [Act.put, List.setIfInBounds_toArray, List.set_cons_zero, List.set_cons_succ, i64_w, i32_w]
                        rfl
                       refine one_ (i := 31) (N := some 116) #[true, true, true, true, true, true, true, true, true, true, true, true, true, true, true, true, true, true, true, true, true, true, true, true, true, true, true, true, true, true, true, true, true, true, true, true, true, false, false] rfl rfl (one_of HT_.out (by kernel_rfl)) (by decide) (fun K hK => ?_)
                       refine goes_ Tryd.func9 (by kernel_rfl) rfl #[.agg #[.int .i64 ((rd_T40 t249 x11_6).f2.f0), .int .i64 ((rd_T40 t249 x11_6).f2.f1), .string ((rd_T40 t249 x11_6).f2.f2)]] (by rfl) rfl rfl (by (try simp only [List.map_toArray, List.map_cons, List.map_nil]); first | done | rfl | (simp only [List.length_drop, List.length_take]; rfl)) ?_
                       with_reducible refine (truantlaw18_form.calls ((rd_T40 t249 x11_6).f2.f0) ((rd_T40 t249 x11_6).f2.f1) ((rd_T40 t249 x11_6).f2.f2) t272 t273 t274 _ A76.out).mono ?_
                       rintro e w82 ⟨rfl, hb⟩
                       have HS0_ := (hb.cell (World.block_lt_of_cell? _ _ (hHeld.1))).trans (hHeld.1)
                       have HS1_ := (hb.cell (World.block_lt_of_cell? _ _ (hHeld.2.1))).trans (hHeld.2.1)
                       have HS2_ := (hb.cell (World.block_lt_of_cell? _ _ (hHeld.2.2.1))).trans (hHeld.2.2.1)
                       have HS3_ := (hb.cell (World.block_lt_of_cell? _ _ (hHeld.2.2.2.1))).trans (hHeld.2.2.2.1)
                       have HS4_ := (hb.cell (World.block_lt_of_cell? _ _ (hHeld.2.2.2.2.1))).trans (hHeld.2.2.2.2.1)
                       have HS5_ := (hb.cell (World.block_lt_of_cell? _ _ (hHeld.2.2.2.2.2.1))).trans (hHeld.2.2.2.2.2.1)
                       have HS6_ := (hb.cell (World.block_lt_of_cell? _ _ (hHeld.2.2.2.2.2.2.1))).trans (hHeld.2.2.2.2.2.2.1)
                       have HS7_ := (hb.cell (World.block_lt_of_cell? _ _ (hHeld.2.2.2.2.2.2.2.1))).trans (hHeld.2.2.2.2.2.2.2.1)
                       have HS8_ := (hb.cell (World.block_lt_of_cell? _ _ (hHeld.2.2.2.2.2.2.2.2.1))).trans (hHeld.2.2.2.2.2.2.2.2.1)
                       have HS9_ := (hb.cell (World.block_lt_of_cell? _ _ (hHeld.2.2.2.2.2.2.2.2.2.1))).trans (hHeld.2.2.2.2.2.2.2.2.2.1)
                       have HS10_ := (hb.cell (World.block_lt_of_cell? _ _ (hHeld.2.2.2.2.2.2.2.2.2.2.1))).trans (hHeld.2.2.2.2.2.2.2.2.2.2.1)
                       have HS11_ := (hb.cell (World.block_lt_of_cell? _ _ (hHeld.2.2.2.2.2.2.2.2.2.2.2.1))).trans (hHeld.2.2.2.2.2.2.2.2.2.2.2.1)
                       have HS12_ := (hb.cell (World.block_lt_of_cell? _ _ (hHeld.2.2.2.2.2.2.2.2.2.2.2.2.1))).trans (hHeld.2.2.2.2.2.2.2.2.2.2.2.2.1)
                       have HS13_ := (hb.cell (World.block_lt_of_cell? _ _ (hHeld.2.2.2.2.2.2.2.2.2.2.2.2.2.1))).trans (hHeld.2.2.2.2.2.2.2.2.2.2.2.2.2.1)
                       have HS14_ := (hb.cell (World.block_lt_of_cell? _ _ (hHeld.2.2.2.2.2.2.2.2.2.2.2.2.2.2.1))).trans (hHeld.2.2.2.2.2.2.2.2.2.2.2.2.2.2.1)
                       have HS15_ := (hb.cell (World.block_lt_of_cell? _ _ (hHeld.2.2.2.2.2.2.2.2.2.2.2.2.2.2.2.1))).trans (hHeld.2.2.2.2.2.2.2.2.2.2.2.2.2.2.2.1)
                       have HS16_ := (hb.cell (World.block_lt_of_cell? _ _ (hHeld.2.2.2.2.2.2.2.2.2.2.2.2.2.2.2.2.1))).trans (hHeld.2.2.2.2.2.2.2.2.2.2.2.2.2.2.2.2.1)
                       have HS17_ := (hb.cell (World.block_lt_of_cell? _ _ (hHeld.2.2.2.2.2.2.2.2.2.2.2.2.2.2.2.2.2.1))).trans (hHeld.2.2.2.2.2.2.2.2.2.2.2.2.2.2.2.2.2.1)
                       have HS18_ := (hb.cell (World.block_lt_of_cell? _ _ (hHeld.2.2.2.2.2.2.2.2.2.2.2.2.2.2.2.2.2.2.1))).trans (hHeld.2.2.2.2.2.2.2.2.2.2.2.2.2.2.2.2.2.2.1)
                       have HS19_ := (hb.cell (World.block_lt_of_cell? _ _ (hHeld.2.2.2.2.2.2.2.2.2.2.2.2.2.2.2.2.2.2.2.1))).trans (hHeld.2.2.2.2.2.2.2.2.2.2.2.2.2.2.2.2.2.2.2.1)
                       have HS20_ := (hb.cell (World.block_lt_of_cell? _ _ (hHeld.2.2.2.2.2.2.2.2.2.2.2.2.2.2.2.2.2.2.2.2.1))).trans (hHeld.2.2.2.2.2.2.2.2.2.2.2.2.2.2.2.2.2.2.2.2.1)
                       have HS21_ := (hb.cell (World.block_lt_of_cell? _ _ (hHeld.2.2.2.2.2.2.2.2.2.2.2.2.2.2.2.2.2.2.2.2.2.1))).trans (hHeld.2.2.2.2.2.2.2.2.2.2.2.2.2.2.2.2.2.2.2.2.2.1)
                       have HS22_ := (hb.cell (World.block_lt_of_cell? _ _ (hHeld.2.2.2.2.2.2.2.2.2.2.2.2.2.2.2.2.2.2.2.2.2.2.1))).trans (hHeld.2.2.2.2.2.2.2.2.2.2.2.2.2.2.2.2.2.2.2.2.2.2.1)
                       have HS23_ := (hb.cell (World.block_lt_of_cell? _ _ (hHeld.2.2.2.2.2.2.2.2.2.2.2.2.2.2.2.2.2.2.2.2.2.2.2.1))).trans (hHeld.2.2.2.2.2.2.2.2.2.2.2.2.2.2.2.2.2.2.2.2.2.2.2.1)
                       have HS24_ := (hb.cell (World.block_lt_of_cell? _ _ (hHeld.2.2.2.2.2.2.2.2.2.2.2.2.2.2.2.2.2.2.2.2.2.2.2.2.1))).trans (hHeld.2.2.2.2.2.2.2.2.2.2.2.2.2.2.2.2.2.2.2.2.2.2.2.2.1)
                       have HS25_ := (hb.cell (World.block_lt_of_cell? _ _ (hHeld.2.2.2.2.2.2.2.2.2.2.2.2.2.2.2.2.2.2.2.2.2.2.2.2.2.1))).trans (hHeld.2.2.2.2.2.2.2.2.2.2.2.2.2.2.2.2.2.2.2.2.2.2.2.2.2.1)
                       have HS26_ := (hb.cell (World.block_lt_of_cell? _ _ (hHeld.2.2.2.2.2.2.2.2.2.2.2.2.2.2.2.2.2.2.2.2.2.2.2.2.2.2.1))).trans (hHeld.2.2.2.2.2.2.2.2.2.2.2.2.2.2.2.2.2.2.2.2.2.2.2.2.2.2.1)
                       have HS27_ := (hb.cell (World.block_lt_of_cell? _ _ (hHeld.2.2.2.2.2.2.2.2.2.2.2.2.2.2.2.2.2.2.2.2.2.2.2.2.2.2.2.1))).trans (hHeld.2.2.2.2.2.2.2.2.2.2.2.2.2.2.2.2.2.2.2.2.2.2.2.2.2.2.2.1)
                       have HS28_ := (hb.cell (World.block_lt_of_cell? _ _ (hHeld.2.2.2.2.2.2.2.2.2.2.2.2.2.2.2.2.2.2.2.2.2.2.2.2.2.2.2.2.1))).trans (hHeld.2.2.2.2.2.2.2.2.2.2.2.2.2.2.2.2.2.2.2.2.2.2.2.2.2.2.2.2.1)
                       have HS29_ := (hb.cell (World.block_lt_of_cell? _ _ (hHeld.2.2.2.2.2.2.2.2.2.2.2.2.2.2.2.2.2.2.2.2.2.2.2.2.2.2.2.2.2.1))).trans (hHeld.2.2.2.2.2.2.2.2.2.2.2.2.2.2.2.2.2.2.2.2.2.2.2.2.2.2.2.2.2.1)
                       have HS30_ := (hb.cell (World.block_lt_of_cell? _ _ (hHeld.2.2.2.2.2.2.2.2.2.2.2.2.2.2.2.2.2.2.2.2.2.2.2.2.2.2.2.2.2.2.1))).trans (hHeld.2.2.2.2.2.2.2.2.2.2.2.2.2.2.2.2.2.2.2.2.2.2.2.2.2.2.2.2.2.2.1)
                       have HS31_ := (hb.cell (World.block_lt_of_cell? _ _ (hHeld.2.2.2.2.2.2.2.2.2.2.2.2.2.2.2.2.2.2.2.2.2.2.2.2.2.2.2.2.2.2.2.1))).trans (hHeld.2.2.2.2.2.2.2.2.2.2.2.2.2.2.2.2.2.2.2.2.2.2.2.2.2.2.2.2.2.2.2.1)
                       have HS32_ := (hb.cell (World.block_lt_of_cell? _ _ (hHeld.2.2.2.2.2.2.2.2.2.2.2.2.2.2.2.2.2.2.2.2.2.2.2.2.2.2.2.2.2.2.2.2.1))).trans (hHeld.2.2.2.2.2.2.2.2.2.2.2.2.2.2.2.2.2.2.2.2.2.2.2.2.2.2.2.2.2.2.2.2.1)
                       have HS33_ := (hb.cell (World.block_lt_of_cell? _ _ (hHeld.2.2.2.2.2.2.2.2.2.2.2.2.2.2.2.2.2.2.2.2.2.2.2.2.2.2.2.2.2.2.2.2.2.1))).trans (hHeld.2.2.2.2.2.2.2.2.2.2.2.2.2.2.2.2.2.2.2.2.2.2.2.2.2.2.2.2.2.2.2.2.2.1)
                       have HS34_ := (hb.cell (World.block_lt_of_cell? _ _ (hHeld.2.2.2.2.2.2.2.2.2.2.2.2.2.2.2.2.2.2.2.2.2.2.2.2.2.2.2.2.2.2.2.2.2.2.1))).trans (hHeld.2.2.2.2.2.2.2.2.2.2.2.2.2.2.2.2.2.2.2.2.2.2.2.2.2.2.2.2.2.2.2.2.2.2.1)
                       have HS35_ := (hb.cell (World.block_lt_of_cell? _ _ (hHeld.2.2.2.2.2.2.2.2.2.2.2.2.2.2.2.2.2.2.2.2.2.2.2.2.2.2.2.2.2.2.2.2.2.2.2.1))).trans (hHeld.2.2.2.2.2.2.2.2.2.2.2.2.2.2.2.2.2.2.2.2.2.2.2.2.2.2.2.2.2.2.2.2.2.2.2.1)
                       have HS36_ := (hb.cell (World.block_lt_of_cell? _ _ (hHeld.2.2.2.2.2.2.2.2.2.2.2.2.2.2.2.2.2.2.2.2.2.2.2.2.2.2.2.2.2.2.2.2.2.2.2.2.1))).trans (hHeld.2.2.2.2.2.2.2.2.2.2.2.2.2.2.2.2.2.2.2.2.2.2.2.2.2.2.2.2.2.2.2.2.2.2.2.2.1)
                       have HS37_ := (hb.cell (World.block_lt_of_cell? _ _ (hHeld.2.2.2.2.2.2.2.2.2.2.2.2.2.2.2.2.2.2.2.2.2.2.2.2.2.2.2.2.2.2.2.2.2.2.2.2.2.1))).trans (hHeld.2.2.2.2.2.2.2.2.2.2.2.2.2.2.2.2.2.2.2.2.2.2.2.2.2.2.2.2.2.2.2.2.2.2.2.2.2.1)
                       have HS38_ := (hb.cell (World.block_lt_of_cell? _ _ (hHeld.2.2.2.2.2.2.2.2.2.2.2.2.2.2.2.2.2.2.2.2.2.2.2.2.2.2.2.2.2.2.2.2.2.2.2.2.2.2.1))).trans (hHeld.2.2.2.2.2.2.2.2.2.2.2.2.2.2.2.2.2.2.2.2.2.2.2.2.2.2.2.2.2.2.2.2.2.2.2.2.2.2.1)
                       have HS39_ := (hb.cell (World.block_lt_of_cell? _ _ (hHeld.2.2.2.2.2.2.2.2.2.2.2.2.2.2.2.2.2.2.2.2.2.2.2.2.2.2.2.2.2.2.2.2.2.2.2.2.2.2.2.1))).trans (hHeld.2.2.2.2.2.2.2.2.2.2.2.2.2.2.2.2.2.2.2.2.2.2.2.2.2.2.2.2.2.2.2.2.2.2.2.2.2.2.2.1)
                       have HS40_ := (hb.cell (World.block_lt_of_cell? _ _ (hHeld.2.2.2.2.2.2.2.2.2.2.2.2.2.2.2.2.2.2.2.2.2.2.2.2.2.2.2.2.2.2.2.2.2.2.2.2.2.2.2.2.1))).trans (hHeld.2.2.2.2.2.2.2.2.2.2.2.2.2.2.2.2.2.2.2.2.2.2.2.2.2.2.2.2.2.2.2.2.2.2.2.2.2.2.2.2.1)
                       have HS41_ := (hb.cell (World.block_lt_of_cell? _ _ (hHeld.2.2.2.2.2.2.2.2.2.2.2.2.2.2.2.2.2.2.2.2.2.2.2.2.2.2.2.2.2.2.2.2.2.2.2.2.2.2.2.2.2))).trans (hHeld.2.2.2.2.2.2.2.2.2.2.2.2.2.2.2.2.2.2.2.2.2.2.2.2.2.2.2.2.2.2.2.2.2.2.2.2.2.2.2.2.2)
                       refine ⟨_, rfl, ?_⟩
                       have n0_ := Aside0.mk (Kd.R_below (by (with_reducible repeat (first | apply Kd.R_alloc | apply Kd.R_drewN | apply Kd.R_drew)); exact HO_9.out) hb)
                       have n1_ := Aside0.mk (Kd.R_below (by (with_reducible repeat (first | apply Kd.R_alloc | apply Kd.R_drewN | apply Kd.R_drew)); exact HO_10.out) hb)
                       have n2_ := Aside0.mk (blk_below (g := gb231) (o := .cells #[.int .i64 a1_0, .int .i64 a1_1, .string a1_2] 24 (0, 0)) (by (with_reducible repeat (first | refine blk_drewN ?_ _ | refine blk_drew ?_ | refine blk_alloc ?_ _)); exact BK231.out) hb)
                       have n3_ := Aside0.mk (blk_below (g := gb232) (o := .cells #[.int .i64 a2_0, .int .i64 a2_1, .string a2_2] 24 (0, 0)) (by (with_reducible repeat (first | refine blk_drewN ?_ _ | refine blk_drew ?_ | refine blk_alloc ?_ _)); exact BK232.out) hb)
                       have n4_ := Aside0.mk (below_step (by repeat (first | (with_reducible first | exact HB.out | apply below_alloc | apply pw_below_drewN | apply below_drew1 | refine below_set ?_ GE231.out | refine below_set ?_ GE232.out) | exact HB.out)) hb)
                       clear HO_9
                       clear HO_10
                       clear BK231
                       clear BK232
                       clear HB
                       have HO_9 := n0_
                       have HO_10 := n1_
                       have BK231 := n2_
                       have BK232 := n3_
                       have HB := n4_
                       clear n0_ n1_ n2_ n3_ n4_
                       (try clear hb)
                       (try clear hb2)
                       (try clear hk)
                       (try clear hi)
                       refine hK.out _ _ ⟨HS0_, HS1_, HS2_, HS3_, HS4_, HS5_, HS6_, HS7_, HS8_, HS9_, HS10_, HS11_, HS12_, HS13_, HS14_, HS15_, HS16_, HS17_, HS18_, HS19_, HS20_, HS21_, HS22_, HS23_, HS24_, HS25_, HS26_, HS27_, HS28_, HS29_, HS30_, HS31_, HS32_, HS33_, HS34_, HS35_, HS36_, HS37_, HS38_, HS39_, HS40_, HS41_⟩ (fun hHeld => ?_)
                       clear hK K
                       refine norm_ (a' := ?_) ?_ ?_
                       rotate_left
                       ·show Act.put _ (some 116) _ = _
                        simp only [Act.put, List.setIfInBounds_toArray, List.set_cons_zero, List.set_cons_succ, i64_w, i32_w]
                        rfl
                       refine pure_ (i := 37) (N := some 122) (v := ?_) (a' := ?_) #[true, true, true, true, true, true, true, true, true, true, true, true, true, true, true, true, true, true, true, true, true, true, true, true, true, true, true, true, true, true, true, true, true, true, true, true, true, true, false] rfl rfl (any_of HT_.out (by kernel_rfl)) (fun _ _ _ h => h) (Or.inl ⟨by rfl, ?_⟩) ?_ ?_
                       rotate_left
                       ·intro w'
                        go_simp
                        with_reducible rfl
                       rotate_left
                       ·simp only [Act.put, List.setIfInBounds_toArray, List.set_cons_zero, List.set_cons_succ, i64_w, i32_w]
                        rfl
                       refine pure_ (i := 38) (N := some 123) (v := ?_) (a' := ?_) #[true, true, true, true, true, true, true, true, true, true, true, true, true, true, true, true, true, true, true, true, true, true, true, true, true, true, true, true, true, true, true, true, true, true, true, true, true, true, true] rfl rfl (any_of HT_.out (by kernel_rfl)) (fun _ _ _ h => h) (Or.inl ⟨by rfl, ?_⟩) ?_ ?_
                       rotate_left
                       ·intro w'
                        go_simp
                        with_reducible rfl
                       rotate_left
                       ·simp only [Act.put, List.setIfInBounds_toArray, List.set_cons_zero, List.set_cons_succ, i64_w, i32_w]
                        rfl
                       refine done_ (done_of HT_.out (by kernel_rfl)) ?_
                       try go_wp2
                       go_roundg k6
                       case measure => have := HJ5.out; have := HK2.out; have := HJ23.out; have := HJ32.out; have := HJ41.out; have := HK6.out; omega
                       case rel => exact ⟨(wrap64 (x11_6 + 1)), (by first | rfl | (simp; done) | (simp [*]; done)), H', ⟨by have := HJ5.out; have := HK2.out; have := HJ23.out; have := HJ32.out; have := HJ41.out; have := HK6.out; omega⟩, ⟨by (with_reducible repeat (first | apply Kd.R_alloc | apply Kd.R_drewN | apply Kd.R_drew)); exact HO_9.out⟩, ⟨by (with_reducible repeat (first | apply Kd.R_alloc | apply Kd.R_drewN | apply Kd.R_drew)); exact HO_10.out⟩, ⟨by (with_reducible repeat (first | refine blk_drewN ?_ _ | refine blk_drew ?_ | refine blk_alloc ?_ _)); exact BK231.out⟩, ⟨by (with_reducible repeat (first | refine blk_drewN ?_ _ | refine blk_drew ?_ | refine blk_alloc ?_ _)); exact BK232.out⟩, ⟨by repeat (first | (with_reducible first | exact HB.out | apply below_alloc | apply pw_below_drewN | apply below_drew1 | refine below_set ?_ GE231.out | refine below_set ?_ GE232.out) | exact HB.out)⟩⟩
                     ·rw [if_neg c75] at H
                      exact absurd H (by simp)
                   ·rw [if_neg c72] at H
                    exact absurd H (by simp)
                  ·rw [if_neg c71] at H
                   exact absurd H (by simp)
                 ·rw [if_neg c70] at H
                  have c70b0 : decide (x11_6 < (t255.length : Int)) = false := decide_eq_false c70
                  clear c70
                  obtain rfl := Option.some.inj H
                  obtain ⟨Ao83, co83, eo83⟩ := Kd.R_slice HO_10.out
                  subst eo83
                  go_wp2
                  go_ret
                  exact ⟨by first | rfl | (simp [errW_none, errW_some] <;> rfl) | (simp [*, errW_none, errW_some] <;> rfl), by repeat (first | (with_reducible first | exact HB.out | apply below_alloc | apply pw_below_drewN | apply below_drew1 | refine below_set ?_ GE231.out | refine below_set ?_ GE232.out) | exact HB.out)⟩
 ·replace c5 := Bool.eq_false_iff.mpr c5
  subst c5
  have H1 : (none) = some r := by rw [if_neg (show ¬ (false = true) by decide)] at H; exact H
  clear H
  have H := H1
  clear H1
  exact absurd H (by simp)
end Go.Proofs.YtgidnkmlnccaiaaDoor.Q
/- How an argument of a type reads: out of the form's reading comes the value that the printed walks take. -/
namespace Go.Proofs.YtgidnkmlnccaiaaDoor.Q
open Go.RowKit Go.Proofs.YtgidnkmlnccaiaaDoorW.PrintWords Go.Proofs.YtgidnkmlnccaiaaDoorW.PrintLast Go.Proofs.YtgidnkmlnccaiaaDoorW.PrintMore
set_option linter.unusedVariables false
set_option linter.unusedSimpArgs false
/-- What reads at type t reads as a value of kind K, of which Q holds. -/
structure Opens {α : Type} (P : Program) (t : TypeId) (K : Kd α) (Q : α → Prop) : Prop where
 out : ∀ {H : Type} {enc : TypeId × Value → H} {W : World} {base : Nat} {sp : Nat → Bool} {held : Bool} {fuel : Nat} {cs : List Value} {x : DataW H × List MemPlace},
  (∀ n ∈ x.1.weights P t, n ≤ reachBytes) → DataW.trod enc P W base sp held fuel t cs = some x → ∃ y, K.K W y cs ∧ Q y
section
variable {P : Program}
theorem opens_string {t : TypeId} (ht : P.underlying t = some .string) : Opens P t Kd.string (fun s => s.size ≤ 140737488351232) := by
 constructor
 intro H enc W base sp held fuel cs x hw h
 obtain ⟨s, rfl, rfl, hs⟩ : ∃ s : ByteArray, cs = [.string s] ∧ x = (.lit (.string s.data.toList), []) ∧ s.size ≤ maxLen := by
  cases fuel with
  | zero => simp [DataW.trod] at h
  | succ n =>
   unfold DataW.trod at h
   rw [ht] at h
   split at h <;> simp_all
 refine ⟨s, rfl, ?_⟩
 have := hw s.data.toList.length (by simp [DataW.weights])
 rw [Array.length_toList] at this
 exact this
theorem opens_int {t : TypeId} {q : IntKind} (ht : P.underlying t = some (.int q)) : Opens P t (Kd.int q) (fun n => (Lit.int q n).wf = true) := by
 constructor
 intro H enc W base sp held fuel cs x hw h
 obtain ⟨n, rfl, hs⟩ : ∃ n : Int, cs = [.int q n] ∧ (Lit.int q n).wf = true := by
  cases fuel with
  | zero => simp [DataW.trod] at h
  | succ n =>
   unfold DataW.trod at h
   rw [ht] at h
   split at h <;> simp_all
 exact ⟨n, rfl, hs⟩
theorem weights_all {H : Type} {e : TypeId} : ∀ {ds : List (DataW H)} {d : DataW H}, d ∈ ds → ∀ n ∈ d.weights P e, n ∈ DataW.weightsAll P e ds
 | d0 :: ds, d, hd, n, hn => by
  simp only [DataW.weightsAll, List.mem_append]
  rcases List.mem_cons.mp hd with rfl | h
  ·exact .inl hn
  ·exact .inr (weights_all h n hn)
theorem choose_list {α : Type} {p : Nat → α → Prop} : ∀ {n : Nat}, (∀ i, i < n → ∃ y, p i y) → ∃ ys : List α, ys.length = n ∧ ∀ i y, ys[i]? = some y → p i y
 | 0, _ => ⟨[], rfl, fun i y h => by simp at h⟩
 | n + 1, h => by
  obtain ⟨ys, hl, hy⟩ := choose_list (n := n) (fun i hi => h i (by omega))
  obtain ⟨y, hp⟩ := h n (by omega)
  refine ⟨ys ++ [y], by simp [hl], fun i z hz => ?_⟩
  by_cases hi : i < n
  ·rw [List.getElem?_append_left (by omega)] at hz
   exact hy i z hz
  ·have := (List.getElem?_eq_some_iff.mp hz).1
   simp at this
   have e : i = n := by omega
   subst e
   rw [List.getElem?_append_right (by omega)] at hz
   simp [hl] at hz
   subst hz
   exact hp
theorem opens_slice {α : Type} {t e : TypeId} {K : Kd α} {Q : α → Prop} (he : Opens P e K Q) (ht : P.underlying t = some (.slice e)) (hc : P.cellsOf e = K.sz) (bytes : Nat) (hb : P.bytesOf e = bytes) :
  Opens P t (Kd.slice e K) (fun l => l.length * bytes ≤ 140737488351232 ∧ ∀ x ∈ l, Q x) := by
 constructor
 intro H enc W base sp held fuel cs x hw h
 rcases Deep.open_slice ht h with ⟨rfl, rfl⟩ | ⟨a, len, cap, m, n, D, Pl, rfl, _, hl, hm, hmm, rfl, hel⟩
 ·exact ⟨[], ⟨none, 0, rfl, Nat.le_refl _, Kd.C_nil K W⟩, by simp, by simp⟩
 ·have hlm : len ≤ m := by rw [hmm]; split <;> omega
  have hw' : ∀ i, i < len → ∀ k ∈ (D i).weights P e, k ≤ reachBytes := fun i hi k hk => hw k (by
   simp only [DataW.weights, ht, List.mem_cons, List.mem_append]
   exact .inr (.inl (weights_all (List.mem_map.mpr ⟨i, by simpa using hi, rfl⟩) k hk)))
  obtain ⟨ys, hys, hY⟩ := choose_list (n := len) (p := fun i y => (∃ c, c.length = K.sz ∧ K.K W y c ∧ ∀ j u, c[j]? = some u → W.cell? (a.add (i * K.sz + j)) = some u) ∧ Q y) (fun i hi => by
   obtain ⟨c, h1, h2⟩ := hel i (by omega)
   obtain ⟨y, hy, hq⟩ := he.out (hw' i hi) h2
   obtain ⟨_, h3, h4⟩ := World.cells?_some h1
   rw [hc] at h3 h4
   refine ⟨y, ⟨c, h3, hy, fun j u hu => ?_⟩, hq⟩
   have hj : j < K.sz := by
    have := (List.getElem?_eq_some_iff.mp hu).1
    omega
   have h5 := h4 j hj
   rw [Addr.add_add] at h5
   rw [h5, hu])
  have hlen : len ≤ maxLen := by omega
  refine ⟨ys, ⟨some a, cap, by rw [hys], by omega, rfl, by rw [hys]; unfold maxLen at hlen; omega, fun _ => ⟨a, rfl, fun j p hj => (hY j p hj).1⟩⟩, ?_, ?_⟩
  ·have := hw ((((List.range len).map D).length + ((List.range (m - len)).map fun j => D (len + j)).length) * P.bytesOf e) (by simp [DataW.weights, ht])
   rw [hb] at this
   simp only [List.length_map, List.length_range] at this
   have h2 : len * bytes ≤ (len + (m - len)) * bytes := Nat.mul_le_mul_right _ (by omega)
   rw [hys]
   unfold reachBytes at this
   omega
  ·intro x hx
   obtain ⟨i, hi, rfl⟩ := List.mem_iff_getElem.mp hx
   exact (hY i _ (List.getElem?_eq_getElem hi)).2
/-- The fields from one on. -/
structure OpensF {α : Type} (P : Program) (fs : List Field) (off : Nat) (K : Kd α) (Q : α → Prop) : Prop where
 out : ∀ {H : Type} {enc : TypeId × Value → H} {W : World} {base : Nat} {sp : Nat → Bool} {held : Bool} {fuel : Nat} {cs : List Value} {xs : List (DataW H × List MemPlace)},
  cs.length = off + K.sz → (∀ n ∈ DataW.weightsEach P (fs.map (·.type)) (xs.map (·.1)), n ≤ reachBytes) → (fs.mapM fun f => DataW.trod enc P W base sp held fuel f.type ((cs.drop f.offset).take (P.cellsOf f.type))) = some xs → ∃ y, K.K W y (cs.drop off) ∧ Q y
theorem opensF_last {α : Type} {f : Field} {off t : Nat} {K : Kd α} {Q : α → Prop} (h : Opens P t K Q) (h0 : f.type = t) (hc : P.cellsOf t = K.sz) (ho : f.offset = off) : OpensF P [f] off K Q := by
 constructor
 intro H enc W base sp held fuel cs xs hl hw hm
 subst h0
 simp only [List.mapM_cons, List.mapM_nil, Option.pure_def, Option.bind_eq_bind, Option.bind_some] at hm
 obtain ⟨x, hx, hm⟩ := Option.bind_eq_some_iff.mp hm
 obtain rfl := Option.some.inj hm
 rw [hc, ho, List.take_of_length_le (by rw [List.length_drop]; omega)] at hx
 exact h.out (fun n hn => hw n (by simp [DataW.weightsEach, hn])) hx
theorem opensF_cons {α β : Type} {f : Field} {fs : List Field} {off t : Nat} {K : Kd α} {K1 : Kd β} {Q : α → Prop} {Q1 : β → Prop} (h : Opens P t K Q) (h0 : f.type = t) (hc : P.cellsOf t = K.sz) (ho : f.offset = off) (h1 : OpensF P fs (off + K.sz) K1 Q1) :
  OpensF P (f :: fs) off (Kd.pair K K1) (fun p => Q p.1 ∧ Q1 p.2) := by
 constructor
 intro H enc W base sp held fuel cs xs hl hw hm
 subst h0
 have hl : cs.length = off + (K.sz + K1.sz) := hl
 rw [List.mapM_cons] at hm
 simp only [Option.pure_def, Option.bind_eq_bind] at hm
 obtain ⟨x, hx, hm⟩ := Option.bind_eq_some_iff.mp hm
 obtain ⟨xs', hxs, hm⟩ := Option.bind_eq_some_iff.mp hm
 obtain rfl := Option.some.inj hm
 rw [hc, ho] at hx
 obtain ⟨y, hy, hq⟩ := h.out (fun n hn => hw n (by simp only [List.map_cons, DataW.weightsEach, List.mem_append]; exact .inl hn)) hx
 obtain ⟨z, hz, hq1⟩ := h1.out (by omega) (fun n hn => hw n (by simp only [List.map_cons, DataW.weightsEach, List.mem_append]; exact .inr hn)) hxs
 refine ⟨(y, z), ⟨(cs.drop off).take K.sz, cs.drop (off + K.sz), ?_, hy, hz⟩, hq, hq1⟩
 rw [← List.drop_drop, List.take_append_drop]
theorem opens_struct {α β : Type} {t : TypeId} {fs : Array Field} {K : Kd α} {Q : α → Prop} (ht : P.underlying t = some (.struct fs)) (h : OpensF P fs.toList 0 K Q) (hc : P.cellsOf t = K.sz) (g : β → α) (g' : α → β) (hg : ∀ y, g (g' y) = y) : Opens P t (Kd.iso K g) (fun x => Q (g x)) := by
 constructor
 intro H enc W base sp held fuel cs x hw hm
 cases fuel with
 | zero => simp [DataW.trod] at hm
 | succ n =>
  unfold DataW.trod at hm
  rw [ht] at hm
  simp only at hm
  split at hm
  ·rename_i hl
   obtain ⟨xs, hxs, rfl⟩ := Option.map_eq_some_iff.mp hm
   obtain ⟨y, hy, hq⟩ := h.out (cs := cs) (xs := xs) (by rw [hl, hc]; omega) (fun n hn => hw n (by simp only [DataW.weights, ht]; exact hn)) hxs
   exact ⟨g' y, by show K.K W (g (g' y)) cs; rw [hg]; simpa using hy, by show Q (g (g' y)); rw [hg]; exact hq⟩
  ·cases hm
theorem opens_struct' {α β : Type} {t : TypeId} {fs : Array Field} {K : Kd α} {Q : α → Prop} {k : Kd β} {WF : β → Prop} (g' : α → β) (g : β → α) (ht : P.underlying t = some (.struct fs)) (h : OpensF P fs.toList 0 K Q) (hc : P.cellsOf t = K.sz) (hk : k = Kd.iso K g) (hg : ∀ y, g (g' y) = y) (hQ : ∀ x, Q (g x) → WF x) : Opens P t k WF := by
 subst hk
 constructor
 intro H enc W base sp held fuel cs x hw hm
 obtain ⟨y, h1, h2⟩ := (opens_struct ht h hc g g' hg).out hw hm
 exact ⟨y, h1, hQ y h2⟩
end
def WF64 (x : S64) : Prop := ((fun s : ByteArray => s.size ≤ 140737488351232) x.f0) ∧ ((fun s : ByteArray => s.size ≤ 140737488351232) x.f1)
theorem opens64 : Opens Tryd.prog 64 k64 WF64 :=
 opens_struct' (fun p : (ByteArray) × (ByteArray) => (⟨p.1, p.2⟩ : S64)) (fun x : S64 => (x.f0, x.f1)) Tryd.underlying64 (opensF_cons (opens_string Tryd.underlying9) rfl (by kernel_rfl) rfl (opensF_last (opens_string Tryd.underlying9) rfl (by kernel_rfl) rfl)) (by kernel_rfl) rfl (fun _ => rfl) (fun _ h => h)
def WF28 (x : S28) : Prop := ((fun s : ByteArray => s.size ≤ 140737488351232) x.f0) ∧ ((fun l : List (S64) => l.length * 32 ≤ 140737488351232 ∧ ∀ x ∈ l, WF64 x) x.f1)
theorem opens28 : Opens Tryd.prog 28 k28 WF28 :=
 opens_struct' (fun p : (ByteArray) × (List (S64)) => (⟨p.1, p.2⟩ : S28)) (fun x : S28 => (x.f0, x.f1)) Tryd.underlying28 (opensF_cons (opens_string Tryd.underlying9) rfl (by kernel_rfl) rfl (opensF_last (opens_slice opens64 Tryd.underlying26 (by kernel_rfl) 32 (by kernel_rfl)) rfl (by kernel_rfl) rfl)) (by kernel_rfl) rfl (fun _ => rfl) (fun _ h => h)
def WF24 (x : S24) : Prop := ((fun n : Int => (Lit.int .i64 n).wf = true) x.f0) ∧ ((fun n : Int => (Lit.int .i64 n).wf = true) x.f1) ∧ ((fun s : ByteArray => s.size ≤ 140737488351232) x.f2)
theorem opens24 : Opens Tryd.prog 24 k24 WF24 :=
 opens_struct' (fun p : (Int) × (Int) × (ByteArray) => (⟨p.1, p.2.1, p.2.2⟩ : S24)) (fun x : S24 => (x.f0, x.f1, x.f2)) Tryd.underlying24 (opensF_cons (opens_int Tryd.underlying3) rfl (by kernel_rfl) rfl (opensF_cons (opens_int Tryd.underlying3) rfl (by kernel_rfl) rfl (opensF_last (opens_string Tryd.underlying9) rfl (by kernel_rfl) rfl))) (by kernel_rfl) rfl (fun _ => rfl) (fun _ h => h)
def NodeExact.Pure : Prop := ∀ (l0 : List (S28)) (a1_0 : Int) (a1_1 : Int) (a1_2 : ByteArray) (a2_0 : Int) (a2_1 : Int) (a2_2 : ByteArray), (fun l : List (S28) => l.length * 40 ≤ 140737488351232 ∧ ∀ x ∈ l, WF28 x) l0 → WF24 ⟨a1_0, a1_1, a1_2⟩ → WF24 ⟨a2_0, a2_1, a2_2⟩ → ∃ k, truantlaw18_NodeExact.f k l0 a1_0 a1_1 a1_2 a2_0 a2_1 a2_2 = some true
section
variable {α : Type}
theorem Ev.pos {c : Prop} [Decidable c] {A B : Nat → Option α} {r : α} (h : c) (k : Ev A r) : Ev (fun n => if c then A n else B n) r := Ev.congr (fun n => if_pos h) k
theorem Ev.neg {c : Prop} [Decidable c] {A B : Nat → Option α} {r : α} (h : ¬ c) (k : Ev B r) : Ev (fun n => if c then A n else B n) r := Ev.congr (fun n => if_neg h) k
theorem Ev.one {β : Type} {a : Option β} {b : β} {f : Nat → β → Option α} {r : α} (h : a = some b) (k : Ev (fun n => f n b) r) : Ev (fun n => a.bind (f n)) r := Ev.congr (fun n => by rw [h]; rfl) k
theorem Ev.eq {g : Nat → Option α} {r r' : α} (k : Ev g r) (h : r = r') : Ev g r' := h ▸ k
end
/-! words -/
theorem index_ev (l : List ByteArray) (s : ByteArray) (hm : l.length ≤ 9223372036854775807) (d : Nat) : ∀ i : Nat, i ≤ l.length → l.length - i = d → (∀ j : Nat, j < i → keyIs s (l.getD j ByteArray.empty) = false) →
  Ev (fun k => slices_Index_string_string.l0 k l s (l.length : Int) (i : Int)) (findR (keyIs s) l) := by
 induction d with
 | zero =>
  intro i h0 hd h
  refine Ev.step (fun k => rfl) (Ev.neg (by omega) ?_)
  rw [find_none (z := ByteArray.empty) (fun j hj => h j (by omega))]
  exact Ev.now _
 | succ d ih =>
  intro i h0 hd h
  refine Ev.step (fun k => rfl) (Ev.pos (by omega) (Ev.pos (by omega) (Ev.pos (by omega) ?_)))
  by_cases e : keyIs s (l.getD i ByteArray.empty) = true
  ·have e2 : s.toList = (rdOf ByteArray.empty l (i : Int)).toList := (beq_iff_eq.mp e).symm
   refine Ev.pos e2 ?_
   rw [find_last (z := ByteArray.empty) (k := i) (by omega) h e]
   exact Ev.now _
  ·have e2 : ¬ s.toList = (rdOf ByteArray.empty l (i : Int)).toList := fun q => e (beq_iff_eq.mpr q.symm)
   refine Ev.neg e2 ?_
   rw [wrap_succ (by omega) (by omega)]
   exact ih (i + 1) (by omega) (by omega) (all_succ (P := fun j => keyIs s (l.getD j ByteArray.empty) = false) h (by simpa using e))
def keyB (s : ByteArray) : Bool := decide (0 ≤ findR (keyIs s) keyList)
theorem isKey_ev (s : ByteArray) : Ev (fun k => lex_IsKey.f k s) (keyB s) := by
 have h := index_ev keyList s (by decide) 16 0 (by decide) (by decide) (fun j hj => absurd hj (by omega))
 have h2 : Ev (fun k => slices_Contains_string_string.f k keyList s) (keyB s) := Ev.bind h (Ev.now _)
 exact Ev.one (a := lex_keys.f) (b := keyList) rfl (Ev.bind h2 (Ev.now _))
def wordB (s : ByteArray) : Bool := nameB s && (decide (s.size ≤ 12) && !keyB s)
theorem isWord_ev (s : ByteArray) (hs : s.size ≤ 9223372036854775807) : Ev (fun k => lex_IsWord.f k s) (wordB s) := by
 refine Ev.one (a := lex_isName.f s) (b := nameB s) (by unfold lex_isName.f; rw [if_pos hs]) ?_
 unfold wordB
 cases nameB s with
 | false => exact Ev.neg (by decide) (Ev.now _)
 | true =>
  refine Ev.pos rfl ?_
  by_cases h : s.size ≤ 12
  ·refine Ev.pos (by omega) (Ev.eq (Ev.bind (isKey_ev s) (Ev.now _)) (by simp [h]))
  ·refine Ev.neg (by omega) (Ev.eq (Ev.now _) (by simp [h]))
theorem rletter (a : Int) : truantref02_letter.f a = some (letB a) := letB_some a
theorem rdigit (a : Int) : truantref02_digit.f a = some (digB a) := digB_some a
theorem word_l (s : ByteArray) (hs : s.size ≤ 12) (d : Nat) : ∀ i : Nat, i ≤ s.size → s.size - i = d → (∀ j : Nat, j < i → lodB (bt s j) = true) →
  Ev (fun k => truantref02_Word.l0 k s (i : Int)) ((List.range s.size).all (fun i => lodB (bt s (i : Nat)))) := by
 induction d with
 | zero =>
  intro i h0 hd h
  refine Ev.step (fun k => rfl) (Ev.neg (by omega) (Ev.eq (Ev.now _) ?_))
  rw [run_all (k := i) h0 h (fun q => absurd q (by omega))]
  exact (beq_iff_eq.mpr (by omega)).symm
 | succ d ih =>
  intro i h0 hd h
  refine Ev.step (fun k => rfl) (Ev.pos (by omega) (Ev.pos (by omega) (Ev.one (rletter _) ?_)))
  have hno : lodB (bt s i) = false → Ev (fun k : Nat => (some false : Option Bool)) ((List.range s.size).all (fun i => lodB (bt s (i : Nat)))) := fun q => by
   rw [run_all (k := i) h0 h (fun _ => q), beq_eq_false_iff_ne.mpr (by omega)]
   exact Ev.now _
  have hyes : lodB (bt s i) = true → Ev (fun k => truantref02_Word.l0 k s (wrap64 ((i : Int) + 1))) ((List.range s.size).all (fun i => lodB (bt s (i : Nat)))) := fun q => by
   rw [wrap_succ (by omega) (by omega)]
   exact ih (i + 1) (by omega) (by omega) (all_succ (P := fun j => lodB (bt s (j : Nat)) = true) h q)
  cases hl : letB (bt s i) with
  | true => exact Ev.pos rfl (hyes (by unfold lodB; rw [hl]; rfl))
  | false =>
   refine Ev.neg (by decide) (Ev.one (rdigit _) ?_)
   cases hd2 : digB (bt s i) with
   | true => exact Ev.pos rfl (hyes (by unfold lodB; rw [hd2]; simp))
   | false => exact Ev.neg (by decide) (hno (by unfold lodB; rw [hl, hd2]; rfl))
theorem rword_ev (s : ByteArray) : Ev (fun k => truantref02_Word.f k s) (wordB s) := by
 have j_true : Ev (fun k => truantref02_Word.j0 k s true) false := Ev.step (f := fun _ => some false) (fun k => rfl) (Ev.now _)
 by_cases h0 : s.size = 0
 ·refine Ev.pos (by omega) (Ev.eq j_true ?_)
  simp [wordB, nameB, h0]
 ·refine Ev.neg (by omega) ?_
  by_cases h1 : s.size ≤ 12
  ·refine Ev.neg (by omega) (Ev.pos (by omega) (Ev.one (rletter _) ?_))
   cases hl : letB (bt s 0) with
   | false => exact Ev.neg (by decide) (Ev.eq j_true (by simp [wordB, nameB, hl]))
   | true =>
    refine Ev.pos rfl (Ev.one (a := truantref02_Key.f s) (b := keyB s) rfl ?_)
    cases hk : keyB s with
    | true => exact Ev.eq j_true (by simp [wordB, hk])
    | false =>
     refine Ev.step (f := fun k => truantref02_Word.l0 k s 0) (fun k => rfl) (Ev.eq (word_l s h1 s.size 0 (by omega) (by omega) (fun j hj => absurd hj (by omega))) ?_)
     have h3 : 0 < s.size := by omega
     simp [wordB, nameB, hk, hl, h1, h3]
  ·refine Ev.pos (by omega) (Ev.eq j_true ?_)
   simp [wordB, h1]
/-! types -/
/-- Behind the star, if that is a word. -/
def rest (t : ByteArray) : ByteArray := t.extract 1 t.size
def starB (t : ByteArray) : Bool := decide (0 < t.size) && (bt t 0 == 42)
def ptrB (t : ByteArray) : Bool := starB t && wordB (rest t)
def elemS (t : ByteArray) : ByteArray × Bool := if ptrB t = true then (rest t, true) else (⟨#[]⟩, false)
theorem rest_size (t : ByteArray) : (rest t).size = t.size - 1 := by unfold rest; simp
theorem cutPrefix_one (t : ByteArray) : strings_CutPrefix.f t (⟨#[42]⟩ : ByteArray) = some (if starB t = true then (rest t, true) else (t, false)) := by
 have e1 : ((⟨#[42]⟩ : ByteArray).size : Int) = 1 := rfl
 have e2 : (⟨#[42]⟩ : ByteArray).toList = [42] := by rw [ByteArray.toList_eq]
 unfold strings_CutPrefix.f stringslite_CutPrefix.f stringslite_HasPrefix.f
 rw [e1, e2]
 by_cases h0 : 0 < t.size
 ·have hb : ((t.extract 0 (1 : Int).toNat).toList == [42]) = starB t := by
   obtain ⟨⟨l⟩⟩ := t
   cases l with
   | nil => simp [ByteArray.size] at h0
   | cons x l =>
    have e3 : (ByteArray.extract ⟨⟨x :: l⟩⟩ 0 (1 : Int).toNat).toList = [x] := by
     rw [Lib.extract_toList]; rfl
    have e4 : bt ⟨⟨x :: l⟩⟩ 0 = (x.toNat : Int) := (bt_at ⟨⟨x :: l⟩⟩ 0 (by simpa using h0)).symm
    unfold starB
    rw [e3, e4]
    simp only [h0, decide_true, Bool.true_and]
    by_cases hx : x = 42
    ·subst hx; rfl
    ·rw [beq_eq_false_iff_ne.mpr (by simpa using hx), beq_eq_false_iff_ne.mpr]
     intro q
     apply hx
     apply UInt8.toNat_inj.mp
     have e42 : (42 : UInt8).toNat = 42 := rfl
     omega
  rw [if_pos (by omega), if_pos (by omega), if_pos (by omega), hb]
  simp only [Option.bind_some]
  cases starB t with
  | true => rw [if_pos rfl, if_pos (by omega), if_pos (by omega)]; rfl
  | false => rw [if_neg (by decide)]; rfl
 ·have : starB t = false := by unfold starB; simp [h0]
  rw [if_neg (by omega), this]
  rfl
theorem elem_ev (t : ByteArray) (ht : t.size ≤ 9223372036854775807) : Ev (fun k => kind_Elem.f k t) (elemS t) := by
 refine Ev.one (cutPrefix_one t) ?_
 unfold elemS ptrB
 cases starB t with
 | false => exact Ev.neg (by simp) (Ev.now _)
 | true =>
  refine Ev.pos rfl (Ev.bind (isWord_ev (rest t) (by rw [rest_size]; omega)) ?_)
  cases hw : wordB (rest t) with
  | false => exact Ev.neg (by decide) (Ev.now _)
  | true => exact Ev.pos rfl (Ev.now _)
theorem relem_ev (t : ByteArray) : Ev (fun k => truantref03_Elem.f k t) (elemS t).1 := by
 have hw1 : wordB (rest t) = true → 1 < t.size := fun h => by
  unfold wordB nameB at h
  simp at h
  have := h.1.1.1
  rw [rest_size] at this
  omega
 by_cases h2 : t.size < 2
 ·refine Ev.pos (by omega) (Ev.eq (Ev.now _) ?_)
  unfold elemS
  rw [if_neg]
  unfold ptrB
  intro q
  simp at q
  have := hw1 q.2
  omega
 ·refine Ev.neg (by omega) (Ev.pos (by omega) ?_)
  by_cases hs : bt t 0 = 42
  ·have hsb : starB t = true := by unfold starB; rw [hs]; simp; omega
   refine Ev.pos hs (Ev.pos (by omega) (Ev.bind (rword_ev (rest t)) ?_))
   unfold elemS ptrB
   rw [hsb]
   cases hw : wordB (rest t) with
   | false => exact Ev.neg (by decide) (Ev.now _)
   | true => exact Ev.pos rfl (Ev.now _)
  ·have hsb : starB t = false := by unfold starB; rw [beq_eq_false_iff_ne.mpr hs]; simp
   refine Ev.neg hs (Ev.eq (Ev.now _) ?_)
   unfold elemS ptrB
   rw [hsb]; rfl
theorem rfind_ev (l : List S28) (s : ByteArray) (hm : l.length ≤ 9223372036854775807) : Ev (fun k => truantref03_Find.f k l s) (findR (nameIs s) l) := by
 have key : ∀ (d i : Nat), i ≤ l.length → l.length - i = d → (∀ j : Nat, j < i → nameIs s (l.getD j z28) = false) → Ev (fun k => truantref03_Find.l0 k l s (i : Int)) (findR (nameIs s) l) := by
  intro d
  induction d with
  | zero =>
   intro i h0 hd h
   refine Ev.step (fun k => rfl) (Ev.neg (by omega) ?_)
   rw [find_none (z := z28) (fun j hj => h j (by omega))]
   exact Ev.now _
  | succ d ih =>
   intro i h0 hd h
   refine Ev.step (fun k => rfl) (Ev.pos (by omega) (Ev.pos (by omega) ?_))
   by_cases e : nameIs s (l.getD i z28) = true
   ·refine Ev.pos (beq_iff_eq.mp e) ?_
    rw [find_last (z := z28) (k := i) (by omega) h e]
    exact Ev.now _
   ·refine Ev.neg (fun q => e (beq_iff_eq.mpr q)) ?_
    rw [wrap_succ (by omega) (by omega)]
    exact ih (i + 1) (by omega) (by omega) (all_succ (P := fun j => nameIs s (l.getD j z28) = false) h (by simpa using e))
 exact key l.length 0 (by omega) (by omega) (fun j hj => absurd hj (by omega))
/-! the links -/
def linksD (fs : List S64) : Nat → Nat → List Int
 | 0, _ => []
 | d + 1, i => if (elemS (fs.getD i z64).f1).2 = true then (i : Int) :: linksD fs d (i + 1) else linksD fs d (i + 1)
def linksL (fs : List S64) : List Int := linksD fs fs.length 0
theorem linksD_len (fs : List S64) : ∀ d i, (linksD fs d i).length ≤ d
 | 0, i => by simp [linksD]
 | d + 1, i => by
  unfold linksD
  have := linksD_len fs d (i + 1)
  split
  ·simp; omega
  ·omega
theorem links_ev (n : ByteArray) (fs : List S64) (hm : fs.length ≤ 4398046511104) (hs : ∀ j : Nat, j < fs.length → (fs.getD j z64).f1.size ≤ 9223372036854775807) : Ev (fun k => kind_Links.f k n fs) (linksL fs) := by
 have key : ∀ (d i : Nat) (acc : List Int), i ≤ fs.length → fs.length - i = d → acc.length ≤ i → Ev (fun k => kind_Links.l0 k acc fs (fs.length : Int) (i : Int)) (acc ++ linksD fs d i) := by
  intro d
  induction d with
  | zero =>
   intro i acc h0 hd ha
   exact Ev.step (fun k => rfl) (Ev.neg (by omega) (Ev.eq (Ev.now _) (by simp [linksD])))
  | succ d ih =>
   intro i acc h0 hd ha
   refine Ev.step (fun k => rfl) (Ev.pos (by omega) (Ev.pos (by omega) (Ev.pos (by omega) (Ev.bind (elem_ev _ (hs i (by omega))) ?_))))
   rw [wrap_succ (by omega) (by omega)]
   unfold linksD
   by_cases h : (elemS (fs.getD i z64).f1).2 = true
   ·rw [if_pos h]
    refine Ev.pos h (Ev.pos (by omega) (Ev.eq (ih (i + 1) (acc ++ [(i : Int)]) (by omega) (by omega) (by simp; omega)) (by simp)))
   ·rw [if_neg h]
    exact Ev.neg h (ih (i + 1) acc (by omega) (by omega) (by omega))
 exact key fs.length 0 [] (by omega) (by omega) (by simp)
def edgeD (l : List S28) (fs : List S64) : Nat → Nat → List (Int × ByteArray)
 | 0, _ => []
 | d + 1, i => if (elemS (fs.getD i z64).f1).2 = true ∧ 0 ≤ findR (nameIs (elemS (fs.getD i z64).f1).1) l then ((i : Int), (elemS (fs.getD i z64).f1).1) :: edgeD l fs d (i + 1) else edgeD l fs d (i + 1)
theorem edgeD_len (l : List S28) (fs : List S64) : ∀ d i, (edgeD l fs d i).length ≤ d
 | 0, i => by simp [edgeD]
 | d + 1, i => by
  unfold edgeD
  have := edgeD_len l fs d (i + 1)
  split
  ·simp; omega
  ·omega
def e40 (K N : Int) (T : ByteArray) (p : Int × ByteArray) : S40 := ⟨⟨K, N, T⟩, p.1, ⟨K, N, p.2⟩⟩
def e42 (K N : Int) (T : ByteArray) (p : Int × ByteArray) : S42 := ⟨⟨K, N, T⟩, p.1, ⟨K, N, p.2⟩⟩
theorem nil_toList : (⟨#[]⟩ : ByteArray).toList = [] := by kernel_rfl
theorem elem_nil (t : ByteArray) : (elemS t).1.toList = [] ↔ (elemS t).2 = false := by
 unfold elemS
 by_cases h : ptrB t = true
 ·rw [if_pos h]
  constructor
  ·intro h2
   exfalso
   unfold ptrB wordB nameB at h
   simp at h
   have h3 := h.2.1.1.1
   have h5 : rest t = (⟨#[]⟩ : ByteArray) := bytes_eq (show (rest t).toList = _ by rw [h2, nil_toList])
   rw [h5] at h3
   exact absurd h3 (by decide)
  ·intro h2; cases h2
 ·rw [if_neg h]
  exact ⟨fun _ => rfl, fun _ => nil_toList⟩
theorem find_of (l : List S28) (s : ByteArray) : kind_Find.f l s = some (placeOf (findR (nameIs s) l)) := rfl
theorem first_loop (l : List S28) (x : Nat) (hx : x < l.length) (K N : Int) (T : ByteArray) (fs : List S64) (hfs : (l.getD x z28).f1 = fs) (hm : fs.length ≤ 1000) (hs : ∀ j : Nat, j < fs.length → (fs.getD j z64).f1.size ≤ 9223372036854775807) :
  ∀ (d i : Nat) (acc : List S40) (pre ks : List Int), i + d = fs.length → ks = pre ++ linksD fs d i → acc.length ≤ i → pre.length ≤ i →
   Ev (fun k => node_First.l0 k l (x : Int) acc ks (ks.length : Int) (pre.length : Int) K N T) (acc ++ (edgeD l fs d i).map (e40 K N T)) := by
 intro d
 induction d with
 | zero =>
  intro i acc pre ks h0 hk ha hp
  have hk' : ks = pre := by rw [hk]; simp [linksD]
  subst hk'
  exact Ev.step (fun k => rfl) (Ev.neg (by omega) (Ev.eq (Ev.now _) (by simp [edgeD])))
 | succ d ih =>
  intro i acc pre ks h0 hk ha hp
  unfold linksD at hk
  unfold edgeD
  by_cases h : (elemS (fs.getD i z64).f1).2 = true
  ·rw [if_pos h] at hk
   have hlen : ks.length = pre.length + 1 + (linksD fs d (i + 1)).length := by rw [hk]; simp; omega
   have hll := linksD_len fs d (i + 1)
   have hrd : rd ks (pre.length : Int) = (i : Int) := by rw [hk]; simp [rd]
   have hfx : (rd_T28 l (x : Int)).f1 = fs := by unfold rd_T28; rw [Int.toNat_natCast]; exact hfs
   have hfi : rd_T64 fs (i : Int) = fs.getD i z64 := by unfold rd_T64; rw [Int.toNat_natCast]
   refine Ev.step (fun k => rfl) (Ev.pos (by omega) (Ev.pos (by omega) (Ev.pos (by omega) (Ev.pos (by omega) (Ev.pos (by omega) (Ev.pos (by rw [hrd]; omega) (Ev.pos (by rw [hrd, hfx]; omega) ?_)))))))
   rw [hrd, hfx, hfi]
   refine Ev.bind (elem_ev _ (hs i (by omega))) (Ev.one (find_of _ _) ?_)
   rw [wrap_succ (by omega) (by omega)]
   by_cases hf : 0 ≤ findR (nameIs (elemS (fs.getD i z64).f1).1) l
   ·rw [if_pos ⟨h, hf⟩]
    refine Ev.pos (by unfold placeOf; rw [if_neg (by omega)]) (Ev.pos (by omega) ?_)
    have := ih (i + 1) (acc ++ [e40 K N T ((i : Int), (elemS (fs.getD i z64).f1).1)]) (pre ++ [(i : Int)]) ks (by omega) (by rw [hk]; simp) (by simp; omega) (by simp; omega)
    rw [List.length_append, List.length_singleton] at this
    exact Ev.eq this (by simp)
   ·rw [if_neg (fun e => hf e.2)]
    refine Ev.neg (by unfold placeOf; rw [if_pos (by omega)]; decide) ?_
    have := ih (i + 1) acc (pre ++ [(i : Int)]) ks (by omega) (by rw [hk]; simp) (by omega) (by simp; omega)
    rw [List.length_append, List.length_singleton] at this
    exact this
  ·rw [if_neg h] at hk
   rw [if_neg (fun e => h e.1)]
   exact ih (i + 1) acc pre ks (by omega) hk (by omega) (by omega)
theorem rfirst_loop (l : List S28) (hl : l.length ≤ 1000) (x : Nat) (hx : x < l.length) (K N : Int) (T : ByteArray) (fs : List S64) (hfs : (l.getD x z28).f1 = fs) (hm : fs.length ≤ 1000) :
  ∀ (d i : Nat) (acc : List S42), i + d = fs.length → acc.length ≤ i →
   Ev (fun k => truantref18_First.l0 k l acc (x : Int) (i : Int) K N T) (acc ++ (edgeD l fs d i).map (e42 K N T)) := by
 have hfx : (rd_T28 l (x : Int)).f1 = fs := by unfold rd_T28; rw [Int.toNat_natCast]; exact hfs
 intro d
 induction d with
 | zero =>
  intro i acc h0 ha
  exact Ev.step (fun k => rfl) (Ev.pos (by omega) (Ev.pos (by omega) (Ev.neg (by rw [hfx]; omega) (Ev.eq (Ev.now _) (by simp [edgeD])))))
 | succ d ih =>
  intro i acc h0 ha
  have hfi : rd_T64 fs (i : Int) = fs.getD i z64 := by unfold rd_T64; rw [Int.toNat_natCast]
  refine Ev.step (fun k => rfl) (Ev.pos (by omega) (Ev.pos (by omega) (Ev.pos (by rw [hfx]; omega) (Ev.pos (by omega) ?_))))
  rw [hfx, hfi]
  refine Ev.bind (relem_ev _) ?_
  rw [wrap_succ (by omega) (by omega)]
  unfold edgeD
  by_cases h : (elemS (fs.getD i z64).f1).2 = true
  ·refine Ev.neg (fun e => by rw [(elem_nil _).mp e] at h; cases h) (Ev.bind (rfind_ev l _ (by omega)) ?_)
   by_cases hf : 0 ≤ findR (nameIs (elemS (fs.getD i z64).f1).1) l
   ·rw [if_pos ⟨h, hf⟩]
    refine Ev.pos hf (Ev.pos (by omega) ?_)
    exact Ev.eq (ih (i + 1) (acc ++ [e42 K N T ((i : Int), (elemS (fs.getD i z64).f1).1)]) (by omega) (by simp; omega)) (by simp)
   ·rw [if_neg (fun e => hf e.2)]
    exact Ev.neg hf (ih (i + 1) acc (by omega) (by omega))
  ·rw [if_neg (fun e => h e.1)]
   refine Ev.pos ((elem_nil _).mpr (by simpa using h)) (ih (i + 1) acc (by omega) (by omega))
theorem find_in {α : Type} {p : α → Bool} {l : List α} (h : ¬ findR p l < 0) : ∃ j : Nat, findR p l = (j : Int) ∧ j < l.length := by
 unfold findR at h ⊢
 split
 ·rename_i hh; exact ⟨_, rfl, hh⟩
 ·rename_i hh; rw [if_neg hh] at h; exact absurd (by decide) h
theorem findR_lt {α : Type} (p : α → Bool) (l : List α) : findR p l < 0 ∨ findR p l < (l.length : Int) := by
 by_cases h : findR p l < 0
 ·exact .inl h
 ·obtain ⟨j, h1, h2⟩ := find_in h
  right; omega
def edgesOf (l : List S28) (K : Int) (T : ByteArray) : List (Int × ByteArray) :=
 if findR (nameIs T) l < 0 ∨ K < 2 ∨ K > 4 then [] else edgeD l (l.getD (findR (nameIs T) l).toNat z28).f1 (l.getD (findR (nameIs T) l).toNat z28).f1.length 0
def OkL (l : List S28) : Prop := l.length ≤ 1000 ∧ ∀ x : Nat, x < l.length → (l.getD x z28).f1.length ≤ 1000 ∧ ∀ j : Nat, j < (l.getD x z28).f1.length → ((l.getD x z28).f1.getD j z64).f1.size ≤ 9223372036854775807
theorem j0_none (l : List S28) (x K N : Int) (T : ByteArray) : Ev (fun k => node_First.j0 k l x true K N T) [] :=
 Ev.step (fun k => show node_First.j0 (k + 1) l x true K N T = some [] by simp [node_First.j0]) (Ev.now _)
theorem rj0_none (l : List S28) (x K N : Int) (T : ByteArray) : Ev (fun k => truantref18_First.j0 k l [] x true K N T) [] :=
 Ev.step (fun k => show truantref18_First.j0 (k + 1) l [] x true K N T = some [] by simp [truantref18_First.j0]) (Ev.now _)
theorem first_ev (l : List S28) (h : OkL l) (K N : Int) (T : ByteArray) : Ev (fun k => node_First.f k l K N T) ((edgesOf l K T).map (e40 K N T)) := by
 have hlt := findR_lt (nameIs T) l
 refine Ev.one (find_of l T) ?_
 unfold edgesOf
 by_cases h0 : findR (nameIs T) l < 0
 ·rw [if_pos (.inl h0)]
  refine Ev.neg (by unfold placeOf; rw [if_pos h0]; decide) (j0_none _ _ _ _ _)
 ·have hp : placeOf (findR (nameIs T) l) = (findR (nameIs T) l, true) := by unfold placeOf; rw [if_neg h0]
  rw [hp]
  obtain ⟨x, hx⟩ : ∃ x : Nat, findR (nameIs T) l = x := ⟨(findR (nameIs T) l).toNat, by omega⟩
  rw [hx] at hlt h0 ⊢
  have hxl : x < l.length := by omega
  obtain ⟨hm, hs⟩ := h.2 x hxl
  refine Ev.pos rfl ?_
  by_cases h1 : K < 2
  ·rw [if_pos (.inr (.inl h1))]
   exact Ev.pos h1 (j0_none _ _ _ _ _)
  ·refine Ev.neg h1 ?_
   by_cases h2 : K > 4
   ·rw [if_pos (.inr (.inr h2))]
    rw [decide_eq_true h2]; exact j0_none _ _ _ _ _
   ·rw [if_neg (by omega), Int.toNat_natCast]
    have hfx : (rd_T28 l (x : Int)).f1 = (l.getD x z28).f1 := by unfold rd_T28; rw [Int.toNat_natCast]
    refine Ev.step (fun k => rfl) (Ev.neg (by simpa using h2) (Ev.pos (by omega) (Ev.pos (by omega) (Ev.bind (by rw [hfx]; exact links_ev _ _ (by omega) hs) ?_))))
    exact Ev.eq (first_loop l x hxl K N T _ rfl hm hs _ 0 [] [] _ (by omega) rfl (Nat.le_refl _) (Nat.le_refl _)) (by simp)
theorem rfirst_ev (l : List S28) (h : OkL l) (K N : Int) (T : ByteArray) : Ev (fun k => truantref18_First.f k l K N T) ((edgesOf l K T).map (e42 K N T)) := by
 have hlt := findR_lt (nameIs T) l
 have hl1 := h.1
 refine Ev.one rfl (Ev.bind (rfind_ev l T (by omega)) ?_)
 unfold edgesOf
 by_cases h1 : K < 2
 ·rw [if_pos (.inr (.inl h1))]
  exact Ev.pos h1 (rj0_none _ _ _ _ _)
 ·refine Ev.neg h1 ?_
  by_cases h2 : K > 4
  ·rw [if_pos (.inr (.inr h2))]
   exact Ev.pos h2 (rj0_none _ _ _ _ _)
  ·refine Ev.neg h2 ?_
   by_cases h0 : findR (nameIs T) l < 0
   ·rw [if_pos (.inl h0)]
    rw [decide_eq_true h0]; exact rj0_none _ _ _ _ _
   ·rw [if_neg (by omega)]
    obtain ⟨x, hx⟩ : ∃ x : Nat, findR (nameIs T) l = x := ⟨(findR (nameIs T) l).toNat, by omega⟩
    rw [hx] at hlt h0 ⊢
    rw [Int.toNat_natCast]
    have hxl : x < l.length := by omega
    have hr := rfirst_loop l h.1 x hxl K N T _ rfl (h.2 x hxl).1 (l.getD x z28).f1.length 0 [] (by omega) (Nat.le_refl _)
    rw [List.nil_append] at hr
    have hd : decide ((x : Int) < 0) = false := decide_eq_false (by omega)
    rw [hd]
    exact Ev.step (fun k => show truantref18_First.j0 (k + 1) l [] (x : Int) false K N T = truantref18_First.l0 k l [] (x : Int) ((0 : Nat) : Int) K N T by simp [truantref18_First.j0]) hr
def R64 (x : Int) : Prop := -9223372036854775808 ≤ x ∧ x ≤ 9223372036854775807
theorem app_tl (a b : ByteArray) : (a ++ b).toList = a.toList ++ b.toList := by rw [Lib.toList_data, Lib.toList_data, Lib.toList_data, ByteArray.data_append, Array.toList_append]
theorem one_tl {x : Int} (h0 : 0 ≤ x) : (strOfNums [x]).toList = [UInt8.ofNat x.toNat] := by
 rw [Lib.toList_data]; simp [strOfNums]
theorem nd_le {u : Nat} (h : u < 18446744073709551616) : Lib.nDigits u ≤ 20 := Lib.nDigits_le20 u h
/-- What is left to write: the digits of n, ahead of s; and the sign. -/
def signed (b : Bool) (l : List UInt8) : List UInt8 := if b then 45 :: l else l
theorem text_end (s : ByteArray) (b : Bool) (hs : s.toList ≠ []) (hz : s.size ≤ 40) : ∃ t : ByteArray, t.toList = signed b s.toList ∧ Ev (fun k => truantref01_Text.l0 k 0 s b) t := by
 cases b with
 | false => exact ⟨s, rfl, 2, fun k hk => by obtain ⟨k, rfl⟩ : ∃ m, k = m + 2 := ⟨k - 2, by omega⟩; simp [truantref01_Text.l0, truantref01_Text.j1, hs]⟩
 | true =>
  refine ⟨⟨#[45]⟩ ++ s, ?_, 2, fun k hk => ?_⟩
  ·rw [app_tl]; rw [show (⟨#[45]⟩ : ByteArray).toList = [45] by rw [Lib.toList_data]]; rfl
  ·obtain ⟨k, rfl⟩ : ∃ m, k = m + 2 := ⟨k - 2, by omega⟩
   simp [truantref01_Text.l0, truantref01_Text.j1, hs]; omega
theorem text_step (k : Nat) (n : Int) (s : ByteArray) (b : Bool) (hn : R64 n) (h : s.toList = [] ∨ n ≠ 0) (hz : s.size ≤ 40) :
  ∃ s' : ByteArray, s'.toList = UInt8.ofNat (48 + n.natAbs % 10) :: s.toList ∧ ∀ k, truantref01_Text.l0 (k + 2) n s b = truantref01_Text.l0 k (Int.tdiv n 10) s' b := by
 have hq : wrap64 (Int.tdiv n 10) = Int.tdiv n 10 := by
  have : Int.tdiv n 10 = if n < 0 then -((-n) / 10) else n / 10 := by
   split
   ·have := Int.neg_tdiv (-n) 10
    rw [Int.neg_neg] at this
    rw [this, Int.tdiv_eq_ediv_of_nonneg (by omega)]
   ·rw [Int.tdiv_eq_ediv_of_nonneg (by omega)]
  unfold R64 at hn
  rw [this]; unfold wrap64; split <;> omega
 have hj : ∀ k, truantref01_Text.l0 (k + 2) n s b = truantref01_Text.j1 (k + 1) n s b true := by
  intro k
  simp only [truantref01_Text.l0]
  by_cases hs : s.toList = []
  ·rw [if_pos hs]
  ·rw [if_neg hs]
   have : (n != 0) = true := by rcases h with h | h; exact absurd h hs; simpa using h
   rw [this]
 have hsz : ∀ x : Int, 0 ≤ x → (strOfNums [x]).size = 1 := fun x hx => by rw [← tl_len, one_tl hx]; rfl
 by_cases hneg : Int.tmod n 10 < 0
 ·have e : (wrap64 (48 + wrap64 (-Int.tmod n 10))) % 256 = 48 + ((n.natAbs % 10 : Nat) : Int) := by
   have hlt : n < 0 := by
    rcases (show n < 0 ∨ 0 ≤ n by omega) with h | h
    ·exact h
    ·have := Int.tmod_nonneg 10 h; omega
   have e1 : Int.tmod n 10 = -((-n) % 10) := by
    have := Int.neg_tmod (-n) 10
    rw [Int.neg_neg] at this
    rw [this, Int.tmod_eq_emod_of_nonneg (by omega)]
   rw [e1]; unfold wrap64; omega
  refine ⟨strOfNums [48 + ((n.natAbs % 10 : Nat) : Int)] ++ s, ?_, fun k => ?_⟩
  ·rw [app_tl, one_tl (by omega)]
   rw [show (48 + ((n.natAbs % 10 : Nat) : Int)).toNat = 48 + n.natAbs % 10 by omega]; rfl
  ·rw [hj, truantref01_Text.j1, if_pos rfl, if_pos hneg, e, hq]
   simp only [Option.bind_some]
   rw [if_pos (by rw [hsz _ (by omega)]; omega)]
 ·have e : (wrap64 (48 + Int.tmod n 10)) % 256 = 48 + ((n.natAbs % 10 : Nat) : Int) := by
   rcases (show n < 0 ∨ 0 ≤ n by omega) with hlt | hge
   ·have e1 : Int.tmod n 10 = -((-n) % 10) := by
     have := Int.neg_tmod (-n) 10
     rw [Int.neg_neg] at this
     rw [this, Int.tmod_eq_emod_of_nonneg (by omega)]
    rw [e1] at hneg ⊢
    unfold wrap64; omega
   ·rw [Int.tmod_eq_emod_of_nonneg hge]; unfold wrap64; omega
  refine ⟨strOfNums [48 + ((n.natAbs % 10 : Nat) : Int)] ++ s, ?_, fun k => ?_⟩
  ·rw [app_tl, one_tl (by omega)]
   rw [show (48 + ((n.natAbs % 10 : Nat) : Int)).toNat = 48 + n.natAbs % 10 by omega]; rfl
  ·rw [hj, truantref01_Text.j1, if_pos rfl, if_neg hneg, e, hq]
   simp only [Option.bind_some]
   rw [if_pos (by rw [hsz _ (by omega)]; omega)]
theorem tdiv_abs (n : Int) : (Int.tdiv n 10).natAbs = n.natAbs / 10 := by
 rcases (show n < 0 ∨ 0 ≤ n by omega) with h | h
 ·have := Int.neg_tdiv (-n) 10
  rw [Int.neg_neg] at this
  rw [this, Int.tdiv_eq_ediv_of_nonneg (by omega)]; omega
 ·rw [Int.tdiv_eq_ediv_of_nonneg h]; omega
theorem text_all : ∀ (u : Nat) (n : Int) (s : ByteArray) (b : Bool), n.natAbs = u → R64 n → (s.toList = [] ∨ n ≠ 0) → s.size + Lib.nDigits u ≤ 40 → ∃ t : ByteArray, t.toList = signed b (Lib.decDigits u ++ s.toList) ∧ Ev (fun k => truantref01_Text.l0 k n s b) t := by
 intro u
 induction u using Nat.strongRecOn with
 | _ u ih =>
  intro n s b hu hn h hz
  obtain ⟨s', e1, e2⟩ := text_step 0 n s b hn h (by omega)
  have hs' : s'.size = s.size + 1 := by rw [← tl_len, e1, List.length_cons, tl_len]
  have hne : s'.toList ≠ [] := by rw [e1]; simp
  rw [hu] at e1
  by_cases h10 : u < 10
  ·have h0 : Int.tdiv n 10 = 0 := by have := tdiv_abs n; omega
   rw [Lib.nDigits_small h10] at hz
   obtain ⟨t, t1, K, t2⟩ := text_end s' b hne (by omega)
   refine ⟨t, ?_, K + 2, fun k hk => ?_⟩
   ·rw [t1, e1, Lib.decDigits, dif_pos h10, Nat.mod_eq_of_lt h10]; rfl
   ·obtain ⟨k, rfl⟩ : ∃ m, k = m + 2 := ⟨k - 2, by omega⟩
    show truantref01_Text.l0 (k + 2) n s b = some t
    rw [e2, h0]; exact t2 k (by omega)
  ·rw [Lib.nDigits_big h10] at hz
   have hq := tdiv_abs n
   have hn' : R64 (Int.tdiv n 10) := by unfold R64 at hn ⊢; omega
   obtain ⟨t, t1, K, t2⟩ := ih (u / 10) (by omega) (Int.tdiv n 10) s' b (by rw [hq, hu]) hn' (.inr (by omega)) (by omega)
   refine ⟨t, ?_, K + 2, fun k hk => ?_⟩
   ·rw [t1, e1, Lib.decDigits.eq_def u, dif_neg h10]; simp
   ·obtain ⟨k, rfl⟩ : ∃ m, k = m + 2 := ⟨k - 2, by omega⟩
    show truantref01_Text.l0 (k + 2) n s b = some t
    rw [e2]; exact t2 k (by omega)
theorem text_same {n : Int} (hn : R64 n) : ∃ t : ByteArray, t.toList = Lib.itoa n ∧ Ev (fun k => truantref01_Text.f k n) t := by
 have h0 : (⟨#[]⟩ : ByteArray).toList = [] := by rw [Lib.toList_data]
 have hd := nd_le (u := n.natAbs) (by unfold R64 at hn; omega)
 obtain ⟨t, t1, t2⟩ := text_all n.natAbs n ⟨#[]⟩ (decide (n < 0)) rfl hn (.inl h0) (by rw [show (⟨#[]⟩ : ByteArray).size = 0 from rfl]; omega)
 refine ⟨t, ?_, t2⟩
 rw [t1, h0, List.append_nil]
 unfold Lib.itoa signed
 by_cases h : n < 0
 ·simp [h]
 ·simp [h, show n.natAbs = n.toNat by omega]
def wordL (K : Int) : List UInt8 := if K = 1 then [115, 105, 116, 101] else if K = 2 then [111, 117, 116, 101, 114] else if K = 3 then [99, 97, 108, 108, 101, 101] else [101, 118, 101, 114, 121]
def textL (K N : Int) (T : ByteArray) : List UInt8 := if K < 1 ∨ K > 4 then [] else if K = 1 ∨ K = 3 then wordL K ++ 32 :: (Lib.itoa N ++ 32 :: T.toList) else wordL K ++ 32 :: T.toList
theorem mk_tl (l : List UInt8) : (⟨l.toArray⟩ : ByteArray).toList = l := by rw [Lib.toList_data]
theorem join2 (a b : ByteArray) (ha : a.size ≤ 100) (hb : b.size ≤ 1000) : strings_Join.f [a, b] ⟨#[32]⟩ = some ⟨(a.toList ++ 32 :: b.toList).toArray⟩ := by
 have h1 := tl_len a; have h2 := tl_len b
 have e : Lib.join ([a, b].map (·.data.toList)) (⟨#[32]⟩ : ByteArray).data.toList = a.toList ++ 32 :: b.toList := by
  rw [Lib.toList_data, Lib.toList_data]; simp [Lib.join, List.intercalate]
 unfold strings_Join.f
 rw [e, if_pos ⟨by simp, by simp; omega⟩]
theorem join3 (a b c : ByteArray) (ha : a.size ≤ 100) (hb : b.size ≤ 1000) (hc : c.size ≤ 1000) : strings_Join.f [a, b, c] ⟨#[32]⟩ = some ⟨(a.toList ++ 32 :: (b.toList ++ 32 :: c.toList)).toArray⟩ := by
 have h1 := tl_len a; have h2 := tl_len b; have h3 := tl_len c
 have e : Lib.join ([a, b, c].map (·.data.toList)) (⟨#[32]⟩ : ByteArray).data.toList = a.toList ++ 32 :: (b.toList ++ 32 :: c.toList) := by
  rw [Lib.toList_data, Lib.toList_data, Lib.toList_data]; simp [Lib.join, List.intercalate]
 unfold strings_Join.f
 rw [e, if_pos ⟨by simp, by simp; omega⟩]
theorem itoa_f {N : Int} (h : R64 N) : strconv_Itoa_36.f N = some ⟨(Lib.itoa N).toArray⟩ := if_pos h
theorem itoa_sz {N : Int} (h : R64 N) : (⟨(Lib.itoa N).toArray⟩ : ByteArray).size ≤ 21 := by
 have := Lib.itoa_length_le N h.1 h.2
 have e := tl_len (⟨(Lib.itoa N).toArray⟩ : ByteArray)
 rw [mk_tl (Lib.itoa N)] at e; omega
theorem text_j1 (w : ByteArray) (hw : w.size ≤ 100) (b : Bool) (K N : Int) (T : ByteArray) (hN : R64 N) (hT : T.size ≤ 1000) :
  Ev (fun k => node_Text.j1 k [w] b K N T) (if b = true then ⟨(w.toList ++ 32 :: (Lib.itoa N ++ 32 :: T.toList)).toArray⟩ else ⟨(w.toList ++ 32 :: T.toList).toArray⟩) := by
 have hi := itoa_sz hN
 cases b with
 | true =>
  rw [if_pos rfl]
  have h3 := join3 w ⟨(Lib.itoa N).toArray⟩ T hw (by omega) hT
  rw [mk_tl (Lib.itoa N)] at h3
  refine Ev.step (fun k => show node_Text.j1 (k + 1) [w] true K N T = some _ from ?_) (Ev.now _)
  simp [node_Text.j1, itoa_f hN, h3]
 | false =>
  rw [if_neg (by decide)]
  refine Ev.step (fun k => show node_Text.j1 (k + 1) [w] false K N T = some _ from ?_) (Ev.now _)
  simp [node_Text.j1, join2 w T hw hT]
theorem text_ev (K N : Int) (T : ByteArray) (hN : R64 N) (hT : T.size ≤ 1000) : Ev (fun k => node_Text.f k K N T) ⟨(textL K N T).toArray⟩ := by
 have j0n : Ev (fun k => node_Text.j0 k true K N T) (⟨#[]⟩ : ByteArray) := Ev.step (fun k => show node_Text.j0 (k + 1) true K N T = some ⟨#[]⟩ by simp [node_Text.j0]) (Ev.now _)
 unfold textL
 by_cases h1 : K < 1
 ·rw [if_pos (.inl h1)]
  exact Ev.pos h1 j0n
 ·refine Ev.neg h1 ?_
  by_cases h4 : K > 4
  ·rw [if_pos (.inr h4), decide_eq_true h4]
   exact j0n
  ·rw [if_neg (by omega), decide_eq_false h4]
   have hk : K = 1 ∨ K = 2 ∨ K = 3 ∨ K = 4 := by omega
   rcases hk with rfl | rfl | rfl | rfl
   ·refine Ev.eq (Ev.step (fun k => show node_Text.j0 (k + 1) false 1 N T = node_Text.j1 k [⟨#[115, 105, 116, 101]⟩] true 1 N T by simp [node_Text.j0, rdOf]) (text_j1 ⟨#[115, 105, 116, 101]⟩ (by decide) true 1 N T hN hT)) ?_
    rw [if_pos rfl, if_pos (.inl rfl)]; simp [wordL, Lib.toList_data]
   ·refine Ev.eq (Ev.step (fun k => show node_Text.j0 (k + 1) false 2 N T = node_Text.j1 k [⟨#[111, 117, 116, 101, 114]⟩] false 2 N T by simp [node_Text.j0, rdOf]) (text_j1 ⟨#[111, 117, 116, 101, 114]⟩ (by decide) false 2 N T hN hT)) ?_
    rw [if_neg (by decide), if_neg (by decide)]; simp [wordL, Lib.toList_data]
   ·refine Ev.eq (Ev.step (fun k => show node_Text.j0 (k + 1) false 3 N T = node_Text.j1 k [⟨#[99, 97, 108, 108, 101, 101]⟩] true 3 N T by simp [node_Text.j0, rdOf]) (text_j1 ⟨#[99, 97, 108, 108, 101, 101]⟩ (by decide) true 3 N T hN hT)) ?_
    rw [if_pos rfl, if_pos (.inr rfl)]; simp [wordL, Lib.toList_data]
   ·refine Ev.eq (Ev.step (fun k => show node_Text.j0 (k + 1) false 4 N T = node_Text.j1 k [⟨#[101, 118, 101, 114, 121]⟩] false 4 N T by simp [node_Text.j0, rdOf]) (text_j1 ⟨#[101, 118, 101, 114, 121]⟩ (by decide) false 4 N T hN hT)) ?_
    rw [if_neg (by decide), if_neg (by decide)]; simp [wordL, Lib.toList_data]
theorem rtext_ev (K N : Int) (T : ByteArray) (hN : R64 N) (hT : T.size ≤ 1000) : ∃ t : ByteArray, t.toList = textL K N T ∧ Ev (fun k => truantref18_Text.f k K N T) t := by
 obtain ⟨t, ht, hev⟩ := text_same hN
 have hl := Lib.itoa_length_le N hN.1 hN.2
 have htl := tl_len t
 rw [ht] at htl
 have s1 : ((⟨#[115, 105, 116, 101, 32]⟩ : ByteArray) ++ t).size = 5 + t.size := by rw [ByteArray.size_append]; rfl
 have s2 : (((⟨#[115, 105, 116, 101, 32]⟩ : ByteArray) ++ t) ++ (⟨#[32]⟩ : ByteArray)).size = 5 + t.size + 1 := by rw [ByteArray.size_append, s1]; rfl
 have c1 : ((⟨#[99, 97, 108, 108, 101, 101, 32]⟩ : ByteArray) ++ t).size = 7 + t.size := by rw [ByteArray.size_append]; rfl
 have c2 : (((⟨#[99, 97, 108, 108, 101, 101, 32]⟩ : ByteArray) ++ t) ++ (⟨#[32]⟩ : ByteArray)).size = 7 + t.size + 1 := by rw [ByteArray.size_append, c1]; rfl
 unfold textL
 by_cases h1 : K = 1
 ·subst h1
  refine ⟨((((⟨#[115, 105, 116, 101, 32]⟩ : ByteArray) ++ t) ++ (⟨#[32]⟩ : ByteArray)) ++ T), ?_, Ev.pos rfl (Ev.bind hev (Ev.pos (by omega) (Ev.pos (by rw [s1]; omega) (Ev.pos (by rw [s2]; omega) (Ev.now _)))))⟩
  rw [if_neg (by decide), if_pos (.inl rfl), app_tl, app_tl, app_tl, ht]
  rw [show (⟨#[115, 105, 116, 101, 32]⟩ : ByteArray).toList = [115, 105, 116, 101, 32] by rw [Lib.toList_data], show (⟨#[32]⟩ : ByteArray).toList = [32] by rw [Lib.toList_data]]
  simp [wordL]
 ·by_cases h2 : K = 2
  ·subst h2
   refine ⟨((⟨#[111, 117, 116, 101, 114, 32]⟩ : ByteArray) ++ T), ?_, Ev.neg (by decide) (Ev.pos rfl (Ev.pos (by omega) (Ev.now _)))⟩
   rw [if_neg (by decide), if_neg (by decide), app_tl, show (⟨#[111, 117, 116, 101, 114, 32]⟩ : ByteArray).toList = [111, 117, 116, 101, 114, 32] by rw [Lib.toList_data]]
   simp [wordL]
  ·by_cases h3 : K = 3
   ·subst h3
    refine ⟨((((⟨#[99, 97, 108, 108, 101, 101, 32]⟩ : ByteArray) ++ t) ++ (⟨#[32]⟩ : ByteArray)) ++ T), ?_, Ev.neg (by decide) (Ev.neg (by decide) (Ev.pos rfl (Ev.bind hev (Ev.pos (by omega) (Ev.pos (by rw [c1]; omega) (Ev.pos (by rw [c2]; omega) (Ev.now _)))))))⟩
    rw [if_neg (by decide), if_pos (.inr rfl), app_tl, app_tl, app_tl, ht]
    rw [show (⟨#[99, 97, 108, 108, 101, 101, 32]⟩ : ByteArray).toList = [99, 97, 108, 108, 101, 101, 32] by rw [Lib.toList_data], show (⟨#[32]⟩ : ByteArray).toList = [32] by rw [Lib.toList_data]]
    simp [wordL]
   ·by_cases h4 : K = 4
    ·subst h4
     refine ⟨((⟨#[101, 118, 101, 114, 121, 32]⟩ : ByteArray) ++ T), ?_, Ev.neg (by decide) (Ev.neg (by decide) (Ev.neg (by decide) (Ev.pos rfl (Ev.pos (by omega) (Ev.now _)))))⟩
     rw [if_neg (by decide), if_neg (by decide), app_tl, show (⟨#[101, 118, 101, 114, 121, 32]⟩ : ByteArray).toList = [101, 118, 101, 114, 121, 32] by rw [Lib.toList_data]]
     simp [wordL]
    ·refine ⟨⟨#[]⟩, ?_, Ev.neg h1 (Ev.neg h2 (Ev.neg h3 (Ev.neg h4 (Ev.now _))))⟩
     rw [if_pos (by omega), Lib.toList_data]
theorem less_f (a b : Nd) : truantref18_Less.f a.f0 a.f1 a.f2 b.f0 b.f1 b.f2 = some (ltN a b) := by
 unfold truantref18_Less.f ltN
 by_cases h0 : a.f0 = b.f0
 ·rw [if_pos h0, if_pos h0]
  by_cases h1 : a.f1 = b.f1
  ·rw [if_pos h1, if_pos h1]
  ·rw [if_neg h1, if_neg h1]
 ·rw [if_neg h0, if_neg h0]
theorem cmp_ev (a b : Nd) : Ev (fun k => node_Compare.f k a.f0 a.f1 a.f2 b.f0 b.f1 b.f2) (cmpN a b) := Ev.of (fun k => node_Compare.mono _ _ _ _ _ _ k) (cmpN_f a b)
theorem l1_ev (K N : Int) (T : ByteArray) (es : List (Int × ByteArray)) (hl : es.length ≤ 1000) : ∀ (d i : Nat), i + d = es.length → Ev (fun k => truantlaw18_NodeExact.l1 k (es.map (e40 K N T)) (es.map (e42 K N T)) (i : Int)) true := by
 intro d
 induction d with
 | zero =>
  intro i h0
  exact Ev.step (fun k => rfl) (Ev.neg (by rw [List.length_map]; omega) (Ev.now _))
 | succ d ih =>
  intro i h0
  have hi : i < es.length := by omega
  have r1 : rd_T40 (es.map (e40 K N T)) (i : Int) = e40 K N T es[i] := by unfold rd_T40; rw [Int.toNat_natCast]; simp [hi]
  have r2 : rd_T42 (es.map (e42 K N T)) (i : Int) = e42 K N T es[i] := by unfold rd_T42; rw [Int.toNat_natCast]; simp [hi]
  refine Ev.step (fun k => rfl) (Ev.pos (by rw [List.length_map]; omega) (Ev.pos (by omega) (Ev.pos (by rw [List.length_map]; omega) (Ev.one rfl ?_))))
  rw [r1, r2, wrap_succ (by omega) (by omega)]
  refine Ev.neg (by simp [e40, e42]) (Ev.pos rfl (Ev.one rfl (Ev.neg (by simp [e40, e42]) (ih (i + 1) (by omega)))))
theorem j3_ev (l : List S28) (hl : OkL l) (he : ∀ K T, (edgesOf l K T).length ≤ 1000) (a b : Nd) (hN : R64 a.f1) (hT : a.f2.size ≤ 1000) (c : Int) (hc : cmpN a b = c) :
  Ev (fun k => truantlaw18_NodeExact.j3 k l c a.f0 a.f1 a.f2 b.f0 b.f1 b.f2) true := by
 obtain ⟨t, ht, hev⟩ := rtext_ev a.f0 a.f1 a.f2 hN hT
 refine Ev.step (fun k => rfl) (Ev.bind (first_ev l hl a.f0 a.f1 a.f2) (Ev.one rfl (Ev.bind (rfirst_ev l hl a.f0 a.f1 a.f2) (Ev.bind (cmp_ev a b) (Ev.pos hc (Ev.bind (text_ev a.f0 a.f1 a.f2 hN hT) (Ev.one rfl (Ev.bind hev (Ev.pos (by rw [mk_tl (textL a.f0 a.f1 a.f2), ht]) ?_)))))))))
 have hne : (((List.map (e40 a.f0 a.f1 a.f2) (edgesOf l a.f0 a.f2)).length : Int) != ((List.map (e42 a.f0 a.f1 a.f2) (edgesOf l a.f0 a.f2)).length : Int)) = false := by simp
 rw [hne]
 exact Ev.step (fun k => show truantlaw18_NodeExact.j4 (k + 1) (List.map (e40 a.f0 a.f1 a.f2) (edgesOf l a.f0 a.f2)) (List.map (e42 a.f0 a.f1 a.f2) (edgesOf l a.f0 a.f2)) false = truantlaw18_NodeExact.l1 k (List.map (e40 a.f0 a.f1 a.f2) (edgesOf l a.f0 a.f2)) (List.map (e42 a.f0 a.f1 a.f2) (edgesOf l a.f0 a.f2)) ((0 : Nat) : Int) by simp [truantlaw18_NodeExact.j4]) (l1_ev a.f0 a.f1 a.f2 _ (he _ _) (edgesOf l a.f0 a.f2).length 0 (by omega))
theorem j2_ev (l : List S28) (hl : OkL l) (he : ∀ K T, (edgesOf l K T).length ≤ 1000) (a b : Nd) (hN : R64 a.f1) (hT : a.f2.size ≤ 1000) (c : Int) (h1 : ltN b a = true → cmpN a b = 1) (h2 : ltN b a = false → cmpN a b = c) :
  Ev (fun k => truantlaw18_NodeExact.j2 k l c a.f0 a.f1 a.f2 b.f0 b.f1 b.f2) true := by
 refine Ev.step (fun k => show truantlaw18_NodeExact.j2 (k + 1) l c a.f0 a.f1 a.f2 b.f0 b.f1 b.f2 = if ltN b a = true then truantlaw18_NodeExact.j3 k l 1 a.f0 a.f1 a.f2 b.f0 b.f1 b.f2 else truantlaw18_NodeExact.j3 k l c a.f0 a.f1 a.f2 b.f0 b.f1 b.f2 by simp [truantlaw18_NodeExact.j2, truantlaw18_form.f, less_f b a]) ?_
 cases h : ltN b a with
 | true => exact Ev.pos (by rfl) (j3_ev l hl he a b hN hT 1 (h1 h))
 | false => exact Ev.neg (by decide) (j3_ev l hl he a b hN hT c (h2 h))
theorem l0_ev (l : List S28) (hlen : l.length ≤ 16) (hw : ∀ x ∈ l, WF28 x) (a b : Nd) (hN : R64 a.f1) (hT : a.f2.size ≤ 1000) :
  ∀ (d i : Nat), i + d = l.length → (∀ j : Nat, j < i → (l.getD j z28).f1.length ≤ 12) → Ev (fun k => truantlaw18_NodeExact.l0 k l (i : Int) a.f0 a.f1 a.f2 b.f0 b.f1 b.f2) true := by
 intro d
 induction d with
 | zero =>
  intro i h0 hj
  have hl : OkL l := ⟨by omega, fun x hx => ⟨by have := hj x (by omega); omega, fun j hjl => by
   have h1 := (hw _ (show l.getD x z28 ∈ l by rw [getD_at _ _ hx]; exact List.getElem_mem hx)).2.2
   have h2 := (h1 _ (show (l.getD x z28).f1.getD j z64 ∈ (l.getD x z28).f1 by rw [getD_at _ _ hjl]; exact List.getElem_mem hjl)).2
   omega⟩⟩
  have he : ∀ K T, (edgesOf l K T).length ≤ 1000 := fun K T => by
   unfold edgesOf
   split
   ·simp
   ·rename_i hn
    have hlt := findR_lt (nameIs T) l
    have h1 := edgeD_len l (l.getD (findR (nameIs T) l).toNat z28).f1 (l.getD (findR (nameIs T) l).toNat z28).f1.length 0
    have h2 := (hl.2 (findR (nameIs T) l).toNat (by omega)).1
    omega
  refine Ev.step (fun k => rfl) (Ev.neg (by omega) (Ev.one rfl (Ev.one rfl (Ev.one (less_f a b) ?_))))
  cases h1 : ltN a b with
  | true => exact Ev.pos (by rfl) (j2_ev l hl he a b hN hT (-1) (fun h => by rw [ltN_asymm h1] at h; cases h) (fun _ => by unfold cmpN; rw [if_pos h1]))
  | false => exact Ev.neg (by decide) (j2_ev l hl he a b hN hT 0 (fun h => by unfold cmpN; rw [h1, if_neg (by decide), if_pos h]) (fun h => by unfold cmpN; rw [h1, if_neg (by decide), h, if_neg (by decide)]))
 | succ d ih =>
  intro i h0 hj
  have hr : (rd_T28 l (i : Int)) = l.getD i z28 := by unfold rd_T28; rw [Int.toNat_natCast]
  refine Ev.step (fun k => rfl) (Ev.pos (by omega) (Ev.pos (by omega) ?_))
  rw [hr, wrap_succ (by omega) (by omega)]
  by_cases h : ((l.getD i z28).f1.length : Int) > 12
  ·exact Ev.pos h (Ev.now _)
  ·refine Ev.neg h (ih (i + 1) (by omega) (fun j hj2 => ?_))
   rcases Nat.lt_or_ge j i with h3 | h3
   ·exact hj j h3
   ·rw [show j = i by omega]; omega
theorem NodeExact_pure : NodeExact.Pure := by
 intro l a0 a1 a2 b0 b1 b2 hl ha hb
 have hev : Ev (fun k => truantlaw18_NodeExact.f k l a0 a1 a2 b0 b1 b2) true := by
  refine Ev.one rfl (Ev.pos rfl ?_)
  have j0t : Ev (fun k => truantlaw18_NodeExact.j0 k l true a0 a1 a2 b0 b1 b2) true := Ev.step (fun k => show truantlaw18_NodeExact.j0 (k + 1) l true a0 a1 a2 b0 b1 b2 = some true by simp [truantlaw18_NodeExact.j0]) (Ev.now _)
  by_cases h1 : (l.length : Int) > 16
  ·exact Ev.pos h1 j0t
  ·refine Ev.neg h1 ?_
   by_cases h2 : (a2.size : Int) > 100
   ·exact Ev.pos h2 j0t
   ·refine Ev.neg h2 ?_
    by_cases h3 : (b2.size : Int) > 100
    ·rw [decide_eq_true h3]; exact j0t
    ·rw [decide_eq_false h3]
     have hN : R64 a1 := by
      have : (Lit.int .i64 a1).wf = true := ha.2.1
      simpa [Lit.wf, IntKind.min, IntKind.max, IntKind.signed, IntKind.bits, R64] using this
     exact Ev.step (fun k => show truantlaw18_NodeExact.j0 (k + 1) l false a0 a1 a2 b0 b1 b2 = truantlaw18_NodeExact.l0 k l ((0 : Nat) : Int) a0 a1 a2 b0 b1 b2 by simp [truantlaw18_NodeExact.j0]) (l0_ev l (by omega) hl.2 ⟨a0, a1, a2⟩ ⟨b0, b1, b2⟩ hN (by show a2.size ≤ 1000; omega) l.length 0 (by omega) (fun j hj => absurd hj (by omega)))
 obtain ⟨K, hK⟩ := hev
 exact ⟨K, hK K (Nat.le_refl _)⟩
end Go.Proofs.YtgidnkmlnccaiaaDoor.Q
