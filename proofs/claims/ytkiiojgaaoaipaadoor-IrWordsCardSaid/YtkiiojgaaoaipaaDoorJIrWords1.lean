/- What the row of IrWords rests on, part 1: contracts of the functions that it reaches, and the plain law. -/
import Derived.Test.YtkiiojgaaoaipaaDoorJIrWords0
namespace Go.Proofs.YtkiiojgaaoaipaaDoor.Q
open Go.RowKit Go.Proofs.YtkiiojgaaoaipaaDoorW.PrintWords Go.Proofs.YtkiiojgaaoaipaaDoorW.PrintLast Go.Proofs.YtkiiojgaaoaipaaDoorW.PrintMore
attribute [local go_sem] max2_int min2_int max_two min_two max_three min_three max_four min_four   -- for this text's walks alone
set_option linter.unusedVariables false
set_option linter.unusedSimpArgs false

/-! ### ir_function: function 30 -/
mutual
def ir_function.j0 : Nat → List ByteArray → ByteArray → List ByteArray → ByteArray → List ByteArray → List (S47) → List (S53) → Option (List ByteArray)
 | 0, _, _, _, _, _, _, _ => none
 | k + 1, x3, x156000, x156001, x156002, x156003, x156004, x156005 => (strings_Join.f x3 (⟨#[32]⟩ : ByteArray)).bind fun t168 => ((some (([t168] : List ByteArray) : List ByteArray)).bind fun y169 => (if (x156003.length : Int) > 0 then ((some (([(⟨#[115, 108, 111, 116, 115]⟩ : ByteArray)] : List ByteArray) : List ByteArray)).bind fun y172 => (if y172.length + x156003.length < 8796093022208 then ((strings_Join.f (y172 ++ x156003) (⟨#[32]⟩ : ByteArray)).bind fun t178 => (if y169.length < 8796093022208 then (ir_function.j1 k (y169 ++ [t178]) x156000 x156001 x156002 x156003 x156004 x156005) else (none))) else (none))) else (ir_function.j1 k y169 x156000 x156001 x156002 x156003 x156004 x156005)))
def ir_function.j1 : Nat → List ByteArray → ByteArray → List ByteArray → ByteArray → List ByteArray → List (S47) → List (S53) → Option (List ByteArray)
 | 0, _, _, _, _, _, _, _ => none
 | k + 1, x4, x156000, x156001, x156002, x156003, x156004, x156005 => ir_function.l0 k x4 x156005 (x156005.length : Int) 0 x156000 x156001 x156002 x156003 x156004 x156005
def ir_function.l0 : Nat → List ByteArray → List (S53) → Int → Int → ByteArray → List ByteArray → ByteArray → List ByteArray → List (S47) → List (S53) → Option (List ByteArray)
 | 0, _, _, _, _, _, _, _, _, _, _ => none
 | k + 1, x4, x41, x42, x43, x156000, x156001, x156002, x156003, x156004, x156005 => if x43 < x42 then (if 0 ≤ x43 then (if x43 < (x41.length : Int) then ((strconv_Itoa_42.f x43).bind fun t184 => (if 6 + t184.size ≤ 9223372036854775807 then (if x4.length < 8796093022208 then (ir_function.l1 k (x4 ++ [(⟨#[98, 108, 111, 99, 107, 32]⟩ : ByteArray) ++ t184]) x41 x42 x43 ((rd_T53 x41 x43).f0) (((rd_T53 x41 x43).f0).length : Int) 0 x156000 x156001 x156002 x156003 x156004 x156005 ((rd_T53 x41 x43).f0) ((rd_T53 x41 x43).f1) ((rd_T53 x41 x43).f2) ((rd_T53 x41 x43).f3.f0) ((rd_T53 x41 x43).f3.f1)) else (none)) else (none))) else (none)) else (none)) else (some x4)
def ir_function.l1 : Nat → List ByteArray → List (S53) → Int → Int → List Int → Int → Int → ByteArray → List ByteArray → ByteArray → List ByteArray → List (S47) → List (S53) → List Int → Int → Int → Int → Int → Option (List ByteArray)
 | 0, _, _, _, _, _, _, _, _, _, _, _, _, _, _, _, _, _, _ => none
 | k + 1, x4, x41, x42, x43, x55, x56, x57, x156000, x156001, x156002, x156003, x156004, x156005, x184000, x184001, x184002, x184003, x184004 => if x57 < x56 then (if 0 ≤ x57 then (if x57 < (x55.length : Int) then ((ir_Line.f k x156000 x156001 x156002 x156003 x156004 x156005 (rd x55 x57)).bind fun t189 => (if x4.length < 8796093022208 then (ir_function.l1 k (x4 ++ [t189]) x41 x42 x43 x55 x56 (wrap64 (x57 + 1)) x156000 x156001 x156002 x156003 x156004 x156005 x184000 x184001 x184002 x184003 x184004) else (none))) else (none)) else (none)) else ((ir_jump.f k x184000 x184001 x184002 x184003 x184004).bind fun t193 => (if x4.length < 8796093022208 then (ir_function.l0 k (x4 ++ [t193]) x41 x42 (wrap64 (x43 + 1)) x156000 x156001 x156002 x156003 x156004 x156005) else (none)))
end
def ir_function.f (k : Nat) (a0_0 : ByteArray) (l0_1 : List ByteArray) (a0_2 : ByteArray) (l0_3 : List ByteArray) (l0_4 : List (S47)) (l0_5 : List (S53)) : Option (List ByteArray) := (some (([(⟨#[102, 117, 110, 99]⟩ : ByteArray), a0_0] : List ByteArray) : List ByteArray)).bind fun y156 => (if y156.length + l0_1.length < 8796093022208 then ((some (y156 ++ l0_1 : List ByteArray)).bind fun y159 => (if y159.length < 8796093022208 then ((some (y159 ++ [(⟨#[45, 62]⟩ : ByteArray)] : List ByteArray)).bind fun y162 => (if a0_2.toList = ([] : List UInt8) then (ir_function.j0 k y162 a0_0 l0_1 a0_2 l0_3 l0_4 l0_5) else (if y162.length < 8796093022208 then (ir_function.j0 k (y162 ++ [a0_2]) a0_0 l0_1 a0_2 l0_3 l0_4 l0_5) else (none)))) else (none))) else (none))
theorem ir_function.mono_l : ∀ k, (∀ y0 y1 y2 y3 y4 y5 y6, LeO (ir_function.j0 k y0 y1 y2 y3 y4 y5 y6) (ir_function.j0 (k + 1) y0 y1 y2 y3 y4 y5 y6)) ∧ (∀ y0 y1 y2 y3 y4 y5 y6, LeO (ir_function.j1 k y0 y1 y2 y3 y4 y5 y6) (ir_function.j1 (k + 1) y0 y1 y2 y3 y4 y5 y6)) ∧ (∀ y0 y1 y2 y3 y4 y5 y6 y7 y8 y9, LeO (ir_function.l0 k y0 y1 y2 y3 y4 y5 y6 y7 y8 y9) (ir_function.l0 (k + 1) y0 y1 y2 y3 y4 y5 y6 y7 y8 y9)) ∧ (∀ y0 y1 y2 y3 y4 y5 y6 y7 y8 y9 y10 y11 y12 y13 y14 y15 y16 y17, LeO (ir_function.l1 k y0 y1 y2 y3 y4 y5 y6 y7 y8 y9 y10 y11 y12 y13 y14 y15 y16 y17) (ir_function.l1 (k + 1) y0 y1 y2 y3 y4 y5 y6 y7 y8 y9 y10 y11 y12 y13 y14 y15 y16 y17))
 | 0 => ⟨fun _ _ _ _ _ _ _ r h => by simp [ir_function.j0] at h, fun _ _ _ _ _ _ _ r h => by simp [ir_function.j1] at h, fun _ _ _ _ _ _ _ _ _ _ r h => by simp [ir_function.l0] at h, fun _ _ _ _ _ _ _ _ _ _ _ _ _ _ _ _ _ _ r h => by simp [ir_function.l1] at h⟩
 | k + 1 => by
  obtain ⟨ih0, ih1, ih2, ih3⟩ := ir_function.mono_l k
  refine ⟨?_, ?_, ?_, ?_⟩
  ·intro y0 y1 y2 y3 y4 y5 y6
   unfold ir_function.j0
   repeat' first
   | (with_reducible exact ih0 _ _ _ _ _ _ _)
   | (with_reducible exact ih1 _ _ _ _ _ _ _)
   | (with_reducible exact ih2 _ _ _ _ _ _ _ _ _ _)
   | (with_reducible exact ih3 _ _ _ _ _ _ _ _ _ _ _ _ _ _ _ _ _ _)
   | (with_reducible exact ir_Line.mono _ _ _ _ _ _ _ _)
   | (with_reducible exact ir_jump.mono _ _ _ _ _ _)
   | (with_reducible exact LeO.refl _)
   | (with_reducible exact LeO.none _)
   | (with_reducible refine LeO.ite ?_ ?_)
   | (with_reducible refine LeO.bind ?_ (fun _ => ?_))
   | exact ih0 _ _ _ _ _ _ _
   | exact ih1 _ _ _ _ _ _ _
   | exact ih2 _ _ _ _ _ _ _ _ _ _
   | exact ih3 _ _ _ _ _ _ _ _ _ _ _ _ _ _ _ _ _ _
   | exact ir_Line.mono _ _ _ _ _ _ _ _
   | exact ir_jump.mono _ _ _ _ _ _
   | exact LeO.none _
   | refine LeO.ite ?_ ?_
   | refine LeO.bind ?_ (fun _ => ?_)
  ·intro y0 y1 y2 y3 y4 y5 y6
   unfold ir_function.j1
   repeat' first
   | (with_reducible exact ih0 _ _ _ _ _ _ _)
   | (with_reducible exact ih1 _ _ _ _ _ _ _)
   | (with_reducible exact ih2 _ _ _ _ _ _ _ _ _ _)
   | (with_reducible exact ih3 _ _ _ _ _ _ _ _ _ _ _ _ _ _ _ _ _ _)
   | (with_reducible exact ir_Line.mono _ _ _ _ _ _ _ _)
   | (with_reducible exact ir_jump.mono _ _ _ _ _ _)
   | (with_reducible exact LeO.refl _)
   | (with_reducible exact LeO.none _)
   | (with_reducible refine LeO.ite ?_ ?_)
   | (with_reducible refine LeO.bind ?_ (fun _ => ?_))
   | exact ih0 _ _ _ _ _ _ _
   | exact ih1 _ _ _ _ _ _ _
   | exact ih2 _ _ _ _ _ _ _ _ _ _
   | exact ih3 _ _ _ _ _ _ _ _ _ _ _ _ _ _ _ _ _ _
   | exact ir_Line.mono _ _ _ _ _ _ _ _
   | exact ir_jump.mono _ _ _ _ _ _
   | exact LeO.none _
   | refine LeO.ite ?_ ?_
   | refine LeO.bind ?_ (fun _ => ?_)
  ·intro y0 y1 y2 y3 y4 y5 y6 y7 y8 y9
   unfold ir_function.l0
   repeat' first
   | (with_reducible exact ih0 _ _ _ _ _ _ _)
   | (with_reducible exact ih1 _ _ _ _ _ _ _)
   | (with_reducible exact ih2 _ _ _ _ _ _ _ _ _ _)
   | (with_reducible exact ih3 _ _ _ _ _ _ _ _ _ _ _ _ _ _ _ _ _ _)
   | (with_reducible exact ir_Line.mono _ _ _ _ _ _ _ _)
   | (with_reducible exact ir_jump.mono _ _ _ _ _ _)
   | (with_reducible exact LeO.refl _)
   | (with_reducible exact LeO.none _)
   | (with_reducible refine LeO.ite ?_ ?_)
   | (with_reducible refine LeO.bind ?_ (fun _ => ?_))
   | exact ih0 _ _ _ _ _ _ _
   | exact ih1 _ _ _ _ _ _ _
   | exact ih2 _ _ _ _ _ _ _ _ _ _
   | exact ih3 _ _ _ _ _ _ _ _ _ _ _ _ _ _ _ _ _ _
   | exact ir_Line.mono _ _ _ _ _ _ _ _
   | exact ir_jump.mono _ _ _ _ _ _
   | exact LeO.none _
   | refine LeO.ite ?_ ?_
   | refine LeO.bind ?_ (fun _ => ?_)
  ·intro y0 y1 y2 y3 y4 y5 y6 y7 y8 y9 y10 y11 y12 y13 y14 y15 y16 y17
   unfold ir_function.l1
   repeat' first
   | (with_reducible exact ih0 _ _ _ _ _ _ _)
   | (with_reducible exact ih1 _ _ _ _ _ _ _)
   | (with_reducible exact ih2 _ _ _ _ _ _ _ _ _ _)
   | (with_reducible exact ih3 _ _ _ _ _ _ _ _ _ _ _ _ _ _ _ _ _ _)
   | (with_reducible exact ir_Line.mono _ _ _ _ _ _ _ _)
   | (with_reducible exact ir_jump.mono _ _ _ _ _ _)
   | (with_reducible exact LeO.refl _)
   | (with_reducible exact LeO.none _)
   | (with_reducible refine LeO.ite ?_ ?_)
   | (with_reducible refine LeO.bind ?_ (fun _ => ?_))
   | exact ih0 _ _ _ _ _ _ _
   | exact ih1 _ _ _ _ _ _ _
   | exact ih2 _ _ _ _ _ _ _ _ _ _
   | exact ih3 _ _ _ _ _ _ _ _ _ _ _ _ _ _ _ _ _ _
   | exact ir_Line.mono _ _ _ _ _ _ _ _
   | exact ir_jump.mono _ _ _ _ _ _
   | exact LeO.none _
   | refine LeO.ite ?_ ?_
   | refine LeO.bind ?_ (fun _ => ?_)
theorem ir_function.mono : ∀ a0 a1 a2 a3 a4 a5 k, LeO (ir_function.f k a0 a1 a2 a3 a4 a5) (ir_function.f (k + 1) a0 a1 a2 a3 a4 a5) := by
 intro a0 a1 a2 a3 a4 a5 k
 obtain ⟨ih0, ih1, ih2, ih3⟩ := ir_function.mono_l k
 unfold ir_function.f
 repeat' first
   | (with_reducible exact ih0 _ _ _ _ _ _ _)
   | (with_reducible exact ih1 _ _ _ _ _ _ _)
   | (with_reducible exact ih2 _ _ _ _ _ _ _ _ _ _)
   | (with_reducible exact ih3 _ _ _ _ _ _ _ _ _ _ _ _ _ _ _ _ _ _)
   | (with_reducible exact ir_Line.mono _ _ _ _ _ _ _ _)
   | (with_reducible exact ir_jump.mono _ _ _ _ _ _)
   | (with_reducible exact LeO.refl _)
   | (with_reducible exact LeO.none _)
   | (with_reducible refine LeO.ite ?_ ?_)
   | (with_reducible refine LeO.bind ?_ (fun _ => ?_))
   | exact ih0 _ _ _ _ _ _ _
   | exact ih1 _ _ _ _ _ _ _
   | exact ih2 _ _ _ _ _ _ _ _ _ _
   | exact ih3 _ _ _ _ _ _ _ _ _ _ _ _ _ _ _ _ _ _
   | exact ir_Line.mono _ _ _ _ _ _ _ _
   | exact ir_jump.mono _ _ _ _ _ _
   | exact LeO.none _
   | refine LeO.ite ?_ ?_
   | refine LeO.bind ?_ (fun _ => ?_)
set_option maxHeartbeats 8000000 in
set_option maxRecDepth 100000 in
theorem ir_function.calls (k : Nat) (a0_0 : ByteArray) (A0_1 : Option Addr) (c0_1 : Nat) (l0_1 : List ByteArray) (a0_2 : ByteArray) (A0_3 : Option Addr) (c0_3 : Nat) (l0_3 : List ByteArray) (A0_4 : Option Addr) (c0_4 : Nat) (l0_4 : List (S47)) (A0_5 : Option Addr) (c0_5 : Nat) (l0_5 : List (S53)) (r : List ByteArray) (w : World) (hr0_1 : Kd.C Kd.string w A0_1 l0_1.length l0_1) (hc0_1 : l0_1.length ≤ c0_1) (hr0_3 : Kd.C Kd.string w A0_3 l0_3.length l0_3) (hc0_3 : l0_3.length ≤ c0_3) (hr0_4 : Kd.C k47 w A0_4 l0_4.length l0_4) (hc0_4 : l0_4.length ≤ c0_4) (hr0_5 : Kd.C k53 w A0_5 l0_5.length l0_5) (hc0_5 : l0_5.length ≤ c0_5) (h : ir_function.f k a0_0 l0_1 a0_2 l0_3 l0_4 l0_5 = some r) (hG : Glob w := by first | assumption | (refine Glob.below (by assumption) ?_; repeat (first | with_reducible exact (Aside0.out (by assumption)) | (refine below_set ?_ (Aside0.out (by assumption))) | (with_reducible first | apply below_alloc | apply pw_below_drewN | apply below_drew1) | exact (Aside0.out (by assumption))))) :
  Calls Tryd.prog 30 #[.agg #[.string a0_0, .slice A0_1 l0_1.length c0_1, .string a0_2, .slice A0_3 l0_3.length c0_3, .slice A0_4 l0_4.length c0_4, .slice A0_5 l0_5.length c0_5]] w fun e w' => ∃ v0_ : Value, e = .returned (v0_) ∧ Kd.R Kd.string 9 w' w.heap.size (fun _ => True) v0_ r ∧ Below w.heap.size w w' := by
 have hu40 := Tryd.underlying40
 have hu53 := Tryd.underlying53
 have HR0_1 := Aside0.mk hr0_1
 have HC0_1 := Aside0.mk hc0_1
 clear hr0_1 hc0_1
 have HR0_3 := Aside0.mk hr0_3
 have HC0_3 := Aside0.mk hc0_3
 clear hr0_3 hc0_3
 have HR0_4 := Aside0.mk hr0_4
 have HC0_4 := Aside0.mk hc0_4
 clear hr0_4 hc0_4
 have HR0_5 := Aside0.mk hr0_5
 have HC0_5 := Aside0.mk hc0_5
 clear hr0_5 hc0_5
 have HB := Aside0.mk (Below.refl w.heap.size w)
 have H : ((some (([(⟨#[102, 117, 110, 99]⟩ : ByteArray), a0_0] : List ByteArray) : List ByteArray)).bind fun y156 => (if y156.length + l0_1.length < 8796093022208 then ((some (y156 ++ l0_1 : List ByteArray)).bind fun y159 => (if y159.length < 8796093022208 then ((some (y159 ++ [(⟨#[45, 62]⟩ : ByteArray)] : List ByteArray)).bind fun y162 => (if a0_2.toList = ([] : List UInt8) then (ir_function.j0 k y162 a0_0 l0_1 a0_2 l0_3 l0_4 l0_5) else (if y162.length < 8796093022208 then (ir_function.j0 k (y162 ++ [a0_2]) a0_0 l0_1 a0_2 l0_3 l0_4 l0_5) else (none)))) else (none))) else (none))) = some r := h
 clear h
 obtain ⟨y156, hy156⟩ : ∃ y_ : List ByteArray, y_ = (([(⟨#[102, 117, 110, 99]⟩ : ByteArray), a0_0] : List ByteArray)) := ⟨_, rfl⟩
 replace H : (if y156.length + l0_1.length < 8796093022208 then ((some (y156 ++ l0_1 : List ByteArray)).bind fun y159 => (if y159.length < 8796093022208 then ((some (y159 ++ [(⟨#[45, 62]⟩ : ByteArray)] : List ByteArray)).bind fun y162 => (if a0_2.toList = ([] : List UInt8) then (ir_function.j0 k y162 a0_0 l0_1 a0_2 l0_3 l0_4 l0_5) else (if y162.length < 8796093022208 then (ir_function.j0 k (y162 ++ [a0_2]) a0_0 l0_1 a0_2 l0_3 l0_4 l0_5) else (none)))) else (none))) else (none)) = some r := by first | (rw [hy156]; with_reducible exact H) | (have H2_ := (Option.bind_some _ _).symm.trans H; rw [hy156]; with_reducible exact H2_) | (have H2_ := (Option.bind_some _ _).symm.trans H; with_reducible exact H2_) | with_reducible exact H | (rw [hy156]; exact H) | exact H
 have Ny156 := Aside0.mk hy156
 clear hy156
 by_cases c2 : y156.length + l0_1.length < 8796093022208
 ·rw [if_pos c2] at H
  have LMc2 := Aside0.mk c2
  clear c2
  obtain ⟨y159, hy159⟩ : ∃ y_ : List ByteArray, y_ = (y156 ++ l0_1) := ⟨_, rfl⟩
  replace H : (if y159.length < 8796093022208 then ((some (y159 ++ [(⟨#[45, 62]⟩ : ByteArray)] : List ByteArray)).bind fun y162 => (if a0_2.toList = ([] : List UInt8) then (ir_function.j0 k y162 a0_0 l0_1 a0_2 l0_3 l0_4 l0_5) else (if y162.length < 8796093022208 then (ir_function.j0 k (y162 ++ [a0_2]) a0_0 l0_1 a0_2 l0_3 l0_4 l0_5) else (none)))) else (none)) = some r := by first | (rw [hy159]; with_reducible exact H) | (have H2_ := (Option.bind_some _ _).symm.trans H; rw [hy159]; with_reducible exact H2_) | (have H2_ := (Option.bind_some _ _).symm.trans H; with_reducible exact H2_) | with_reducible exact H | (rw [hy159]; exact H) | exact H
  have Ny159 := Aside0.mk hy159
  clear hy159
  by_cases c3 : y159.length < 8796093022208
  ·rw [if_pos c3] at H
   have LMc3 := Aside0.mk c3
   clear c3
   obtain ⟨y162, hy162⟩ : ∃ y_ : List ByteArray, y_ = (y159 ++ [(⟨#[45, 62]⟩ : ByteArray)]) := ⟨_, rfl⟩
   replace H : (if a0_2.toList = ([] : List UInt8) then (ir_function.j0 k y162 a0_0 l0_1 a0_2 l0_3 l0_4 l0_5) else (if y162.length < 8796093022208 then (ir_function.j0 k (y162 ++ [a0_2]) a0_0 l0_1 a0_2 l0_3 l0_4 l0_5) else (none))) = some r := by first | (rw [hy162]; with_reducible exact H) | (have H2_ := (Option.bind_some _ _).symm.trans H; rw [hy162]; with_reducible exact H2_) | (have H2_ := (Option.bind_some _ _).symm.trans H; with_reducible exact H2_) | with_reducible exact H | (rw [hy162]; exact H) | exact H
   have Ny162 := Aside0.mk hy162
   clear hy162
   have HC4 := Aside0.mk H
   clear H
   go_enter Tryd.func30, Tryd.ntmps30
   go_upto_if 19 with (first | ((with_reducible refine gate_dst (N := 1) rfl ?_); refine box_event ?hg (N := 1) ?hd (cs := #[.string a0_0, .slice A0_1 l0_1.length c0_1, .string a0_2, .slice A0_3 l0_3.length c0_3, .slice A0_4 l0_4.length c0_4, .slice A0_5 l0_5.length c0_5]) (t := 40) ?hr ?_; (case hd => rfl); (case hg => rfl); (case hr => first | (go_simp; done) | (go_simp; rfl)); intro gb155 hg w5 hbox hb; have n0_ := Aside0.mk (below_step (bq47) hb); have n1_ := Aside0.mk (hbox); have n2_ := Aside0.mk ((bq33 : w.heap.size ≤ gb155)); have n3_ := Aside0.mk ((bq33 : w.heap.size ≤ gb155)); clear HB; have HB := n0_; have BK155 := n1_; have GW155 := n2_; have GE155 := n3_; clear n0_ n1_ n2_ n3_; clear hb hbox hg; obtain ⟨hcz6_0, hcz6_1, hcz6_2, hcz6_3, hcz6_4, hcz6_5, hfz6_0, hfz6_1, hfz6_2, hfz6_3, hfz6_4, hfz6_5⟩ := bk6 BK155.out) | ((with_reducible refine gate_dst (N := 11) rfl ?_); refine Kd.R_lit Kd.string _ 9 ?hg (N := 11) ?hd (xs := ([(⟨#[102, 117, 110, 99]⟩ : ByteArray), a0_0] : List ByteArray)) (inner := [.string (⟨#[102, 117, 110, 99]⟩ : ByteArray), .string a0_0]) (ok := fun _ => True) (okp := fun _ => True) ?hr ?hp (fun _ hk => hk) trivial (Below.refl _ _) (Nat.le_refl _) (by simp) ?_; (case hd => rfl); (case hg => rfl); (case hr => first | (go_simp; done) | (go_simp; rfl)); (case hp => exact (Reps.one (show Kd.M Kd.string _ _ _ (⟨#[102, 117, 110, 99]⟩ : ByteArray) [.string (⟨#[102, 117, 110, 99]⟩ : ByteArray)] from rfl) (Reps.one (show Kd.M Kd.string _ _ _ a0_0 [.string a0_0] from rfl) (Reps.none _ _)))); intro v157 w7 ho8 hb hg_ hnew_; clear hg_ hnew_; (first | rw [← Ny156.out] at ho8 | (simp only [Int.reduceToNat] at ho8; rw [← Ny156.out] at ho8)); have n0_ := Aside0.mk (Kd.R_lower ho8 (below_size (bq35))); have n1_ := Aside0.mk (blkB BK155.out hb); have n2_ := Aside0.mk (below_step (bq35) hb); clear BK155; clear HB; have HO158 := n0_; have BK155 := n1_; have HB := n2_; clear n0_ n1_ n2_; clear hb ho8; obtain ⟨hcz9_0, hcz9_1, hcz9_2, hcz9_3, hcz9_4, hcz9_5, hfz9_0, hfz9_1, hfz9_2, hfz9_3, hfz9_4, hfz9_5⟩ := bk6 BK155.out) | ((with_reducible refine gate_builtin (b := .append) (xs := #[.tmp 11, .tmp 13]) rfl ?_); at_builtin; refine Kd.R_append_rows Kd.string (w0 := w) w.heap.size rfl (.tmp 11) (.tmp 13) 31 9 (.string ⟨#[]⟩) 16 rfl Tryd.underlying31 info9 rfl (by decide) (by omega) v157 y156 l0_1 _ _ _ (fun _ => True) (fun _ => False) rfl rfl ?aO ?aR (fun _ _ h => h) (fun _ h => h.elim) ?aF ?aB ?aS ?aL ?_; (case aR => repeat (first | exact (Kd.C_below HR0_1.out HB.out) | (with_reducible refine Kd.C_alloc ?_ _) | (with_reducible refine Kd.C_drewN ?_ _) | (with_reducible refine Kd.C_drew ?_))); (case aB => exact (bq35)); (case aF => exact (fun _ _ => trivial)); (case aO => exact (by (with_reducible repeat (first | apply Kd.R_alloc | apply Kd.R_drewN | apply Kd.R_drew)); exact HO158.out)); (case aS => exact (below_size (bq35))); (case aL => have := LMc2.out; omega); intro v160 w10 ho hb hg hat; rw [← Ny159.out] at ho; have n0_ := Aside0.mk (blkG BK155.out hg (Kd.R_ne HO158.out BK155.out (by decide))); have n1_ := Aside0.mk (hb); have n2_ := Aside0.mk (ho); clear BK155; clear HB; clear HO158; have BK155 := n0_; have HB := n1_; have HO161 := n2_; clear n0_ n1_ n2_; clear ho hb hg hat) | ((with_reducible refine gate_builtin (b := .append) (xs := #[.tmp 14, .tmp 15]) rfl ?_); at_builtin; refine Kd.R_append Kd.string (w0 := w) w.heap.size rfl (.tmp 14) (.tmp 15) 31 9 (.string ⟨#[]⟩) 16 rfl Tryd.underlying31 info9 rfl (by decide) (by omega) v160 y159 (⟨#[45, 62]⟩ : ByteArray) [.string (⟨#[45, 62]⟩ : ByteArray)] (fun _ => True) (fun _ => False) rfl rfl ?aP (fun _ hk => hk.elim) ?aF ?aO ?aB ?aS ?aL ?_; (case aP => exact rfl); (case aB => exact (bq35)); (case aF => exact (fun _ _ => trivial)); (case aO => exact (by (with_reducible repeat (first | apply Kd.R_alloc | apply Kd.R_drewN | apply Kd.R_drew)); exact HO161.out)); (case aS => exact (below_size (bq35))); (case aL => have := LMc3.out; omega); intro v163 w11 ho hb hg hat; rw [← Ny162.out] at ho; have n0_ := Aside0.mk (blkG BK155.out hg (Kd.R_ne HO161.out BK155.out (by decide))); have n1_ := Aside0.mk (hb); have n2_ := Aside0.mk (ho); clear BK155; clear HB; clear HO161; have BK155 := n0_; have HB := n1_; have HO164 := n2_; clear n0_ n1_ n2_; clear ho hb hg hat; obtain ⟨hcz12_0, hcz12_1, hcz12_2, hcz12_3, hcz12_4, hcz12_5, hfz12_0, hfz12_1, hfz12_2, hfz12_3, hfz12_4, hfz12_5⟩ := bk6 BK155.out))
   (try simp only [Act.put, List.setIfInBounds_toArray, List.set_cons_zero, List.set_cons_succ])
   go_cut [3] (fun v3 wc => ∃ (kq : Nat) (x3_3 : List ByteArray), Aside0 (ir_function.j0 kq x3_3 a0_0 l0_1 a0_2 l0_3 l0_4 l0_5 = some r) ∧ Aside0 (kq ≤ k) ∧ Aside0 (Kd.R Kd.string 9 wc w.heap.size (fun _ => True) v3 x3_3) ∧ Aside0 (wc.heap[gb155]? = some (.cells #[.string a0_0, (.slice A0_1 l0_1.length c0_1), .string a0_2, (.slice A0_3 l0_3.length c0_3), (.slice A0_4 l0_4.length c0_4), (.slice A0_5 l0_5.length c0_5)] 40 (0, 0))) ∧ Aside0 (Below w.heap.size w wc))
   case first =>
    have H := HC4.out
    clear HC4
    by_cases c13 : a0_2.toList = ([] : List UInt8)
    ·rw [if_pos c13] at H
     have c13b0 : (a0_2.toList == ([] : List UInt8)) = true := beq_iff_eq.mpr c13
     try have c13b4 : (!(a0_2).toList.isEmpty) = false := by simpa using c13b0
     have c13b1 : (a0_2.toList != ([] : List UInt8)) = false := bne_eq_false_iff_eq.mpr c13
     clear c13
     (first | rw [c13b0] | rw [c13b1] | rw [c13b4] | (simp only [i64_w, i32_w]; rw [c13b0]) | skip)
     have H' := Aside0.mk H
     clear H
     go_wp2
     go_meet
     case rel => exact ⟨_, (y162), H', ⟨by first | omega | exact Nat.le_refl _⟩, ⟨by (with_reducible repeat (first | apply Kd.R_alloc | apply Kd.R_drewN | apply Kd.R_drew)); exact HO164.out⟩, ⟨by (with_reducible repeat (first | refine blk_drewN ?_ _ | refine blk_drew ?_ | refine blk_alloc ?_ _)); exact BK155.out⟩, ⟨bq35⟩⟩
    ·rw [if_neg c13] at H
     have c13b0 : (a0_2.toList == ([] : List UInt8)) = false := beq_eq_false_iff_ne.mpr c13
     try have c13b4 : (!(a0_2).toList.isEmpty) = true := by simpa using c13b0
     have c13b1 : (a0_2.toList != ([] : List UInt8)) = true := bne_iff_ne.mpr c13
     (first | rw [c13b0] | rw [c13b1] | rw [c13b4] | (simp only [i64_w, i32_w]; rw [c13b0]) | skip)
     by_cases c14 : y162.length < 8796093022208
     ·rw [if_pos c14] at H
      have LMc14 := Aside0.mk c14
      clear c14
      obtain ⟨y165, hy165⟩ : ∃ y_ : List ByteArray, y_ = (y162 ++ [a0_2]) := ⟨_, rfl⟩
      replace H : (ir_function.j0 k y165 a0_0 l0_1 a0_2 l0_3 l0_4 l0_5) = some r := by first | (rw [hy165]; with_reducible exact H) | (have H2_ := (Option.bind_some _ _).symm.trans H; rw [hy165]; with_reducible exact H2_) | (have H2_ := (Option.bind_some _ _).symm.trans H; with_reducible exact H2_) | with_reducible exact H | (rw [hy165]; exact H) | exact H
      have Ny165 := Aside0.mk hy165
      clear hy165
      have H' := Aside0.mk H
      clear H
      obtain ⟨hcz15_0, hcz15_1, hcz15_2, hcz15_3, hcz15_4, hcz15_5, hfz15_0, hfz15_1, hfz15_2, hfz15_3, hfz15_4, hfz15_5⟩ := bk6 BK155.out
      go_wp2_with (first | ((with_reducible refine gate_builtin (b := .append) (xs := #[.tmp 20, .tmp 23]) rfl ?_); at_builtin; refine Kd.R_append Kd.string (w0 := w) w.heap.size rfl (.tmp 20) (.tmp 23) 31 9 (.string ⟨#[]⟩) 16 rfl Tryd.underlying31 info9 rfl (by decide) (by omega) v163 y162 a0_2 [.string a0_2] (fun _ => True) (fun _ => False) rfl rfl ?aP (fun _ hk => hk.elim) ?aF ?aO ?aB ?aS ?aL ?_; (case aP => exact rfl); (case aB => exact (bq35)); (case aF => exact (fun _ _ => trivial)); (case aO => exact (by (with_reducible repeat (first | apply Kd.R_alloc | apply Kd.R_drewN | apply Kd.R_drew)); exact HO164.out)); (case aS => exact (below_size (bq35))); (case aL => have := LMc14.out; omega); intro v166 w16 ho hb hg hat; rw [← Ny165.out] at ho; have n0_ := Aside0.mk (blkG BK155.out hg (Kd.R_ne HO164.out BK155.out (by decide))); have n1_ := Aside0.mk (hb); have n2_ := Aside0.mk (ho); clear BK155; clear HB; clear HO164; have BK155 := n0_; have HB := n1_; have HO167 := n2_; clear n0_ n1_ n2_; clear ho hb hg hat))
      go_meet
      case rel => exact ⟨_, (y165), H', ⟨by first | omega | exact Nat.le_refl _⟩, ⟨by (with_reducible repeat (first | apply Kd.R_alloc | apply Kd.R_drewN | apply Kd.R_drew)); exact HO167.out⟩, ⟨by (with_reducible repeat (first | refine blk_drewN ?_ _ | refine blk_drew ?_ | refine blk_alloc ?_ _)); exact BK155.out⟩, ⟨bq35⟩⟩
     ·rw [if_neg c14] at H
      exact absurd H (by simp)
   case rest =>
    clear HC4
    try clear c1
    try clear c2
    try clear p2
    try clear c3
    try clear c13
    try clear c13b0
    try clear c13b1
    try clear c14
    try clear hcz12_0
    try clear hcz12_1
    try clear hcz12_2
    try clear hcz12_3
    try clear hcz12_4
    try clear hcz12_5
    try clear hcz15_0
    try clear hcz15_1
    try clear hcz15_2
    try clear hcz15_3
    try clear hcz15_4
    try clear hcz15_5
    try clear hcz6_0
    try clear hcz6_1
    try clear hcz6_2
    try clear hcz6_3
    try clear hcz6_4
    try clear hcz6_5
    try clear hcz9_0
    try clear hcz9_1
    try clear hcz9_2
    try clear hcz9_3
    try clear hcz9_4
    try clear hcz9_5
    try clear hfz12_0
    try clear hfz12_1
    try clear hfz12_2
    try clear hfz12_3
    try clear hfz12_4
    try clear hfz12_5
    try clear hfz15_0
    try clear hfz15_1
    try clear hfz15_2
    try clear hfz15_3
    try clear hfz15_4
    try clear hfz15_5
    try clear hfz6_0
    try clear hfz6_1
    try clear hfz6_2
    try clear hfz6_3
    try clear hfz6_4
    try clear hfz6_5
    try clear hfz9_0
    try clear hfz9_1
    try clear hfz9_2
    try clear hfz9_3
    try clear hfz9_4
    try clear hfz9_5
    obtain ⟨kq, x3_3, HA, HJ3, HO_3, BK155, HB⟩ := hcut
    cases kq with
    | zero => exact absurd HA.out (by simp [ir_function.j0])
    | succ kj3 =>
     have H := HA.out
     clear HA
     simp only [ir_function.j0] at H
     replace H := Option.bind_eq_some_iff.mp H
     obtain ⟨t168, A170, H⟩ := H
     (try dsimp only at H)
     have A17 := Aside0.mk A170
     clear A170
     obtain ⟨y169, hy169⟩ : ∃ y_ : List ByteArray, y_ = (([t168] : List ByteArray)) := ⟨_, rfl⟩
     replace H : (if (l0_3.length : Int) > 0 then ((some (([(⟨#[115, 108, 111, 116, 115]⟩ : ByteArray)] : List ByteArray) : List ByteArray)).bind fun y172 => (if y172.length + l0_3.length < 8796093022208 then ((strings_Join.f (y172 ++ l0_3) (⟨#[32]⟩ : ByteArray)).bind fun t178 => (if y169.length < 8796093022208 then (ir_function.j1 kj3 (y169 ++ [t178]) a0_0 l0_1 a0_2 l0_3 l0_4 l0_5) else (none))) else (none))) else (ir_function.j1 kj3 y169 a0_0 l0_1 a0_2 l0_3 l0_4 l0_5)) = some r := by first | (rw [hy169]; with_reducible exact H) | (have H2_ := (Option.bind_some _ _).symm.trans H; rw [hy169]; with_reducible exact H2_) | (have H2_ := (Option.bind_some _ _).symm.trans H; with_reducible exact H2_) | with_reducible exact H | (rw [hy169]; exact H) | exact H
     have Ny169 := Aside0.mk hy169
     clear hy169
     have HC18 := Aside0.mk H
     clear H
     obtain ⟨Ao19, co19, eo19⟩ := Kd.R_slice HO_3.out
     subst eo19
     go_upto_if 31 with (first | ((with_reducible refine gate_callee (f := 29) rfl ?_); refine goesL_ (some 26) rfl rfl Tryd.func29 (by kernel_rfl) rfl #[.slice Ao19 x3_3.length co19, .string (⟨#[32]⟩ : ByteArray)] rfl (bq44) ?_; (with_reducible refine (strings_Join.calls _ _ x3_3 (⟨#[32]⟩ : ByteArray) t168 _ ?side1 ?side2 A17.out).mono ?_); (case side1 => repeat (first | exact (Kd.R_reads' HO_3.out).2.2 | (with_reducible refine Kd.C_alloc ?_ _) | (with_reducible refine Kd.C_drewN ?_ _) | (with_reducible refine Kd.C_drew ?_))); (case side2 => exact (Kd.R_reads' HO_3.out).2.1); rintro e w20 ⟨rfl, hb⟩; refine ⟨_, rfl, ?_⟩; have n0_ := Aside0.mk (Kd.R_below (bq68) hb); have n1_ := Aside0.mk (blkB BK155.out hb); have n2_ := Aside0.mk (below_step (bq35) hb); clear HO_3; clear BK155; clear HB; have HO_3 := n0_; have BK155 := n1_; have HB := n2_; clear n0_ n1_ n2_; (try clear hb); (try clear hb2); (try clear hk); (try clear hi)) | ((with_reducible refine gate_dst (N := 27) rfl ?_); refine Kd.R_lit Kd.string _ 9 ?hg (N := 27) ?hd (xs := ([t168] : List ByteArray)) (inner := [.string t168]) (ok := fun _ => True) (okp := fun _ => True) ?hr ?hp (fun _ hk => hk) trivial (Below.refl _ _) (Nat.le_refl _) (by simp) ?_; (case hd => rfl); (case hg => rfl); (case hr => first | (go_simp; done) | (go_simp; rfl)); (case hp => exact (Reps.one (show Kd.M Kd.string _ _ _ t168 [.string t168] from rfl) (Reps.none _ _))); intro v170 w21 ho22 hb hg_ hnew_; clear hg_ hnew_; (first | rw [← Ny169.out] at ho22 | (simp only [Int.reduceToNat] at ho22; rw [← Ny169.out] at ho22)); have n0_ := Aside0.mk (Kd.R_elder' (bq68) (Kd.R_base ho22) hb); have n1_ := Aside0.mk (Kd.R_lower (Kd.R_new' ho22 (Kd.R_lt (bq68))) (below_size (bq35))); have n2_ := Aside0.mk (blkB BK155.out hb); have n3_ := Aside0.mk (below_step (bq35) hb); clear HO_3; clear BK155; clear HB; have HO_3 := n0_; have HO171 := n1_; have BK155 := n2_; have HB := n3_; clear n0_ n1_ n2_ n3_; clear hb ho22; obtain ⟨hcz23_0, hcz23_1, hcz23_2, hcz23_3, hcz23_4, hcz23_5, hfz23_0, hfz23_1, hfz23_2, hfz23_3, hfz23_4, hfz23_5⟩ := bk6 BK155.out))
     (try simp only [Act.put, List.setIfInBounds_toArray, List.set_cons_zero, List.set_cons_succ])
     go_cut [4] (fun v4 wc => ∃ (kq : Nat) (x4_17 : List ByteArray), Aside0 (ir_function.j1 kq x4_17 a0_0 l0_1 a0_2 l0_3 l0_4 l0_5 = some r) ∧ Aside0 (kq ≤ kj3) ∧ Aside0 (Kd.R Kd.string 9 wc w.heap.size (fun _ => True) v4 x4_17) ∧ Aside0 (wc.heap[gb155]? = some (.cells #[.string a0_0, (.slice A0_1 l0_1.length c0_1), .string a0_2, (.slice A0_3 l0_3.length c0_3), (.slice A0_4 l0_4.length c0_4), (.slice A0_5 l0_5.length c0_5)] 40 (0, 0))) ∧ Aside0 (Below w.heap.size w wc))
     case first =>
      have H := HC18.out
      clear HC18
      by_cases c24 : (l0_3.length : Int) > 0
      ·rw [if_pos c24] at H
       have c24b0 := decide_eq_true c24
       have c24b1 : decide (0 < l0_3.length) = true := decide_eq_true (by omega)
       clear c24
       (first | rw [c24b0] | rw [c24b1] | rw [c24b4] | (simp only [i64_w, i32_w]; rw [c24b0]) | skip)
       obtain ⟨y172, hy172⟩ : ∃ y_ : List ByteArray, y_ = (([(⟨#[115, 108, 111, 116, 115]⟩ : ByteArray)] : List ByteArray)) := ⟨_, rfl⟩
       replace H : (if y172.length + l0_3.length < 8796093022208 then ((strings_Join.f (y172 ++ l0_3) (⟨#[32]⟩ : ByteArray)).bind fun t178 => (if y169.length < 8796093022208 then (ir_function.j1 kj3 (y169 ++ [t178]) a0_0 l0_1 a0_2 l0_3 l0_4 l0_5) else (none))) else (none)) = some r := by first | (rw [hy172]; with_reducible exact H) | (have H2_ := (Option.bind_some _ _).symm.trans H; rw [hy172]; with_reducible exact H2_) | (have H2_ := (Option.bind_some _ _).symm.trans H; with_reducible exact H2_) | with_reducible exact H | (rw [hy172]; exact H) | exact H
       have Ny172 := Aside0.mk hy172
       clear hy172
       by_cases c25 : y172.length + l0_3.length < 8796093022208
       ·rw [if_pos c25] at H
        have LMc25 := Aside0.mk c25
        clear c25
        obtain ⟨y175, hy175⟩ : ∃ y_ : List ByteArray, y_ = (y172 ++ l0_3) := ⟨_, rfl⟩
        replace H : ((strings_Join.f y175 (⟨#[32]⟩ : ByteArray)).bind fun t178 => (if y169.length < 8796093022208 then (ir_function.j1 kj3 (y169 ++ [t178]) a0_0 l0_1 a0_2 l0_3 l0_4 l0_5) else (none))) = some r := by first | (rw [hy175]; with_reducible exact H) | (have H2_ := (Option.bind_some _ _).symm.trans H; rw [hy175]; with_reducible exact H2_) | (have H2_ := (Option.bind_some _ _).symm.trans H; with_reducible exact H2_) | with_reducible exact H | (rw [hy175]; exact H) | exact H
        have Ny175 := Aside0.mk hy175
        clear hy175
        replace H := Option.bind_eq_some_iff.mp H
        obtain ⟨t178, A260, H⟩ := H
        (try dsimp only at H)
        have A26 := Aside0.mk A260
        clear A260
        by_cases c27 : y169.length < 8796093022208
        ·rw [if_pos c27] at H
         have LMc27 := Aside0.mk c27
         clear c27
         obtain ⟨y179, hy179⟩ : ∃ y_ : List ByteArray, y_ = (y169 ++ [t178]) := ⟨_, rfl⟩
         replace H : (ir_function.j1 kj3 y179 a0_0 l0_1 a0_2 l0_3 l0_4 l0_5) = some r := by first | (rw [hy179]; with_reducible exact H) | (have H2_ := (Option.bind_some _ _).symm.trans H; rw [hy179]; with_reducible exact H2_) | (have H2_ := (Option.bind_some _ _).symm.trans H; with_reducible exact H2_) | with_reducible exact H | (rw [hy179]; exact H) | exact H
         have Ny179 := Aside0.mk hy179
         clear hy179
         have H' := Aside0.mk H
         clear H
         go_wp2_with (first | ((with_reducible refine gate_dst (N := 33) rfl ?_); refine Kd.R_lit Kd.string _ 9 ?hg (N := 33) ?hd (xs := ([(⟨#[115, 108, 111, 116, 115]⟩ : ByteArray)] : List ByteArray)) (inner := [.string (⟨#[115, 108, 111, 116, 115]⟩ : ByteArray)]) (ok := fun _ => True) (okp := fun _ => True) ?hr ?hp (fun _ hk => hk) trivial (Below.refl _ _) (Nat.le_refl _) (by simp) ?_; (case hd => rfl); (case hg => rfl); (case hr => first | (go_simp; done) | (go_simp; rfl)); (case hp => exact (Reps.one (show Kd.M Kd.string _ _ _ (⟨#[115, 108, 111, 116, 115]⟩ : ByteArray) [.string (⟨#[115, 108, 111, 116, 115]⟩ : ByteArray)] from rfl) (Reps.none _ _))); intro v173 w28 ho29 hb hg_ hnew_; clear hg_ hnew_; (first | rw [← Ny172.out] at ho29 | (simp only [Int.reduceToNat] at ho29; rw [← Ny172.out] at ho29)); have n0_ := Aside0.mk (Kd.R_elder' (bq68) (Kd.R_base ho29) hb); have n1_ := Aside0.mk (Kd.R_elder' (bq61) (Kd.R_base ho29) hb); have n2_ := Aside0.mk (Kd.R_lower (Kd.R_new' (Kd.R_new' ho29 (Kd.R_lt (bq68))) (Kd.R_lt (bq61))) (below_size (bq35))); have n3_ := Aside0.mk (blkB BK155.out hb); have n4_ := Aside0.mk (below_step (bq35) hb); clear HO_3; clear HO171; clear BK155; clear HB; have HO_3 := n0_; have HO171 := n1_; have HO174 := n2_; have BK155 := n3_; have HB := n4_; clear n0_ n1_ n2_ n3_ n4_; clear hb ho29; obtain ⟨hcz30_0, hcz30_1, hcz30_2, hcz30_3, hcz30_4, hcz30_5, hfz30_0, hfz30_1, hfz30_2, hfz30_3, hfz30_4, hfz30_5⟩ := bk6 BK155.out) | ((with_reducible refine gate_builtin (b := .append) (xs := #[.tmp 33, .tmp 35]) rfl ?_); at_builtin; refine Kd.R_append_rows Kd.string (w0 := w) w.heap.size rfl (.tmp 33) (.tmp 35) 31 9 (.string ⟨#[]⟩) 16 rfl Tryd.underlying31 info9 rfl (by decide) (by omega) v173 y172 l0_3 _ _ _ (fun k_ => some k_ ≠ (.slice Ao19 x3_3.length co19 : Value).ownBlock ∧ some k_ ≠ (v170 : Value).ownBlock) (fun _ => False) rfl rfl ?aO ?aR (fun _ _ h => h) (fun _ h => h.elim) ?aF ?aB ?aS ?aL ?_; (case aR => repeat (first | exact (Kd.C_below HR0_3.out HB.out) | (with_reducible refine Kd.C_alloc ?_ _) | (with_reducible refine Kd.C_drewN ?_ _) | (with_reducible refine Kd.C_drew ?_))); (case aB => exact (bq35)); (case aF => exact (fun k_ hk => ⟨Kd.fresh' (Kd.R_lt (bq68)) k_ hk, Kd.fresh' (Kd.R_lt (bq61)) k_ hk⟩)); (case aO => exact (by (with_reducible repeat (first | apply Kd.R_alloc | apply Kd.R_drewN | apply Kd.R_drew)); exact Kd.R_mono HO174.out (fun _ hk => ⟨hk.1.2, hk.2⟩))); (case aS => exact (below_size (bq35))); (case aL => have := LMc25.out; omega); intro v176 w31 ho hb hg hat; rw [← Ny175.out] at ho; have n0_ := Aside0.mk (Kd.R_after (ok := (fun k_ => some k_ ≠ (v170 : Value).ownBlock)) (by (with_reducible repeat (first | apply Kd.R_alloc | apply Kd.R_drewN | apply Kd.R_drew)); exact Kd.R_mono HO_3.out (fun _ hk => ⟨hk.1.2, hk.2⟩)) hg hat); have n1_ := Aside0.mk (blkG BK155.out hg (Kd.R_ne HO174.out BK155.out (by decide))); have n2_ := Aside0.mk (Kd.R_after (ok := (fun k_ => some k_ ≠ (.slice Ao19 x3_3.length co19 : Value).ownBlock)) (by (with_reducible repeat (first | apply Kd.R_alloc | apply Kd.R_drewN | apply Kd.R_drew)); exact Kd.R_mono HO171.out (fun _ hk => ⟨hk.1.2, hk.2⟩)) hg hat); have n3_ := Aside0.mk (hb); have n4_ := Aside0.mk (ho); clear HO_3; clear BK155; clear HO171; clear HB; clear HO174; have HO_3 := n0_; have BK155 := n1_; have HO171 := n2_; have HB := n3_; have HO177 := n4_; clear n0_ n1_ n2_ n3_ n4_; clear ho hb hg hat; obtain ⟨Ao32, co32, eo32⟩ := Kd.R_slice HO177.out; subst eo32) | ((with_reducible refine gate_callee (f := 29) rfl ?_); refine goesL_ (some 37) rfl rfl Tryd.func29 (by kernel_rfl) rfl #[.slice Ao32 y175.length co32, .string (⟨#[32]⟩ : ByteArray)] rfl (bq44) ?_; (with_reducible refine (strings_Join.calls _ _ y175 (⟨#[32]⟩ : ByteArray) t178 _ ?side1 ?side2 A26.out).mono ?_); (case side1 => repeat (first | exact (Kd.R_reads' HO177.out).2.2 | (with_reducible refine Kd.C_alloc ?_ _) | (with_reducible refine Kd.C_drewN ?_ _) | (with_reducible refine Kd.C_drew ?_))); (case side2 => exact (Kd.R_reads' HO177.out).2.1); rintro e w33 ⟨rfl, hb⟩; refine ⟨_, rfl, ?_⟩; have n0_ := Aside0.mk (Kd.R_below (bq68) hb); have n1_ := Aside0.mk (Kd.R_below (bq61) hb); have n2_ := Aside0.mk (Kd.R_below (bq62) hb); have n3_ := Aside0.mk (blkB BK155.out hb); have n4_ := Aside0.mk (below_step (bq35) hb); clear HO_3; clear HO171; clear HO177; clear BK155; clear HB; have HO_3 := n0_; have HO171 := n1_; have HO177 := n2_; have BK155 := n3_; have HB := n4_; clear n0_ n1_ n2_ n3_ n4_; (try clear hb); (try clear hb2); (try clear hk); (try clear hi)) | ((with_reducible refine gate_builtin (b := .append) (xs := #[.tmp 32, .tmp 38]) rfl ?_); at_builtin; refine Kd.R_append Kd.string (w0 := w) w.heap.size rfl (.tmp 32) (.tmp 38) 31 9 (.string ⟨#[]⟩) 16 rfl Tryd.underlying31 info9 rfl (by decide) (by omega) v170 y169 t178 [.string t178] (fun k_ => some k_ ≠ (.slice Ao19 x3_3.length co19 : Value).ownBlock ∧ some k_ ≠ (.slice Ao32 y175.length co32 : Value).ownBlock) (fun _ => False) rfl rfl ?aP (fun _ hk => hk.elim) ?aF ?aO ?aB ?aS ?aL ?_; (case aP => exact rfl); (case aB => exact (bq35)); (case aF => exact (fun k_ hk => ⟨Kd.fresh' (Kd.R_lt (bq68)) k_ hk, Kd.fresh' (Kd.R_lt (bq62)) k_ hk⟩)); (case aO => exact (bq61)); (case aS => exact (below_size (bq35))); (case aL => have := LMc27.out; omega); intro v180 w34 ho hb hg hat; rw [← Ny179.out] at ho; have n0_ := Aside0.mk (Kd.R_after (ok := (fun k_ => some k_ ≠ (.slice Ao32 y175.length co32 : Value).ownBlock)) (by (with_reducible repeat (first | apply Kd.R_alloc | apply Kd.R_drewN | apply Kd.R_drew)); exact Kd.R_mono HO_3.out (fun _ hk => ⟨hk.2, hk.1⟩)) hg hat); have n1_ := Aside0.mk (blkG BK155.out hg (Kd.R_ne HO171.out BK155.out (by decide))); have n2_ := Aside0.mk (Kd.R_after (ok := (fun k_ => some k_ ≠ (.slice Ao19 x3_3.length co19 : Value).ownBlock)) (bq62) hg hat); have n3_ := Aside0.mk (hb); have n4_ := Aside0.mk (ho); clear HO_3; clear BK155; clear HO177; clear HB; clear HO171; have HO_3 := n0_; have BK155 := n1_; have HO177 := n2_; have HB := n3_; have HO181 := n4_; clear n0_ n1_ n2_ n3_ n4_; clear ho hb hg hat))
         go_meet
         case rel => exact ⟨_, (y179), H', ⟨by have := HJ3.out; first | omega | exact Nat.le_refl _⟩, ⟨by (with_reducible repeat (first | apply Kd.R_alloc | apply Kd.R_drewN | apply Kd.R_drew)); exact Kd.R_mono HO181.out (fun _ hk => trivial)⟩, ⟨by (with_reducible repeat (first | refine blk_drewN ?_ _ | refine blk_drew ?_ | refine blk_alloc ?_ _)); exact BK155.out⟩, ⟨bq35⟩⟩
        ·rw [if_neg c27] at H
         exact absurd H (by simp)
       ·rw [if_neg c25] at H
        exact absurd H (by simp)
      ·rw [if_neg c24] at H
       have c24b0 := decide_eq_false c24
       have c24b1 : decide (0 < l0_3.length) = false := decide_eq_false (by omega)
       clear c24
       (first | rw [c24b0] | rw [c24b1] | rw [c24b4] | (simp only [i64_w, i32_w]; rw [c24b0]) | skip)
       have H' := Aside0.mk H
       clear H
       go_wp2
       go_meet
       case rel => exact ⟨_, (y169), H', ⟨by have := HJ3.out; first | omega | exact Nat.le_refl _⟩, ⟨by (with_reducible repeat (first | apply Kd.R_alloc | apply Kd.R_drewN | apply Kd.R_drew)); exact Kd.R_mono HO171.out (fun _ hk => trivial)⟩, ⟨by (with_reducible repeat (first | refine blk_drewN ?_ _ | refine blk_drew ?_ | refine blk_alloc ?_ _)); exact BK155.out⟩, ⟨bq35⟩⟩
     case rest =>
      clear HC18
      try clear c1
      try clear c2
      try clear p2
      try clear c3
      try clear c13
      try clear c13b0
      try clear c13b1
      try clear c14
      try clear c24
      try clear c24b0
      try clear c24b1
      try clear c25
      try clear c27
      try clear c29
      try clear c30
      try clear hcz12_0
      try clear hcz12_1
      try clear hcz12_2
      try clear hcz12_3
      try clear hcz12_4
      try clear hcz12_5
      try clear hcz15_0
      try clear hcz15_1
      try clear hcz15_2
      try clear hcz15_3
      try clear hcz15_4
      try clear hcz15_5
      try clear hcz23_0
      try clear hcz23_1
      try clear hcz23_2
      try clear hcz23_3
      try clear hcz23_4
      try clear hcz23_5
      try clear hcz30_0
      try clear hcz30_1
      try clear hcz30_2
      try clear hcz30_3
      try clear hcz30_4
      try clear hcz30_5
      try clear hcz6_0
      try clear hcz6_1
      try clear hcz6_2
      try clear hcz6_3
      try clear hcz6_4
      try clear hcz6_5
      try clear hcz9_0
      try clear hcz9_1
      try clear hcz9_2
      try clear hcz9_3
      try clear hcz9_4
      try clear hcz9_5
      try clear hfz12_0
      try clear hfz12_1
      try clear hfz12_2
      try clear hfz12_3
      try clear hfz12_4
      try clear hfz12_5
      try clear hfz15_0
      try clear hfz15_1
      try clear hfz15_2
      try clear hfz15_3
      try clear hfz15_4
      try clear hfz15_5
      try clear hfz23_0
      try clear hfz23_1
      try clear hfz23_2
      try clear hfz23_3
      try clear hfz23_4
      try clear hfz23_5
      try clear hfz30_0
      try clear hfz30_1
      try clear hfz30_2
      try clear hfz30_3
      try clear hfz30_4
      try clear hfz30_5
      try clear hfz6_0
      try clear hfz6_1
      try clear hfz6_2
      try clear hfz6_3
      try clear hfz6_4
      try clear hfz6_5
      try clear hfz9_0
      try clear hfz9_1
      try clear hfz9_2
      try clear hfz9_3
      try clear hfz9_4
      try clear hfz9_5
      try clear p2
      obtain ⟨kq, x4_17, HA, HJ17, HO_4, BK155, HB⟩ := hcut
      cases kq with
      | zero => exact absurd HA.out (by simp [ir_function.j1])
      | succ kj17 =>
       have H := HA.out
       clear HA
       simp only [ir_function.j1] at H
       have H' := Aside0.mk H
       clear H
       obtain ⟨hcz35_0, hcz35_1, hcz35_2, hcz35_3, hcz35_4, hcz35_5, hfz35_0, hfz35_1, hfz35_2, hfz35_3, hfz35_4, hfz35_5⟩ := bk6 BK155.out
       go_wp2
       go_loopg [4, 43] kj17 (fun kq v4 v43 w' => ∃ (x4_3 : List ByteArray) (x43_3 : Int), v43 = .int .i64 x43_3 ∧ Aside0 (ir_function.l0 kq x4_3 l0_5 (l0_5.length : Int) x43_3 a0_0 l0_1 a0_2 l0_3 l0_4 l0_5 = some r) ∧ Aside0 (kq ≤ kj17) ∧ Aside0 (Kd.R Kd.string 9 w' w.heap.size (fun _ => True) v4 x4_3) ∧ Aside0 (w'.heap[gb155]? = some (.cells #[.string a0_0, (.slice A0_1 l0_1.length c0_1), .string a0_2, (.slice A0_3 l0_3.length c0_3), (.slice A0_4 l0_4.length c0_4), (.slice A0_5 l0_5.length c0_5)] 40 (0, 0))) ∧ Aside0 (Below w.heap.size w w'))
       case atStart => exact ⟨(x4_17), (0), (bq73), H', ⟨Nat.le_refl _⟩, ⟨bq69⟩, ⟨by (with_reducible repeat (first | refine blk_drewN ?_ _ | refine blk_drew ?_ | refine blk_alloc ?_ _)); exact BK155.out⟩, ⟨bq35⟩⟩
       case round =>
        clear H'
        try clear c1
        try clear c2
        try clear p2
        try clear c3
        try clear c13
        try clear c13b0
        try clear c13b1
        try clear c14
        try clear c24
        try clear c24b0
        try clear c24b1
        try clear c25
        try clear c27
        try clear c29
        try clear c30
        try clear hcz12_0
        try clear hcz12_1
        try clear hcz12_2
        try clear hcz12_3
        try clear hcz12_4
        try clear hcz12_5
        try clear hcz15_0
        try clear hcz15_1
        try clear hcz15_2
        try clear hcz15_3
        try clear hcz15_4
        try clear hcz15_5
        try clear hcz23_0
        try clear hcz23_1
        try clear hcz23_2
        try clear hcz23_3
        try clear hcz23_4
        try clear hcz23_5
        try clear hcz30_0
        try clear hcz30_1
        try clear hcz30_2
        try clear hcz30_3
        try clear hcz30_4
        try clear hcz30_5
        try clear hcz35_0
        try clear hcz35_1
        try clear hcz35_2
        try clear hcz35_3
        try clear hcz35_4
        try clear hcz35_5
        try clear hcz6_0
        try clear hcz6_1
        try clear hcz6_2
        try clear hcz6_3
        try clear hcz6_4
        try clear hcz6_5
        try clear hcz9_0
        try clear hcz9_1
        try clear hcz9_2
        try clear hcz9_3
        try clear hcz9_4
        try clear hcz9_5
        try clear hfz12_0
        try clear hfz12_1
        try clear hfz12_2
        try clear hfz12_3
        try clear hfz12_4
        try clear hfz12_5
        try clear hfz15_0
        try clear hfz15_1
        try clear hfz15_2
        try clear hfz15_3
        try clear hfz15_4
        try clear hfz15_5
        try clear hfz23_0
        try clear hfz23_1
        try clear hfz23_2
        try clear hfz23_3
        try clear hfz23_4
        try clear hfz23_5
        try clear hfz30_0
        try clear hfz30_1
        try clear hfz30_2
        try clear hfz30_3
        try clear hfz30_4
        try clear hfz30_5
        try clear hfz35_0
        try clear hfz35_1
        try clear hfz35_2
        try clear hfz35_3
        try clear hfz35_4
        try clear hfz35_5
        try clear hfz6_0
        try clear hfz6_1
        try clear hfz6_2
        try clear hfz6_3
        try clear hfz6_4
        try clear hfz6_5
        try clear hfz9_0
        try clear hfz9_1
        try clear hfz9_2
        try clear hfz9_3
        try clear hfz9_4
        try clear hfz9_5
        try clear p2
        obtain ⟨x4_3, x43_3, rfl, HA, HK3, HO_4, BK155, HB⟩ := hrel
        cases gk with
        | zero => exact absurd HA.out (by simp [ir_function.l0])
        | succ k3 =>
         have H := HA.out
         clear HA
         simp only [ir_function.l0] at H
         by_cases c36 : x43_3 < (l0_5.length : Int)
         ·rw [if_pos c36] at H
          have c36b0 := decide_eq_true c36
          clear c36
          by_cases c37 : 0 ≤ x43_3
          ·rw [if_pos c37] at H
           have c37b0 := decide_eq_true c37
           clear c37
           by_cases c38 : x43_3 < (l0_5.length : Int)
           ·rw [if_pos c38] at H
            have c38b0 := decide_eq_true c38
            clear c38
            replace H := Option.bind_eq_some_iff.mp H
            obtain ⟨t184, A390, H⟩ := H
            (try dsimp only at H)
            have A39 := Aside0.mk A390
            clear A390
            by_cases c40 : 6 + t184.size ≤ 9223372036854775807
            ·rw [if_pos c40] at H
             have c40b0 := eq_true c40
             have c40b1 := decide_eq_true c40
             try have c40b2 : (9223372036854775807 < 6 + t184.size) = False := eq_false (Nat.not_lt.2 c40)
             by_cases c41 : x4_3.length < 8796093022208
             ·rw [if_pos c41] at H
              have LMc41 := Aside0.mk c41
              clear c41
              obtain ⟨y185, hy185⟩ : ∃ y_ : List ByteArray, y_ = (x4_3 ++ [(⟨#[98, 108, 111, 99, 107, 32]⟩ : ByteArray) ++ t184]) := ⟨_, rfl⟩
              replace H : (ir_function.l1 k3 y185 l0_5 (l0_5.length : Int) x43_3 ((rd_T53 l0_5 x43_3).f0) (((rd_T53 l0_5 x43_3).f0).length : Int) 0 a0_0 l0_1 a0_2 l0_3 l0_4 l0_5 ((rd_T53 l0_5 x43_3).f0) ((rd_T53 l0_5 x43_3).f1) ((rd_T53 l0_5 x43_3).f2) ((rd_T53 l0_5 x43_3).f3.f0) ((rd_T53 l0_5 x43_3).f3.f1)) = some r := by first | (rw [hy185]; with_reducible exact H) | (have H2_ := (Option.bind_some _ _).symm.trans H; rw [hy185]; with_reducible exact H2_) | (have H2_ := (Option.bind_some _ _).symm.trans H; with_reducible exact H2_) | with_reducible exact H | (rw [hy185]; exact H) | exact H
              have Ny185 := Aside0.mk hy185
              clear hy185
              have H' := Aside0.mk H
              clear H
              have p182 : 0 ≤ (x43_3 : Int) := of_decide_eq_true (bq72)
              have q182 : x43_3 < (l0_5.length : Int) := of_decide_eq_true (bq72)
              obtain ⟨ad182, A182_0, c182_0, e182, hx182_0, hx182_1, hx182_2, hx182_3, hx182_4, hl182_0, hi182_0⟩ := at_T53 HR0_5.out x43_3 p182 q182
              cases e182
              replace hx182_0 := (HB.out.cell (World.block_lt_of_cell? w _ hx182_0)).trans hx182_0
              replace hx182_1 := (HB.out.cell (World.block_lt_of_cell? w _ hx182_1)).trans hx182_1
              replace hx182_2 := (HB.out.cell (World.block_lt_of_cell? w _ hx182_2)).trans hx182_2
              replace hx182_3 := (HB.out.cell (World.block_lt_of_cell? w _ hx182_3)).trans hx182_3
              replace hx182_4 := (HB.out.cell (World.block_lt_of_cell? w _ hx182_4)).trans hx182_4
              have HR182_0 := Aside0.mk hi182_0
              have HC182_0 := Aside0.mk hl182_0
              clear hi182_0 hl182_0
              replace p182 := eq_true p182
              replace q182 := eq_true q182
              go_wp2_with (first | ((with_reducible refine gate_dst (N := 6) rfl ?_); refine box_event ?hg (N := 6) ?hd (cs := #[.slice none 0 0, .int .i64 0, .int .i64 0, .int .i64 0, .int .i64 0]) (t := 53) ?hr ?_; (case hd => rfl); (case hg => rfl); (case hr => first | (go_simp; done) | (go_simp; rfl)); intro gb183 hg w42 hbox hb; have n0_ := Aside0.mk (Kd.R_below (bq69) hb); have n1_ := Aside0.mk (blkB BK155.out hb); have n2_ := Aside0.mk (below_step (bq35) hb); have n3_ := Aside0.mk (hbox); have n4_ := Aside0.mk ((bq15 : w.heap.size ≤ gb183)); have n5_ := Aside0.mk ((bq15 : w.heap.size ≤ gb183)); have n6_ := Aside0.mk ((by rw [hg]; exact Nat.ne_of_lt (blkL BK155.out) : gb155 ≠ gb183)); have n7_ := Aside0.mk ((by rw [hg]; exact Nat.ne_of_gt (blkL BK155.out) : gb183 ≠ gb155)); clear HO_4; clear BK155; clear HB; have HO_4 := n0_; have BK155 := n1_; have HB := n2_; have BK183 := n3_; have GW183 := n4_; have GE183 := n5_; have NB155_183 := n6_; have NB183_155 := n7_; clear n0_ n1_ n2_ n3_ n4_ n5_ n6_ n7_; clear hb hbox hg; have hnb43 := NB183_155.out; have hnc43 := NB155_183.out; obtain ⟨hcz44_0, hcz44_1, hcz44_2, hcz44_3, hcz44_4, hfz44_0, hfz44_1, hfz44_2, hfz44_3, hfz44_4⟩ := bk5 BK183.out) | ((with_reducible refine gate_callee (f := 42) rfl ?_); refine goesL_ (some 50) rfl rfl Tryd.func42 (by kernel_rfl) rfl #[.int .i64 x43_3] rfl (bq44) ?_; (with_reducible refine (strconv_Itoa_42.calls x43_3 t184 _ A39.out).mono ?_); rintro e w45 ⟨rfl, hb⟩; refine ⟨_, rfl, ?_⟩; have n0_ := Aside0.mk (Kd.R_below (by (with_reducible repeat (first | apply Kd.R_alloc | apply Kd.R_drewN | apply Kd.R_drew)); exact (Kd.R_mono (Kd.R_far (p := ⟨gb183, 4, none⟩) (Kd.R_far (p := ⟨gb183, 3, none⟩) (Kd.R_far (p := ⟨gb183, 2, none⟩) (Kd.R_far (p := ⟨gb183, 1, none⟩) (Kd.R_far (p := ⟨gb183, 0, none⟩) (Kd.R_types HO_4.out BK183.out (by decide)) (fun _ hk => hk.2) (.slice A182_0 ((rd_T53 l0_5 x43_3).f0).length c182_0)) (fun _ hk => hk.2) (.int .i64 ((rd_T53 l0_5 x43_3).f1))) (fun _ hk => hk.2) (.int .i64 ((rd_T53 l0_5 x43_3).f2))) (fun _ hk => hk.2) (.int .i64 ((rd_T53 l0_5 x43_3).f3.f0))) (fun _ hk => hk.2) (.int .i64 ((rd_T53 l0_5 x43_3).f3.f1))) (fun _ h_ => h_.1))) hb); have n1_ := Aside0.mk (blk_below (g := gb155) (o := .cells #[.string a0_0, .slice A0_1 l0_1.length c0_1, .string a0_2, .slice A0_3 l0_3.length c0_3, .slice A0_4 l0_4.length c0_4, .slice (some ad182) l0_5.length c0_5] 40 (0, 0)) (by (with_reducible repeat (first | refine blk_drewN ?_ _ | refine blk_drew ?_ | refine blk_alloc ?_ _)); refine blk_far ?_ NB155_183.out _; (with_reducible repeat (first | refine blk_drewN ?_ _ | refine blk_drew ?_ | refine blk_alloc ?_ _)); refine blk_far ?_ NB155_183.out _; (with_reducible repeat (first | refine blk_drewN ?_ _ | refine blk_drew ?_ | refine blk_alloc ?_ _)); refine blk_far ?_ NB155_183.out _; (with_reducible repeat (first | refine blk_drewN ?_ _ | refine blk_drew ?_ | refine blk_alloc ?_ _)); refine blk_far ?_ NB155_183.out _; (with_reducible repeat (first | refine blk_drewN ?_ _ | refine blk_drew ?_ | refine blk_alloc ?_ _)); refine blk_far ?_ NB155_183.out _; (with_reducible repeat (first | refine blk_drewN ?_ _ | refine blk_drew ?_ | refine blk_alloc ?_ _)); exact BK155.out) hb); have n2_ := Aside0.mk (blk_below (g := gb183) (o := .cells #[.slice A182_0 ((rd_T53 l0_5 x43_3).f0).length c182_0, .int .i64 ((rd_T53 l0_5 x43_3).f1), .int .i64 ((rd_T53 l0_5 x43_3).f2), .int .i64 ((rd_T53 l0_5 x43_3).f3.f0), .int .i64 ((rd_T53 l0_5 x43_3).f3.f1)] 53 (0, 0)) (by (with_reducible repeat (first | refine blk_drewN ?_ _ | refine blk_drew ?_ | refine blk_alloc ?_ _)); refine blk_put (cs := #[.slice A182_0 ((rd_T53 l0_5 x43_3).f0).length c182_0, .int .i64 ((rd_T53 l0_5 x43_3).f1), .int .i64 ((rd_T53 l0_5 x43_3).f2), .int .i64 ((rd_T53 l0_5 x43_3).f3.f0), .int .i64 0]) ?_ 4 _ rfl; (with_reducible repeat (first | refine blk_drewN ?_ _ | refine blk_drew ?_ | refine blk_alloc ?_ _)); refine blk_put (cs := #[.slice A182_0 ((rd_T53 l0_5 x43_3).f0).length c182_0, .int .i64 ((rd_T53 l0_5 x43_3).f1), .int .i64 ((rd_T53 l0_5 x43_3).f2), .int .i64 0, .int .i64 0]) ?_ 3 _ rfl; (with_reducible repeat (first | refine blk_drewN ?_ _ | refine blk_drew ?_ | refine blk_alloc ?_ _)); refine blk_put (cs := #[.slice A182_0 ((rd_T53 l0_5 x43_3).f0).length c182_0, .int .i64 ((rd_T53 l0_5 x43_3).f1), .int .i64 0, .int .i64 0, .int .i64 0]) ?_ 2 _ rfl; (with_reducible repeat (first | refine blk_drewN ?_ _ | refine blk_drew ?_ | refine blk_alloc ?_ _)); refine blk_put (cs := #[.slice A182_0 ((rd_T53 l0_5 x43_3).f0).length c182_0, .int .i64 0, .int .i64 0, .int .i64 0, .int .i64 0]) ?_ 1 _ rfl; (with_reducible repeat (first | refine blk_drewN ?_ _ | refine blk_drew ?_ | refine blk_alloc ?_ _)); refine blk_put (cs := #[.slice none 0 0, .int .i64 0, .int .i64 0, .int .i64 0, .int .i64 0]) ?_ 0 _ rfl; (with_reducible repeat (first | refine blk_drewN ?_ _ | refine blk_drew ?_ | refine blk_alloc ?_ _)); exact BK183.out) hb); have n3_ := Aside0.mk (below_step (bq25) hb); clear HO_4; clear BK155; clear BK183; clear HB; have HO_4 := n0_; have BK155 := n1_; have BK183 := n2_; have HB := n3_; clear n0_ n1_ n2_ n3_; (try clear hb); (try clear hb2); (try clear hk); (try clear hi)) | ((with_reducible refine gate_builtin (b := .append) (xs := #[.tmp 48, .tmp 52]) rfl ?_); at_builtin; refine Kd.R_append Kd.string (w0 := w) w.heap.size rfl (.tmp 48) (.tmp 52) 31 9 (.string ⟨#[]⟩) 16 rfl Tryd.underlying31 info9 rfl (by decide) (by omega) u4 x4_3 ((⟨#[98, 108, 111, 99, 107, 32]⟩ : ByteArray) ++ t184) [.string ((⟨#[98, 108, 111, 99, 107, 32]⟩ : ByteArray) ++ t184)] (fun _ => True) (fun _ => False) rfl rfl ?aP (fun _ hk => hk.elim) ?aF ?aO ?aB ?aS ?aL ?_; (case aP => exact rfl); (case aB => exact (bq25)); (case aF => exact (fun _ _ => trivial)); (case aO => exact (bq69)); (case aS => exact (below_size (bq25))); (case aL => have := LMc41.out; omega); intro v186 w46 ho hb hg hat; rw [← Ny185.out] at ho; have n0_ := Aside0.mk (blkG BK155.out hg (Kd.R_ne HO_4.out BK155.out (by decide))); have n1_ := Aside0.mk (blkG BK183.out hg (Kd.R_ne HO_4.out BK183.out (by decide))); have n2_ := Aside0.mk (hb); have n3_ := Aside0.mk (ho); clear BK155; clear BK183; clear HB; clear HO_4; have BK155 := n0_; have BK183 := n1_; have HB := n2_; have HO187 := n3_; clear n0_ n1_ n2_ n3_; clear ho hb hg hat; obtain ⟨hcz47_0, hcz47_1, hcz47_2, hcz47_3, hcz47_4, hfz47_0, hfz47_1, hfz47_2, hfz47_3, hfz47_4⟩ := bk5 BK183.out))
              go_loopg [4, 57] k3 (fun kq v4 v57 w' => ∃ (x4_4 : List ByteArray) (x57_4 : Int), v57 = .int .i64 x57_4 ∧ Aside0 (ir_function.l1 kq x4_4 l0_5 (l0_5.length : Int) x43_3 ((rd_T53 l0_5 x43_3).f0) (((rd_T53 l0_5 x43_3).f0).length : Int) x57_4 a0_0 l0_1 a0_2 l0_3 l0_4 l0_5 ((rd_T53 l0_5 x43_3).f0) ((rd_T53 l0_5 x43_3).f1) ((rd_T53 l0_5 x43_3).f2) ((rd_T53 l0_5 x43_3).f3.f0) ((rd_T53 l0_5 x43_3).f3.f1) = some r) ∧ Aside0 (kq ≤ k3) ∧ Aside0 (Kd.R Kd.string 9 w' w.heap.size (fun _ => True) v4 x4_4) ∧ Aside0 (w'.heap[gb155]? = some (.cells #[.string a0_0, (.slice A0_1 l0_1.length c0_1), .string a0_2, (.slice A0_3 l0_3.length c0_3), (.slice A0_4 l0_4.length c0_4), (.slice (some ad182) l0_5.length c0_5)] 40 (0, 0))) ∧ Aside0 (w'.heap[gb183]? = some (.cells #[(.slice A182_0 ((rd_T53 l0_5 x43_3).f0).length c182_0), .int .i64 ((rd_T53 l0_5 x43_3).f1), .int .i64 ((rd_T53 l0_5 x43_3).f2), .int .i64 ((rd_T53 l0_5 x43_3).f3.f0), .int .i64 ((rd_T53 l0_5 x43_3).f3.f1)] 53 (0, 0))) ∧ Aside0 (Below w.heap.size w w'))
              case atStart => exact ⟨(y185), (0), (bq73), H', ⟨Nat.le_refl _⟩, ⟨by (with_reducible repeat (first | apply Kd.R_alloc | apply Kd.R_drewN | apply Kd.R_drew)); exact HO187.out⟩, ⟨by (with_reducible repeat (first | refine blk_drewN ?_ _ | refine blk_drew ?_ | refine blk_alloc ?_ _)); exact BK155.out⟩, ⟨by (with_reducible repeat (first | refine blk_drewN ?_ _ | refine blk_drew ?_ | refine blk_alloc ?_ _)); exact BK183.out⟩, ⟨bq25⟩⟩
              case round =>
               clear H'
               try clear c1
               try clear p1
               try clear q1
               try clear hx1
               try clear c2
               try clear p2
               try clear c3
               try clear c4
               try clear c13
               try clear c13b0
               try clear c13b1
               try clear c14
               try clear c18
               try clear p18
               try clear q18
               try clear hx18
               try clear c24
               try clear c24b0
               try clear c24b1
               try clear c25
               try clear c27
               try clear c29
               try clear c30
               try clear c36
               try clear c36b0
               try clear c37
               try clear c37b0
               try clear c38
               try clear c38b0
               try clear c40
               try clear c40b0
               try clear c40b1
               try clear c40b2
               try clear c40b3
               try clear c41
               try clear c42
               try clear c43
               try clear hcz12_0
               try clear hcz12_1
               try clear hcz12_2
               try clear hcz12_3
               try clear hcz12_4
               try clear hcz12_5
               try clear hcz15_0
               try clear hcz15_1
               try clear hcz15_2
               try clear hcz15_3
               try clear hcz15_4
               try clear hcz15_5
               try clear hcz23_0
               try clear hcz23_1
               try clear hcz23_2
               try clear hcz23_3
               try clear hcz23_4
               try clear hcz23_5
               try clear hcz30_0
               try clear hcz30_1
               try clear hcz30_2
               try clear hcz30_3
               try clear hcz30_4
               try clear hcz30_5
               try clear hcz35_0
               try clear hcz35_1
               try clear hcz35_2
               try clear hcz35_3
               try clear hcz35_4
               try clear hcz35_5
               try clear hcz44_0
               try clear hcz44_1
               try clear hcz44_2
               try clear hcz44_3
               try clear hcz44_4
               try clear hcz47_0
               try clear hcz47_1
               try clear hcz47_2
               try clear hcz47_3
               try clear hcz47_4
               try clear hcz6_0
               try clear hcz6_1
               try clear hcz6_2
               try clear hcz6_3
               try clear hcz6_4
               try clear hcz6_5
               try clear hcz9_0
               try clear hcz9_1
               try clear hcz9_2
               try clear hcz9_3
               try clear hcz9_4
               try clear hcz9_5
               try clear hfz12_0
               try clear hfz12_1
               try clear hfz12_2
               try clear hfz12_3
               try clear hfz12_4
               try clear hfz12_5
               try clear hfz15_0
               try clear hfz15_1
               try clear hfz15_2
               try clear hfz15_3
               try clear hfz15_4
               try clear hfz15_5
               try clear hfz23_0
               try clear hfz23_1
               try clear hfz23_2
               try clear hfz23_3
               try clear hfz23_4
               try clear hfz23_5
               try clear hfz30_0
               try clear hfz30_1
               try clear hfz30_2
               try clear hfz30_3
               try clear hfz30_4
               try clear hfz30_5
               try clear hfz35_0
               try clear hfz35_1
               try clear hfz35_2
               try clear hfz35_3
               try clear hfz35_4
               try clear hfz35_5
               try clear hfz44_0
               try clear hfz44_1
               try clear hfz44_2
               try clear hfz44_3
               try clear hfz44_4
               try clear hfz47_0
               try clear hfz47_1
               try clear hfz47_2
               try clear hfz47_3
               try clear hfz47_4
               try clear hfz6_0
               try clear hfz6_1
               try clear hfz6_2
               try clear hfz6_3
               try clear hfz6_4
               try clear hfz6_5
               try clear hfz9_0
               try clear hfz9_1
               try clear hfz9_2
               try clear hfz9_3
               try clear hfz9_4
               try clear hfz9_5
               try clear hx182_0
               try clear hx182_1
               try clear hx182_2
               try clear hx182_3
               try clear hx182_4
               try clear p182
               try clear p2
               try clear q182
               obtain ⟨x4_4, x57_4, rfl, HA, HK4, HO_4, BK155, BK183, HB⟩ := hrel
               cases gk with
               | zero => exact absurd HA.out (by simp [ir_function.l1])
               | succ k4 =>
                have H := HA.out
                clear HA
                simp only [ir_function.l1] at H
                by_cases c48 : x57_4 < (((rd_T53 l0_5 x43_3).f0).length : Int)
                ·rw [if_pos c48] at H
                 have c48b0 := decide_eq_true c48
                 clear c48
                 by_cases c49 : 0 ≤ x57_4
                 ·rw [if_pos c49] at H
                  have c49b0 := decide_eq_true c49
                  clear c49
                  by_cases c50 : x57_4 < (((rd_T53 l0_5 x43_3).f0).length : Int)
                  ·rw [if_pos c50] at H
                   have c50b0 := decide_eq_true c50
                   clear c50
                   replace H := Option.bind_eq_some_iff.mp H
                   obtain ⟨t189, A510, H⟩ := H
                   (try dsimp only at H)
                   have A51 := Aside0.mk A510
                   clear A510
                   by_cases c52 : x4_4.length < 8796093022208
                   ·rw [if_pos c52] at H
                    have LMc52 := Aside0.mk c52
                    clear c52
                    obtain ⟨y190, hy190⟩ : ∃ y_ : List ByteArray, y_ = (x4_4 ++ [t189]) := ⟨_, rfl⟩
                    replace H : (ir_function.l1 k4 y190 l0_5 (l0_5.length : Int) x43_3 ((rd_T53 l0_5 x43_3).f0) (((rd_T53 l0_5 x43_3).f0).length : Int) (wrap64 (x57_4 + 1)) a0_0 l0_1 a0_2 l0_3 l0_4 l0_5 ((rd_T53 l0_5 x43_3).f0) ((rd_T53 l0_5 x43_3).f1) ((rd_T53 l0_5 x43_3).f2) ((rd_T53 l0_5 x43_3).f3.f0) ((rd_T53 l0_5 x43_3).f3.f1)) = some r := by first | (rw [hy190]; with_reducible exact H) | (have H2_ := (Option.bind_some _ _).symm.trans H; rw [hy190]; with_reducible exact H2_) | (have H2_ := (Option.bind_some _ _).symm.trans H; with_reducible exact H2_) | with_reducible exact H | (rw [hy190]; exact H) | exact H
                    have Ny190 := Aside0.mk hy190
                    clear hy190
                    have H' := Aside0.mk H
                    clear H
                    have p188 : 0 ≤ (x57_4 : Int) := of_decide_eq_true (bq72)
                    have q188 : x57_4 < (((rd_T53 l0_5 x43_3).f0).length : Int) := of_decide_eq_true (bq72)
                    obtain ⟨ad188, e188, hx188_0⟩ := Kd.at_int HR182_0.out x57_4 p188 q188
                    cases e188
                    replace hx188_0 := (HB.out.cell (World.block_lt_of_cell? w _ hx188_0)).trans hx188_0
                    replace p188 := eq_true p188
                    replace q188 := eq_true q188
                    have hnb53 := NB155_183.out
                    have hnc53 := NB183_155.out
                    obtain ⟨hcz54_0, hcz54_1, hcz54_2, hcz54_3, hcz54_4, hcz54_5, hfz54_0, hfz54_1, hfz54_2, hfz54_3, hfz54_4, hfz54_5⟩ := bk6 BK155.out
                    go_wp2_with (first | ((with_reducible refine gate_callee (f := 25) rfl ?_); refine goesL_ (some 64) rfl rfl Tryd.func25 (by kernel_rfl) rfl #[.agg #[.string a0_0, .slice A0_1 l0_1.length c0_1, .string a0_2, .slice A0_3 l0_3.length c0_3, .slice A0_4 l0_4.length c0_4, .slice (some ad182) l0_5.length c0_5], .int .i64 (rd ((rd_T53 l0_5 x43_3).f0) x57_4)] rfl (bq44) ?_; (with_reducible refine (ir_Line.calls k4 a0_0 _ _ l0_1 a0_2 _ _ l0_3 _ _ l0_4 _ _ l0_5 (rd ((rd_T53 l0_5 x43_3).f0) x57_4) t189 _ ?side1 ?side2 ?side3 ?side4 ?side5 ?side6 ?side7 ?side8 A51.out).mono ?_); (case side1 => repeat (first | exact (Kd.C_below HR0_1.out HB.out) | (with_reducible refine Kd.C_alloc ?_ _) | (with_reducible refine Kd.C_drewN ?_ _) | (with_reducible refine Kd.C_drew ?_))); (case side2 => exact HC0_1.out); (case side3 => repeat (first | exact (Kd.C_below HR0_3.out HB.out) | (with_reducible refine Kd.C_alloc ?_ _) | (with_reducible refine Kd.C_drewN ?_ _) | (with_reducible refine Kd.C_drew ?_))); (case side4 => exact HC0_3.out); (case side5 => repeat (first | exact (Kd.C_below HR0_4.out HB.out) | (with_reducible refine Kd.C_alloc ?_ _) | (with_reducible refine Kd.C_drewN ?_ _) | (with_reducible refine Kd.C_drew ?_))); (case side6 => exact HC0_4.out); (case side7 => repeat (first | exact (Kd.C_below HR0_5.out HB.out) | (with_reducible refine Kd.C_alloc ?_ _) | (with_reducible refine Kd.C_drewN ?_ _) | (with_reducible refine Kd.C_drew ?_))); (case side8 => exact HC0_5.out); rintro e w55 ⟨rfl, hb⟩; refine ⟨_, rfl, ?_⟩; have n0_ := Aside0.mk (Kd.R_below (bq69) hb); have n1_ := Aside0.mk (blkB BK155.out hb); have n2_ := Aside0.mk (blkB BK183.out hb); have n3_ := Aside0.mk (below_step (bq25) hb); clear HO_4; clear BK155; clear BK183; clear HB; have HO_4 := n0_; have BK155 := n1_; have BK183 := n2_; have HB := n3_; clear n0_ n1_ n2_ n3_; (try clear hb); (try clear hb2); (try clear hk); (try clear hi)) | ((with_reducible refine gate_builtin (b := .append) (xs := #[.tmp 61, .tmp 65]) rfl ?_); at_builtin; refine Kd.R_append Kd.string (w0 := w) w.heap.size rfl (.tmp 61) (.tmp 65) 31 9 (.string ⟨#[]⟩) 16 rfl Tryd.underlying31 info9 rfl (by decide) (by omega) u4 x4_4 t189 [.string t189] (fun _ => True) (fun _ => False) rfl rfl ?aP (fun _ hk => hk.elim) ?aF ?aO ?aB ?aS ?aL ?_; (case aP => exact rfl); (case aB => exact (bq25)); (case aF => exact (fun _ _ => trivial)); (case aO => exact (bq69)); (case aS => exact (below_size (bq25))); (case aL => have := LMc52.out; omega); intro v191 w56 ho hb hg hat; rw [← Ny190.out] at ho; have n0_ := Aside0.mk (blkG BK155.out hg (Kd.R_ne HO_4.out BK155.out (by decide))); have n1_ := Aside0.mk (blkG BK183.out hg (Kd.R_ne HO_4.out BK183.out (by decide))); have n2_ := Aside0.mk (hb); have n3_ := Aside0.mk (ho); clear BK155; clear BK183; clear HB; clear HO_4; have BK155 := n0_; have BK183 := n1_; have HB := n2_; have HO192 := n3_; clear n0_ n1_ n2_ n3_; clear ho hb hg hat))
                    go_roundg k4
                    case measure => have := HJ3.out; have := HJ17.out; have := HK3.out; have := HK4.out; omega
                    case rel => exact ⟨(y190), (wrap64 (x57_4 + 1)), (bq73), H', ⟨by have := HJ3.out; have := HJ17.out; have := HK3.out; have := HK4.out; omega⟩, ⟨by (with_reducible repeat (first | apply Kd.R_alloc | apply Kd.R_drewN | apply Kd.R_drew)); exact HO192.out⟩, ⟨by (with_reducible repeat (first | refine blk_drewN ?_ _ | refine blk_drew ?_ | refine blk_alloc ?_ _)); exact BK155.out⟩, ⟨by (with_reducible repeat (first | refine blk_drewN ?_ _ | refine blk_drew ?_ | refine blk_alloc ?_ _)); exact BK183.out⟩, ⟨bq25⟩⟩
                   ·rw [if_neg c52] at H
                    exact absurd H (by simp)
                  ·rw [if_neg c50] at H
                   exact absurd H (by simp)
                 ·rw [if_neg c49] at H
                  exact absurd H (by simp)
                ·rw [if_neg c48] at H
                 have c48b0 := decide_eq_false c48
                 clear c48
                 replace H := Option.bind_eq_some_iff.mp H
                 obtain ⟨t193, A570, H⟩ := H
                 (try dsimp only at H)
                 have A57 := Aside0.mk A570
                 clear A570
                 by_cases c58 : x4_4.length < 8796093022208
                 ·rw [if_pos c58] at H
                  have LMc58 := Aside0.mk c58
                  clear c58
                  obtain ⟨y194, hy194⟩ : ∃ y_ : List ByteArray, y_ = (x4_4 ++ [t193]) := ⟨_, rfl⟩
                  replace H : (ir_function.l0 k4 y194 l0_5 (l0_5.length : Int) (wrap64 (x43_3 + 1)) a0_0 l0_1 a0_2 l0_3 l0_4 l0_5) = some r := by first | (rw [hy194]; with_reducible exact H) | (have H2_ := (Option.bind_some _ _).symm.trans H; rw [hy194]; with_reducible exact H2_) | (have H2_ := (Option.bind_some _ _).symm.trans H; with_reducible exact H2_) | with_reducible exact H | (rw [hy194]; exact H) | exact H
                  have Ny194 := Aside0.mk hy194
                  clear hy194
                  have H' := Aside0.mk H
                  clear H
                  have hnb59 := NB183_155.out
                  have hnc59 := NB155_183.out
                  obtain ⟨hcz60_0, hcz60_1, hcz60_2, hcz60_3, hcz60_4, hfz60_0, hfz60_1, hfz60_2, hfz60_3, hfz60_4⟩ := bk5 BK183.out
                  go_wp2_with (first | ((with_reducible refine gate_callee (f := 48) rfl ?_); refine goesL_ (some 70) rfl rfl Tryd.func48 (by kernel_rfl) rfl #[.agg #[.slice A182_0 ((rd_T53 l0_5 x43_3).f0).length c182_0, .int .i64 ((rd_T53 l0_5 x43_3).f1), .int .i64 ((rd_T53 l0_5 x43_3).f2), .int .i64 ((rd_T53 l0_5 x43_3).f3.f0), .int .i64 ((rd_T53 l0_5 x43_3).f3.f1)]] rfl (bq44) ?_; (with_reducible refine (ir_jump.calls k4 _ _ ((rd_T53 l0_5 x43_3).f0) ((rd_T53 l0_5 x43_3).f1) ((rd_T53 l0_5 x43_3).f2) ((rd_T53 l0_5 x43_3).f3.f0) ((rd_T53 l0_5 x43_3).f3.f1) t193 _ ?side1 ?side2 A57.out).mono ?_); (case side1 => repeat (first | exact (Kd.C_below HR182_0.out HB.out) | (with_reducible refine Kd.C_alloc ?_ _) | (with_reducible refine Kd.C_drewN ?_ _) | (with_reducible refine Kd.C_drew ?_))); (case side2 => exact HC182_0.out); rintro e w61 ⟨rfl, hb⟩; refine ⟨_, rfl, ?_⟩; have n0_ := Aside0.mk (Kd.R_below (bq69) hb); have n1_ := Aside0.mk (blkB BK155.out hb); have n2_ := Aside0.mk (blkB BK183.out hb); have n3_ := Aside0.mk (below_step (bq25) hb); clear HO_4; clear BK155; clear BK183; clear HB; have HO_4 := n0_; have BK155 := n1_; have BK183 := n2_; have HB := n3_; clear n0_ n1_ n2_ n3_; (try clear hb); (try clear hb2); (try clear hk); (try clear hi)) | ((with_reducible refine gate_builtin (b := .append) (xs := #[.tmp 68, .tmp 71]) rfl ?_); at_builtin; refine Kd.R_append Kd.string (w0 := w) w.heap.size rfl (.tmp 68) (.tmp 71) 31 9 (.string ⟨#[]⟩) 16 rfl Tryd.underlying31 info9 rfl (by decide) (by omega) u4 x4_4 t193 [.string t193] (fun _ => True) (fun _ => False) rfl rfl ?aP (fun _ hk => hk.elim) ?aF ?aO ?aB ?aS ?aL ?_; (case aP => exact rfl); (case aB => exact (bq25)); (case aF => exact (fun _ _ => trivial)); (case aO => exact (bq69)); (case aS => exact (below_size (bq25))); (case aL => have := LMc58.out; omega); intro v195 w62 ho hb hg hat; rw [← Ny194.out] at ho; have n0_ := Aside0.mk (blkG BK155.out hg (Kd.R_ne HO_4.out BK155.out (by decide))); have n1_ := Aside0.mk (blkG BK183.out hg (Kd.R_ne HO_4.out BK183.out (by decide))); have n2_ := Aside0.mk (hb); have n3_ := Aside0.mk (ho); clear BK155; clear BK183; clear HB; clear HO_4; have BK155 := n0_; have BK183 := n1_; have HB := n2_; have HO196 := n3_; clear n0_ n1_ n2_ n3_; clear ho hb hg hat))
                  go_roundg k4
                  case measure => have := HJ3.out; have := HJ17.out; have := HK3.out; have := HK4.out; omega
                  case rel => exact ⟨(y194), (wrap64 (x43_3 + 1)), (bq73), H', ⟨by have := HJ3.out; have := HJ17.out; have := HK3.out; have := HK4.out; omega⟩, ⟨by (with_reducible repeat (first | apply Kd.R_alloc | apply Kd.R_drewN | apply Kd.R_drew)); exact HO196.out⟩, ⟨by (with_reducible repeat (first | refine blk_drewN ?_ _ | refine blk_drew ?_ | refine blk_alloc ?_ _)); exact BK155.out⟩, ⟨bq25⟩⟩
                 ·rw [if_neg c58] at H
                  exact absurd H (by simp)
             ·rw [if_neg c41] at H
              exact absurd H (by simp)
            ·rw [if_neg c40] at H
             exact absurd H (by simp)
           ·rw [if_neg c38] at H
            exact absurd H (by simp)
          ·rw [if_neg c37] at H
           exact absurd H (by simp)
         ·rw [if_neg c36] at H
          have c36b0 := decide_eq_false c36
          clear c36
          obtain rfl := Option.some.inj H
          go_wp2
          go_ret
          exact ⟨_, by first | rfl | (simp [errW_none, errW_some] <;> rfl) | (simp [*, errW_none, errW_some] <;> rfl), bq69, bq35⟩
  ·rw [if_neg c3] at H
   exact absurd H (by simp)
 ·rw [if_neg c2] at H
  exact absurd H (by simp)

end Go.Proofs.YtkiiojgaaoaipaaDoor.Q

namespace Go.Proofs.YtkiiojgaaoaipaaDoor.Q
open Go.RowKit Go.Proofs.YtkiiojgaaoaipaaDoorW.PrintWords Go.Proofs.YtkiiojgaaoaipaaDoorW.PrintLast Go.Proofs.YtkiiojgaaoaipaaDoorW.PrintMore
attribute [local go_sem] max2_int min2_int max_two min_two max_three min_three max_four min_four   -- for this text's walks alone
set_option linter.unusedVariables false
set_option linter.unusedSimpArgs false

/-! ### ir_Lines: function 11 -/
mutual
def ir_Lines.l0 : Nat → List ByteArray → List (S58) → Int → Int → List (S58) → List (S61) → List (S40) → Option (List ByteArray)
 | 0, _, _, _, _, _, _, _ => none
 | k + 1, x3, x14, x15, x16, x198000, x198001, x198002 => if x16 < x15 then (if 0 ≤ x16 then (if x16 < (x14.length : Int) then (ir_Lines.l1 k x3 (([(⟨#[115, 116, 114, 117, 99, 116]⟩ : ByteArray), (rd_T58 x14 x16).f0] : List ByteArray)) x14 x15 x16 ((rd_T58 x14 x16).f1) (((rd_T58 x14 x16).f1).length : Int) 0 x198000 x198001 x198002) else (none)) else (none)) else (ir_Lines.l2 k x3 x198001 (x198001.length : Int) 0 x198000 x198001 x198002)
def ir_Lines.l1 : Nat → List ByteArray → List ByteArray → List (S58) → Int → Int → List (S61) → Int → Int → List (S58) → List (S61) → List (S40) → Option (List ByteArray)
 | 0, _, _, _, _, _, _, _, _, _, _, _ => none
 | k + 1, x3, x6, x14, x15, x16, x24, x25, x26, x198000, x198001, x198002 => if x26 < x25 then (if 0 ≤ x26 then (if x26 < (x24.length : Int) then (if ((rd_T61 x24 x26).f0).size + 1 ≤ 9223372036854775807 then (if (((rd_T61 x24 x26).f0) ++ (⟨#[58]⟩ : ByteArray)).size + ((rd_T61 x24 x26).f1).size ≤ 9223372036854775807 then (if x6.length < 8796093022208 then (ir_Lines.l1 k x3 (x6 ++ [(((rd_T61 x24 x26).f0) ++ (⟨#[58]⟩ : ByteArray)) ++ ((rd_T61 x24 x26).f1)]) x14 x15 x16 x24 x25 (wrap64 (x26 + 1)) x198000 x198001 x198002) else (none)) else (none)) else (none)) else (none)) else (none)) else ((strings_Join.f x6 (⟨#[32]⟩ : ByteArray)).bind fun t208 => (if x3.length < 8796093022208 then (ir_Lines.l0 k (x3 ++ [t208]) x14 x15 (wrap64 (x16 + 1)) x198000 x198001 x198002) else (none)))
def ir_Lines.l2 : Nat → List ByteArray → List (S61) → Int → Int → List (S58) → List (S61) → List (S40) → Option (List ByteArray)
 | 0, _, _, _, _, _, _, _ => none
 | k + 1, x3, x47, x48, x49, x198000, x198001, x198002 => if x49 < x48 then (if 0 ≤ x49 then (if x49 < (x47.length : Int) then (if 7 + ((rd_T61 x47 x49).f0).size ≤ 9223372036854775807 then (if ((⟨#[103, 108, 111, 98, 97, 108, 32]⟩ : ByteArray) ++ ((rd_T61 x47 x49).f0)).size + 1 ≤ 9223372036854775807 then (if (((⟨#[103, 108, 111, 98, 97, 108, 32]⟩ : ByteArray) ++ ((rd_T61 x47 x49).f0)) ++ (⟨#[32]⟩ : ByteArray)).size + ((rd_T61 x47 x49).f1).size ≤ 9223372036854775807 then (if x3.length < 8796093022208 then (ir_Lines.l2 k (x3 ++ [(((⟨#[103, 108, 111, 98, 97, 108, 32]⟩ : ByteArray) ++ ((rd_T61 x47 x49).f0)) ++ (⟨#[32]⟩ : ByteArray)) ++ ((rd_T61 x47 x49).f1)]) x47 x48 (wrap64 (x49 + 1)) x198000 x198001 x198002) else (none)) else (none)) else (none)) else (none)) else (none)) else (none)) else (ir_Lines.l3 k x3 x198002 (x198002.length : Int) 0)
def ir_Lines.l3 : Nat → List ByteArray → List (S40) → Int → Int → Option (List ByteArray)
 | 0, _, _, _, _ => none
 | k + 1, x3, x65, x66, x67 => if x67 < x66 then (if 0 ≤ x67 then (if x67 < (x65.length : Int) then ((ir_function.f k ((rd_T40 x65 x67).f0) ((rd_T40 x65 x67).f1) ((rd_T40 x65 x67).f2) ((rd_T40 x65 x67).f3) ((rd_T40 x65 x67).f4) ((rd_T40 x65 x67).f5)).bind fun t219 => (if x3.length + t219.length < 8796093022208 then (ir_Lines.l3 k (x3 ++ t219) x65 x66 (wrap64 (x67 + 1))) else (none))) else (none)) else (none)) else (some x3)
end
def ir_Lines.f (k : Nat) (l0_0 : List (S58)) (l0_1 : List (S61)) (l0_2 : List (S40)) : Option (List ByteArray) := ir_Lines.l0 k ([] : List ByteArray) l0_0 (l0_0.length : Int) 0 l0_0 l0_1 l0_2
theorem ir_Lines.mono_l : ∀ k, (∀ y0 y1 y2 y3 y4 y5 y6, LeO (ir_Lines.l0 k y0 y1 y2 y3 y4 y5 y6) (ir_Lines.l0 (k + 1) y0 y1 y2 y3 y4 y5 y6)) ∧ (∀ y0 y1 y2 y3 y4 y5 y6 y7 y8 y9 y10, LeO (ir_Lines.l1 k y0 y1 y2 y3 y4 y5 y6 y7 y8 y9 y10) (ir_Lines.l1 (k + 1) y0 y1 y2 y3 y4 y5 y6 y7 y8 y9 y10)) ∧ (∀ y0 y1 y2 y3 y4 y5 y6, LeO (ir_Lines.l2 k y0 y1 y2 y3 y4 y5 y6) (ir_Lines.l2 (k + 1) y0 y1 y2 y3 y4 y5 y6)) ∧ (∀ y0 y1 y2 y3, LeO (ir_Lines.l3 k y0 y1 y2 y3) (ir_Lines.l3 (k + 1) y0 y1 y2 y3))
 | 0 => ⟨fun _ _ _ _ _ _ _ r h => by simp [ir_Lines.l0] at h, fun _ _ _ _ _ _ _ _ _ _ _ r h => by simp [ir_Lines.l1] at h, fun _ _ _ _ _ _ _ r h => by simp [ir_Lines.l2] at h, fun _ _ _ _ r h => by simp [ir_Lines.l3] at h⟩
 | k + 1 => by
  obtain ⟨ih0, ih1, ih2, ih3⟩ := ir_Lines.mono_l k
  refine ⟨?_, ?_, ?_, ?_⟩
  ·intro y0 y1 y2 y3 y4 y5 y6
   unfold ir_Lines.l0
   repeat' first
   | (with_reducible exact ih0 _ _ _ _ _ _ _)
   | (with_reducible exact ih1 _ _ _ _ _ _ _ _ _ _ _)
   | (with_reducible exact ih2 _ _ _ _ _ _ _)
   | (with_reducible exact ih3 _ _ _ _)
   | (with_reducible exact ir_function.mono _ _ _ _ _ _ _)
   | (with_reducible exact LeO.refl _)
   | (with_reducible exact LeO.none _)
   | (with_reducible refine LeO.ite ?_ ?_)
   | (with_reducible refine LeO.bind ?_ (fun _ => ?_))
   | exact ih0 _ _ _ _ _ _ _
   | exact ih1 _ _ _ _ _ _ _ _ _ _ _
   | exact ih2 _ _ _ _ _ _ _
   | exact ih3 _ _ _ _
   | exact ir_function.mono _ _ _ _ _ _ _
   | exact LeO.none _
   | refine LeO.ite ?_ ?_
   | refine LeO.bind ?_ (fun _ => ?_)
  ·intro y0 y1 y2 y3 y4 y5 y6 y7 y8 y9 y10
   unfold ir_Lines.l1
   repeat' first
   | (with_reducible exact ih0 _ _ _ _ _ _ _)
   | (with_reducible exact ih1 _ _ _ _ _ _ _ _ _ _ _)
   | (with_reducible exact ih2 _ _ _ _ _ _ _)
   | (with_reducible exact ih3 _ _ _ _)
   | (with_reducible exact ir_function.mono _ _ _ _ _ _ _)
   | (with_reducible exact LeO.refl _)
   | (with_reducible exact LeO.none _)
   | (with_reducible refine LeO.ite ?_ ?_)
   | (with_reducible refine LeO.bind ?_ (fun _ => ?_))
   | exact ih0 _ _ _ _ _ _ _
   | exact ih1 _ _ _ _ _ _ _ _ _ _ _
   | exact ih2 _ _ _ _ _ _ _
   | exact ih3 _ _ _ _
   | exact ir_function.mono _ _ _ _ _ _ _
   | exact LeO.none _
   | refine LeO.ite ?_ ?_
   | refine LeO.bind ?_ (fun _ => ?_)
  ·intro y0 y1 y2 y3 y4 y5 y6
   unfold ir_Lines.l2
   repeat' first
   | (with_reducible exact ih0 _ _ _ _ _ _ _)
   | (with_reducible exact ih1 _ _ _ _ _ _ _ _ _ _ _)
   | (with_reducible exact ih2 _ _ _ _ _ _ _)
   | (with_reducible exact ih3 _ _ _ _)
   | (with_reducible exact ir_function.mono _ _ _ _ _ _ _)
   | (with_reducible exact LeO.refl _)
   | (with_reducible exact LeO.none _)
   | (with_reducible refine LeO.ite ?_ ?_)
   | (with_reducible refine LeO.bind ?_ (fun _ => ?_))
   | exact ih0 _ _ _ _ _ _ _
   | exact ih1 _ _ _ _ _ _ _ _ _ _ _
   | exact ih2 _ _ _ _ _ _ _
   | exact ih3 _ _ _ _
   | exact ir_function.mono _ _ _ _ _ _ _
   | exact LeO.none _
   | refine LeO.ite ?_ ?_
   | refine LeO.bind ?_ (fun _ => ?_)
  ·intro y0 y1 y2 y3
   unfold ir_Lines.l3
   repeat' first
   | (with_reducible exact ih0 _ _ _ _ _ _ _)
   | (with_reducible exact ih1 _ _ _ _ _ _ _ _ _ _ _)
   | (with_reducible exact ih2 _ _ _ _ _ _ _)
   | (with_reducible exact ih3 _ _ _ _)
   | (with_reducible exact ir_function.mono _ _ _ _ _ _ _)
   | (with_reducible exact LeO.refl _)
   | (with_reducible exact LeO.none _)
   | (with_reducible refine LeO.ite ?_ ?_)
   | (with_reducible refine LeO.bind ?_ (fun _ => ?_))
   | exact ih0 _ _ _ _ _ _ _
   | exact ih1 _ _ _ _ _ _ _ _ _ _ _
   | exact ih2 _ _ _ _ _ _ _
   | exact ih3 _ _ _ _
   | exact ir_function.mono _ _ _ _ _ _ _
   | exact LeO.none _
   | refine LeO.ite ?_ ?_
   | refine LeO.bind ?_ (fun _ => ?_)
theorem ir_Lines.mono : ∀ a0 a1 a2 k, LeO (ir_Lines.f k a0 a1 a2) (ir_Lines.f (k + 1) a0 a1 a2) := by
 intro a0 a1 a2 k
 obtain ⟨ih0, ih1, ih2, ih3⟩ := ir_Lines.mono_l k
 unfold ir_Lines.f
 repeat' first
   | (with_reducible exact ih0 _ _ _ _ _ _ _)
   | (with_reducible exact ih1 _ _ _ _ _ _ _ _ _ _ _)
   | (with_reducible exact ih2 _ _ _ _ _ _ _)
   | (with_reducible exact ih3 _ _ _ _)
   | (with_reducible exact ir_function.mono _ _ _ _ _ _ _)
   | (with_reducible exact LeO.refl _)
   | (with_reducible exact LeO.none _)
   | (with_reducible refine LeO.ite ?_ ?_)
   | (with_reducible refine LeO.bind ?_ (fun _ => ?_))
   | exact ih0 _ _ _ _ _ _ _
   | exact ih1 _ _ _ _ _ _ _ _ _ _ _
   | exact ih2 _ _ _ _ _ _ _
   | exact ih3 _ _ _ _
   | exact ir_function.mono _ _ _ _ _ _ _
   | exact LeO.none _
   | refine LeO.ite ?_ ?_
   | refine LeO.bind ?_ (fun _ => ?_)
set_option maxHeartbeats 8000000 in
set_option maxRecDepth 100000 in
theorem ir_Lines.calls (k : Nat) (A0_0 : Option Addr) (c0_0 : Nat) (l0_0 : List (S58)) (A0_1 : Option Addr) (c0_1 : Nat) (l0_1 : List (S61)) (A0_2 : Option Addr) (c0_2 : Nat) (l0_2 : List (S40)) (r : List ByteArray) (w : World) (hr0_0 : Kd.C k58 w A0_0 l0_0.length l0_0) (hc0_0 : l0_0.length ≤ c0_0) (hr0_1 : Kd.C k61 w A0_1 l0_1.length l0_1) (hc0_1 : l0_1.length ≤ c0_1) (hr0_2 : Kd.C k40 w A0_2 l0_2.length l0_2) (hc0_2 : l0_2.length ≤ c0_2) (h : ir_Lines.f k l0_0 l0_1 l0_2 = some r) (hG : Glob w := by first | assumption | (refine Glob.below (by assumption) ?_; repeat (first | with_reducible exact (Aside0.out (by assumption)) | (refine below_set ?_ (Aside0.out (by assumption))) | (with_reducible first | apply below_alloc | apply pw_below_drewN | apply below_drew1) | exact (Aside0.out (by assumption))))) :
  Calls Tryd.prog 11 #[.agg #[.slice A0_0 l0_0.length c0_0, .slice A0_1 l0_1.length c0_1, .slice A0_2 l0_2.length c0_2]] w fun e w' => ∃ v0_ : Value, e = .returned (v0_) ∧ Kd.R Kd.string 9 w' w.heap.size (fun _ => True) v0_ r ∧ Below w.heap.size w w' := by
 have hu26 := Tryd.underlying26
 have hu58 := Tryd.underlying58
 have hu61 := Tryd.underlying61
 have hu40 := Tryd.underlying40
 have HR0_0 := Aside0.mk hr0_0
 have HC0_0 := Aside0.mk hc0_0
 clear hr0_0 hc0_0
 have HR0_1 := Aside0.mk hr0_1
 have HC0_1 := Aside0.mk hc0_1
 clear hr0_1 hc0_1
 have HR0_2 := Aside0.mk hr0_2
 have HC0_2 := Aside0.mk hc0_2
 clear hr0_2 hc0_2
 have HB := Aside0.mk (Below.refl w.heap.size w)
 have H : (ir_Lines.l0 k ([] : List ByteArray) l0_0 (l0_0.length : Int) 0 l0_0 l0_1 l0_2) = some r := h
 clear h
 have H' := Aside0.mk H
 clear H
 go_enter Tryd.func11, Tryd.ntmps11
 go_wp2_with (first | ((with_reducible refine gate_dst (N := 1) rfl ?_); refine box_event ?hg (N := 1) ?hd (cs := #[.slice A0_0 l0_0.length c0_0, .slice A0_1 l0_1.length c0_1, .slice A0_2 l0_2.length c0_2]) (t := 26) ?hr ?_; (case hd => rfl); (case hg => rfl); (case hr => first | (go_simp; done) | (go_simp; rfl)); intro gb197 hg w2 hbox hb; have n0_ := Aside0.mk (below_step (bq47) hb); have n1_ := Aside0.mk (hbox); have n2_ := Aside0.mk ((bq33 : w.heap.size ≤ gb197)); have n3_ := Aside0.mk ((bq33 : w.heap.size ≤ gb197)); clear HB; have HB := n0_; have BK197 := n1_; have GW197 := n2_; have GE197 := n3_; clear n0_ n1_ n2_ n3_; clear hb hbox hg; obtain ⟨hcz3_0, hcz3_1, hcz3_2, hfz3_0, hfz3_1, hfz3_2⟩ := bk3 BK197.out))
 go_loopg [3, 16] k (fun kq v3 v16 w' => ∃ (x3_1 : List ByteArray) (x16_1 : Int), v16 = .int .i64 x16_1 ∧ Aside0 (ir_Lines.l0 kq x3_1 l0_0 (l0_0.length : Int) x16_1 l0_0 l0_1 l0_2 = some r) ∧ Aside0 (kq ≤ k) ∧ Aside0 (Kd.R Kd.string 9 w' w.heap.size (fun _ => True) v3 x3_1) ∧ Aside0 (w'.heap[gb197]? = some (.cells #[(.slice A0_0 l0_0.length c0_0), (.slice A0_1 l0_1.length c0_1), (.slice A0_2 l0_2.length c0_2)] 26 (0, 0))) ∧ Aside0 (Below w.heap.size w w'))
 case atStart => exact ⟨(([] : List ByteArray)), (0), (bq73), H', ⟨Nat.le_refl _⟩, ⟨by first | exact Kd.R_nil _ _ _ _ _ | exact Kd.N_nil _ _ _ _ _ | exact Kd.V_nil _ _ _ _ _ | exact Kd.Q_nil _ _ _ _ _ | exact Kd.S_nil _ _ _ _ _⟩, ⟨by (with_reducible repeat (first | refine blk_drewN ?_ _ | refine blk_drew ?_ | refine blk_alloc ?_ _)); exact BK197.out⟩, ⟨bq36⟩⟩
 case round =>
  clear H'
  try clear c1
  try clear p2
  try clear hcz3_0
  try clear hcz3_1
  try clear hcz3_2
  try clear hfz3_0
  try clear hfz3_1
  try clear hfz3_2
  obtain ⟨x3_1, x16_1, rfl, HA, HK1, HO_3, BK197, HB⟩ := hrel
  cases gk with
  | zero => exact absurd HA.out (by simp [ir_Lines.l0])
  | succ k1 =>
   have H := HA.out
   clear HA
   simp only [ir_Lines.l0] at H
   by_cases c4 : x16_1 < (l0_0.length : Int)
   ·rw [if_pos c4] at H
    have c4b0 := decide_eq_true c4
    clear c4
    by_cases c5 : 0 ≤ x16_1
    ·rw [if_pos c5] at H
     have c5b0 := decide_eq_true c5
     clear c5
     by_cases c6 : x16_1 < (l0_0.length : Int)
     ·rw [if_pos c6] at H
      have c6b0 := decide_eq_true c6
      clear c6
      obtain ⟨y200, hy200⟩ : ∃ y_ : List ByteArray, y_ = (([(⟨#[115, 116, 114, 117, 99, 116]⟩ : ByteArray), (rd_T58 l0_0 x16_1).f0] : List ByteArray)) := ⟨_, rfl⟩
      replace H : (ir_Lines.l1 k1 x3_1 y200 l0_0 (l0_0.length : Int) x16_1 ((rd_T58 l0_0 x16_1).f1) (((rd_T58 l0_0 x16_1).f1).length : Int) 0 l0_0 l0_1 l0_2) = some r := by first | (rw [hy200]; with_reducible exact H) | (have H2_ := (Option.bind_some _ _).symm.trans H; rw [hy200]; with_reducible exact H2_) | (have H2_ := (Option.bind_some _ _).symm.trans H; with_reducible exact H2_) | with_reducible exact H | (rw [hy200]; exact H) | exact H
      have Ny200 := Aside0.mk hy200
      clear hy200
      have H' := Aside0.mk H
      clear H
      have p198 : 0 ≤ (x16_1 : Int) := of_decide_eq_true (bq72)
      have q198 : x16_1 < (l0_0.length : Int) := of_decide_eq_true (bq72)
      obtain ⟨ad198, A198_1, c198_1, e198, hx198_0, hx198_1, hl198_1, hi198_1⟩ := at_T58 HR0_0.out x16_1 p198 q198
      cases e198
      replace hx198_0 := (HB.out.cell (World.block_lt_of_cell? w _ hx198_0)).trans hx198_0
      replace hx198_1 := (HB.out.cell (World.block_lt_of_cell? w _ hx198_1)).trans hx198_1
      have HR198_1 := Aside0.mk hi198_1
      have HC198_1 := Aside0.mk hl198_1
      clear hi198_1 hl198_1
      replace p198 := eq_true p198
      replace q198 := eq_true q198
      go_wp2_with (first | ((with_reducible refine gate_dst (N := 5) rfl ?_); refine box_event ?hg (N := 5) ?hd (cs := #[.string (⟨#[]⟩ : ByteArray), .slice none 0 0]) (t := 58) ?hr ?_; (case hd => rfl); (case hg => rfl); (case hr => first | (go_simp; done) | (go_simp; rfl)); intro gb199 hg w7 hbox hb; have n0_ := Aside0.mk (Kd.R_below (bq68) hb); have n1_ := Aside0.mk (blkB BK197.out hb); have n2_ := Aside0.mk (below_step (bq36) hb); have n3_ := Aside0.mk (hbox); have n4_ := Aside0.mk ((bq16 : w.heap.size ≤ gb199)); have n5_ := Aside0.mk ((bq16 : w.heap.size ≤ gb199)); have n6_ := Aside0.mk ((bq74 : gb197 ≠ gb199)); have n7_ := Aside0.mk ((bq75 : gb199 ≠ gb197)); clear HO_3; clear BK197; clear HB; have HO_3 := n0_; have BK197 := n1_; have HB := n2_; have BK199 := n3_; have GW199 := n4_; have GE199 := n5_; have NB197_199 := n6_; have NB199_197 := n7_; clear n0_ n1_ n2_ n3_ n4_ n5_ n6_ n7_; clear hb hbox hg; have hnb8 := NB199_197.out; have hnc8 := NB197_199.out; obtain ⟨hcz9_0, hcz9_1, hfz9_0, hfz9_1⟩ := bk2 BK199.out) | ((with_reducible refine gate_dst (N := 22) rfl ?_); refine Kd.R_lit Kd.string _ 9 ?hg (N := 22) ?hd (xs := ([(⟨#[115, 116, 114, 117, 99, 116]⟩ : ByteArray), (rd_T58 l0_0 x16_1).f0] : List ByteArray)) (inner := [.string (⟨#[115, 116, 114, 117, 99, 116]⟩ : ByteArray), .string ((rd_T58 l0_0 x16_1).f0)]) (ok := fun _ => True) (okp := fun _ => True) ?hr ?hp (fun _ hk => hk) trivial (Below.refl _ _) (Nat.le_refl _) (by simp) ?_; (case hd => rfl); (case hg => rfl); (case hr => first | (go_simp; done) | (go_simp; rfl)); (case hp => exact (Reps.one (show Kd.M Kd.string _ _ _ (⟨#[115, 116, 114, 117, 99, 116]⟩ : ByteArray) [.string (⟨#[115, 116, 114, 117, 99, 116]⟩ : ByteArray)] from rfl) (Reps.one (show Kd.M Kd.string _ _ _ ((rd_T58 l0_0 x16_1).f0) [.string ((rd_T58 l0_0 x16_1).f0)] from rfl) (Reps.none _ _)))); intro v201 w10 ho11 hb hg_ hnew_; clear hg_ hnew_; (first | rw [← Ny200.out] at ho11 | (simp only [Int.reduceToNat] at ho11; rw [← Ny200.out] at ho11)); have n0_ := Aside0.mk (Kd.R_elder' (bq1) (Kd.R_base ho11) hb); have n1_ := Aside0.mk (Kd.R_lower (Kd.R_new' ho11 (Kd.R_lt (bq1))) (below_size (bq26))); have n2_ := Aside0.mk (blk_below (g := gb197) (o := .cells #[.slice (some ad198) l0_0.length c0_0, .slice A0_1 l0_1.length c0_1, .slice A0_2 l0_2.length c0_2] 26 (0, 0)) (by (with_reducible repeat (first | refine blk_drewN ?_ _ | refine blk_drew ?_ | refine blk_alloc ?_ _)); refine blk_far ?_ NB197_199.out _; (with_reducible repeat (first | refine blk_drewN ?_ _ | refine blk_drew ?_ | refine blk_alloc ?_ _)); refine blk_far ?_ NB197_199.out _; (with_reducible repeat (first | refine blk_drewN ?_ _ | refine blk_drew ?_ | refine blk_alloc ?_ _)); exact BK197.out) hb); have n3_ := Aside0.mk (blk_below (g := gb199) (o := .cells #[.string ((rd_T58 l0_0 x16_1).f0), .slice A198_1 ((rd_T58 l0_0 x16_1).f1).length c198_1] 58 (0, 0)) (by (with_reducible repeat (first | refine blk_drewN ?_ _ | refine blk_drew ?_ | refine blk_alloc ?_ _)); refine blk_put (cs := #[.string ((rd_T58 l0_0 x16_1).f0), .slice none 0 0]) ?_ 1 _ rfl; (with_reducible repeat (first | refine blk_drewN ?_ _ | refine blk_drew ?_ | refine blk_alloc ?_ _)); refine blk_put (cs := #[.string (⟨#[]⟩ : ByteArray), .slice none 0 0]) ?_ 0 _ rfl; (with_reducible repeat (first | refine blk_drewN ?_ _ | refine blk_drew ?_ | refine blk_alloc ?_ _)); exact BK199.out) hb); have n4_ := Aside0.mk (below_step (bq26) hb); clear HO_3; clear BK197; clear BK199; clear HB; have HO_3 := n0_; have HO202 := n1_; have BK197 := n2_; have BK199 := n3_; have HB := n4_; clear n0_ n1_ n2_ n3_ n4_; clear hb ho11; obtain ⟨hcz12_0, hcz12_1, hfz12_0, hfz12_1⟩ := bk2 BK199.out))
      go_loopg [6, 26] k1 (fun kq v6 v26 w' => ∃ (x6_2 : List ByteArray) (x26_2 : Int), v26 = .int .i64 x26_2 ∧ Aside0 (ir_Lines.l1 kq x3_1 x6_2 l0_0 (l0_0.length : Int) x16_1 ((rd_T58 l0_0 x16_1).f1) (((rd_T58 l0_0 x16_1).f1).length : Int) x26_2 l0_0 l0_1 l0_2 = some r) ∧ Aside0 (kq ≤ k1) ∧ Aside0 (Kd.R Kd.string 9 w' w.heap.size (fun k_ => some k_ ≠ (v6 : Value).ownBlock) u3 x3_1) ∧ Aside0 (Kd.R Kd.string 9 w' w.heap.size (fun k_ => some k_ ≠ (u3 : Value).ownBlock) v6 x6_2) ∧ Aside0 (w'.heap[gb197]? = some (.cells #[(.slice (some ad198) l0_0.length c0_0), (.slice A0_1 l0_1.length c0_1), (.slice A0_2 l0_2.length c0_2)] 26 (0, 0))) ∧ Aside0 (w'.heap[gb199]? = some (.cells #[.string ((rd_T58 l0_0 x16_1).f0), (.slice A198_1 ((rd_T58 l0_0 x16_1).f1).length c198_1)] 58 (0, 0))) ∧ Aside0 (Below w.heap.size w w'))
      case atStart => exact ⟨(y200), (0), (bq73), H', ⟨Nat.le_refl _⟩, ⟨by (with_reducible repeat (first | apply Kd.R_alloc | apply Kd.R_drewN | apply Kd.R_drew)); exact Kd.R_mono HO_3.out (fun _ hk => hk.2)⟩, ⟨by (with_reducible repeat (first | apply Kd.R_alloc | apply Kd.R_drewN | apply Kd.R_drew)); exact Kd.R_mono HO202.out (fun _ hk => hk.2)⟩, ⟨by (with_reducible repeat (first | refine blk_drewN ?_ _ | refine blk_drew ?_ | refine blk_alloc ?_ _)); exact BK197.out⟩, ⟨by (with_reducible repeat (first | refine blk_drewN ?_ _ | refine blk_drew ?_ | refine blk_alloc ?_ _)); exact BK199.out⟩, ⟨bq26⟩⟩
      case round =>
       clear H'
       try clear c1
       try clear p1
       try clear q1
       try clear hx1
       try clear p2
       try clear c4
       try clear c4b0
       try clear c5
       try clear c5b0
       try clear c6
       try clear c6b0
       try clear c8
       try clear c11
       try clear hcz12_0
       try clear hcz12_1
       try clear hcz3_0
       try clear hcz3_1
       try clear hcz3_2
       try clear hcz9_0
       try clear hcz9_1
       try clear hfz12_0
       try clear hfz12_1
       try clear hfz3_0
       try clear hfz3_1
       try clear hfz3_2
       try clear hfz9_0
       try clear hfz9_1
       try clear hx198_0
       try clear hx198_1
       try clear p198
       try clear p2
       try clear q198
       obtain ⟨x6_2, x26_2, rfl, HA, HK2, HO_3, HO_6, BK197, BK199, HB⟩ := hrel
       cases gk with
       | zero => exact absurd HA.out (by simp [ir_Lines.l1])
       | succ k2 =>
        have H := HA.out
        clear HA
        simp only [ir_Lines.l1] at H
        by_cases c13 : x26_2 < (((rd_T58 l0_0 x16_1).f1).length : Int)
        ·rw [if_pos c13] at H
         have c13b0 := decide_eq_true c13
         clear c13
         by_cases c14 : 0 ≤ x26_2
         ·rw [if_pos c14] at H
          have c14b0 := decide_eq_true c14
          clear c14
          by_cases c15 : x26_2 < (((rd_T58 l0_0 x16_1).f1).length : Int)
          ·rw [if_pos c15] at H
           have c15b0 := decide_eq_true c15
           clear c15
           by_cases c16 : ((rd_T61 ((rd_T58 l0_0 x16_1).f1) x26_2).f0).size + 1 ≤ 9223372036854775807
           ·rw [if_pos c16] at H
            have c16b0 := eq_true c16
            have c16b1 := decide_eq_true c16
            try have c16b2 : (9223372036854775807 < ((rd_T61 ((rd_T58 l0_0 x16_1).f1) x26_2).f0).size + 1) = False := eq_false (Nat.not_lt.2 c16)
            by_cases c17 : (((rd_T61 ((rd_T58 l0_0 x16_1).f1) x26_2).f0) ++ (⟨#[58]⟩ : ByteArray)).size + ((rd_T61 ((rd_T58 l0_0 x16_1).f1) x26_2).f1).size ≤ 9223372036854775807
            ·rw [if_pos c17] at H
             have c17b0 := eq_true c17
             have c17b1 := decide_eq_true c17
             try have c17b2 : (9223372036854775807 < (((rd_T61 ((rd_T58 l0_0 x16_1).f1) x26_2).f0) ++ (⟨#[58]⟩ : ByteArray)).size + ((rd_T61 ((rd_T58 l0_0 x16_1).f1) x26_2).f1).size) = False := eq_false (Nat.not_lt.2 c17)
             by_cases c18 : x6_2.length < 8796093022208
             ·rw [if_pos c18] at H
              have LMc18 := Aside0.mk c18
              clear c18
              obtain ⟨y205, hy205⟩ : ∃ y_ : List ByteArray, y_ = (x6_2 ++ [(((rd_T61 ((rd_T58 l0_0 x16_1).f1) x26_2).f0) ++ (⟨#[58]⟩ : ByteArray)) ++ ((rd_T61 ((rd_T58 l0_0 x16_1).f1) x26_2).f1)]) := ⟨_, rfl⟩
              replace H : (ir_Lines.l1 k2 x3_1 y205 l0_0 (l0_0.length : Int) x16_1 ((rd_T58 l0_0 x16_1).f1) (((rd_T58 l0_0 x16_1).f1).length : Int) (wrap64 (x26_2 + 1)) l0_0 l0_1 l0_2) = some r := by first | (rw [hy205]; with_reducible exact H) | (have H2_ := (Option.bind_some _ _).symm.trans H; rw [hy205]; with_reducible exact H2_) | (have H2_ := (Option.bind_some _ _).symm.trans H; with_reducible exact H2_) | with_reducible exact H | (rw [hy205]; exact H) | exact H
              have Ny205 := Aside0.mk hy205
              clear hy205
              have H' := Aside0.mk H
              clear H
              have p203 : 0 ≤ (x26_2 : Int) := of_decide_eq_true (bq72)
              have q203 : x26_2 < (((rd_T58 l0_0 x16_1).f1).length : Int) := of_decide_eq_true (bq72)
              obtain ⟨ad203, e203, hx203_0, hx203_1⟩ := at_T61 HR198_1.out x26_2 p203 q203
              cases e203
              replace hx203_0 := (HB.out.cell (World.block_lt_of_cell? w _ hx203_0)).trans hx203_0
              replace hx203_1 := (HB.out.cell (World.block_lt_of_cell? w _ hx203_1)).trans hx203_1
              replace p203 := eq_true p203
              replace q203 := eq_true q203
              go_wp2_with (first | ((with_reducible refine gate_dst (N := 8) rfl ?_); refine box_event ?hg (N := 8) ?hd (cs := #[.string (⟨#[]⟩ : ByteArray), .string (⟨#[]⟩ : ByteArray)]) (t := 61) ?hr ?_; (case hd => rfl); (case hg => rfl); (case hr => first | (go_simp; done) | (go_simp; rfl)); intro gb204 hg w19 hbox hb; have n0_ := Aside0.mk (Kd.R_below (bq68) hb); have n1_ := Aside0.mk (Kd.R_below (bq67) hb); have n2_ := Aside0.mk (blkB BK197.out hb); have n3_ := Aside0.mk (blkB BK199.out hb); have n4_ := Aside0.mk (below_step (bq26) hb); have n5_ := Aside0.mk (hbox); have n6_ := Aside0.mk ((bq8 : w.heap.size ≤ gb204)); have n7_ := Aside0.mk ((bq8 : w.heap.size ≤ gb204)); have n8_ := Aside0.mk ((bq74 : gb197 ≠ gb204)); have n9_ := Aside0.mk ((bq75 : gb204 ≠ gb197)); have n10_ := Aside0.mk ((by rw [hg]; exact Nat.ne_of_lt (blkL BK199.out) : gb199 ≠ gb204)); have n11_ := Aside0.mk ((by rw [hg]; exact Nat.ne_of_gt (blkL BK199.out) : gb204 ≠ gb199)); clear HO_3; clear HO_6; clear BK197; clear BK199; clear HB; have HO_3 := n0_; have HO_6 := n1_; have BK197 := n2_; have BK199 := n3_; have HB := n4_; have BK204 := n5_; have GW204 := n6_; have GE204 := n7_; have NB197_204 := n8_; have NB204_197 := n9_; have NB199_204 := n10_; have NB204_199 := n11_; clear n0_ n1_ n2_ n3_ n4_ n5_ n6_ n7_ n8_ n9_ n10_ n11_; clear hb hbox hg; have hnb20 := NB204_197.out; have hnc20 := NB197_204.out; have hnb21 := NB204_199.out; have hnc21 := NB199_204.out; obtain ⟨hcz22_0, hcz22_1, hfz22_0, hfz22_1⟩ := bk2 BK204.out) | ((with_reducible refine gate_builtin (b := .append) (xs := #[.tmp 30, .tmp 37]) rfl ?_); at_builtin; refine Kd.R_append Kd.string (w0 := w) w.heap.size rfl (.tmp 30) (.tmp 37) 31 9 (.string ⟨#[]⟩) 16 rfl Tryd.underlying31 info9 rfl (by decide) (by omega) u6 x6_2 ((((rd_T61 ((rd_T58 l0_0 x16_1).f1) x26_2).f0) ++ (⟨#[58]⟩ : ByteArray)) ++ ((rd_T61 ((rd_T58 l0_0 x16_1).f1) x26_2).f1)) [.string ((((rd_T61 ((rd_T58 l0_0 x16_1).f1) x26_2).f0) ++ (⟨#[58]⟩ : ByteArray)) ++ ((rd_T61 ((rd_T58 l0_0 x16_1).f1) x26_2).f1))] (fun k_ => some k_ ≠ (u3 : Value).ownBlock) (fun _ => False) rfl (by first | (go_simp; done) | (go_simp; rfl)) ?aP (fun _ hk => hk.elim) ?aF ?aO ?aB ?aS ?aL ?_; (case aP => exact rfl); (case aB => exact (bq11)); (case aF => exact (fun k_ hk => Kd.fresh' (Kd.R_lt (by (with_reducible repeat (first | apply Kd.R_alloc | apply Kd.R_drewN | apply Kd.R_drew)); exact (Kd.R_mono (Kd.R_far (p := ⟨gb204, 1, none⟩) (Kd.R_far (p := ⟨gb204, 0, none⟩) (Kd.R_types HO_3.out BK204.out (by decide)) (fun _ hk => hk.2) (.string ((rd_T61 ((rd_T58 l0_0 x16_1).f1) x26_2).f0))) (fun _ hk => hk.2) (.string ((rd_T61 ((rd_T58 l0_0 x16_1).f1) x26_2).f1))) (fun _ h_ => h_.1)))) k_ hk)); (case aO => exact (by (with_reducible repeat (first | apply Kd.R_alloc | apply Kd.R_drewN | apply Kd.R_drew)); exact Kd.R_mono (Kd.R_far (p := ⟨gb204, 1, none⟩) (Kd.R_far (p := ⟨gb204, 0, none⟩) (Kd.R_types HO_6.out BK204.out (by decide)) (fun _ hk => hk.2) (.string ((rd_T61 ((rd_T58 l0_0 x16_1).f1) x26_2).f0))) (fun _ hk => hk.2) (.string ((rd_T61 ((rd_T58 l0_0 x16_1).f1) x26_2).f1))) (fun _ hk => hk.1))); (case aS => exact (below_size (bq11))); (case aL => have := LMc18.out; omega); intro v206 w23 ho hb hg hat; rw [← Ny205.out] at ho; have n0_ := Aside0.mk (Kd.R_after (ok := (fun _ => True)) (by (with_reducible repeat (first | apply Kd.R_alloc | apply Kd.R_drewN | apply Kd.R_drew)); exact Kd.R_mono (Kd.R_far (p := ⟨gb204, 1, none⟩) (Kd.R_far (p := ⟨gb204, 0, none⟩) (Kd.R_types HO_3.out BK204.out (by decide)) (fun _ hk => hk.2) (.string ((rd_T61 ((rd_T58 l0_0 x16_1).f1) x26_2).f0))) (fun _ hk => hk.2) (.string ((rd_T61 ((rd_T58 l0_0 x16_1).f1) x26_2).f1))) (fun _ hk => ⟨trivial, hk.1⟩)) hg hat); have n1_ := Aside0.mk (blk_grown (g := gb197) (o := .cells #[.slice (some ad198) l0_0.length c0_0, .slice A0_1 l0_1.length c0_1, .slice A0_2 l0_2.length c0_2] 26 (0, 0)) (by (with_reducible repeat (first | refine blk_drewN ?_ _ | refine blk_drew ?_ | refine blk_alloc ?_ _)); refine blk_far ?_ NB197_204.out _; (with_reducible repeat (first | refine blk_drewN ?_ _ | refine blk_drew ?_ | refine blk_alloc ?_ _)); refine blk_far ?_ NB197_204.out _; (with_reducible repeat (first | refine blk_drewN ?_ _ | refine blk_drew ?_ | refine blk_alloc ?_ _)); exact BK197.out) hg (Kd.R_ne HO_6.out BK197.out (by decide))); have n2_ := Aside0.mk (blk_grown (g := gb199) (o := .cells #[.string ((rd_T58 l0_0 x16_1).f0), .slice (some ad203) ((rd_T58 l0_0 x16_1).f1).length c198_1] 58 (0, 0)) (by (with_reducible repeat (first | refine blk_drewN ?_ _ | refine blk_drew ?_ | refine blk_alloc ?_ _)); refine blk_far ?_ NB199_204.out _; (with_reducible repeat (first | refine blk_drewN ?_ _ | refine blk_drew ?_ | refine blk_alloc ?_ _)); refine blk_far ?_ NB199_204.out _; (with_reducible repeat (first | refine blk_drewN ?_ _ | refine blk_drew ?_ | refine blk_alloc ?_ _)); exact BK199.out) hg (Kd.R_ne HO_6.out BK199.out (by decide))); have n3_ := Aside0.mk (blk_grown (g := gb204) (o := .cells #[.string ((rd_T61 ((rd_T58 l0_0 x16_1).f1) x26_2).f0), .string ((rd_T61 ((rd_T58 l0_0 x16_1).f1) x26_2).f1)] 61 (0, 0)) (by (with_reducible repeat (first | refine blk_drewN ?_ _ | refine blk_drew ?_ | refine blk_alloc ?_ _)); refine blk_put (cs := #[.string ((rd_T61 ((rd_T58 l0_0 x16_1).f1) x26_2).f0), .string (⟨#[]⟩ : ByteArray)]) ?_ 1 _ rfl; (with_reducible repeat (first | refine blk_drewN ?_ _ | refine blk_drew ?_ | refine blk_alloc ?_ _)); refine blk_put (cs := #[.string (⟨#[]⟩ : ByteArray), .string (⟨#[]⟩ : ByteArray)]) ?_ 0 _ rfl; (with_reducible repeat (first | refine blk_drewN ?_ _ | refine blk_drew ?_ | refine blk_alloc ?_ _)); exact BK204.out) hg (Kd.R_ne HO_6.out BK204.out (by decide))); have n4_ := Aside0.mk (hb); have n5_ := Aside0.mk (ho); clear HO_3; clear BK197; clear BK199; clear BK204; clear HB; clear HO_6; have HO_3 := n0_; have BK197 := n1_; have BK199 := n2_; have BK204 := n3_; have HB := n4_; have HO207 := n5_; clear n0_ n1_ n2_ n3_ n4_ n5_; clear ho hb hg hat))
              go_roundg k2
              case measure => have := HK1.out; have := HK2.out; omega
              case rel => exact ⟨(y205), (wrap64 (x26_2 + 1)), (bq73), H', ⟨by have := HK1.out; have := HK2.out; omega⟩, ⟨by (with_reducible repeat (first | apply Kd.R_alloc | apply Kd.R_drewN | apply Kd.R_drew)); exact Kd.R_mono HO_3.out (fun _ hk => hk.2)⟩, ⟨by (with_reducible repeat (first | apply Kd.R_alloc | apply Kd.R_drewN | apply Kd.R_drew)); exact HO207.out⟩, ⟨by (with_reducible repeat (first | refine blk_drewN ?_ _ | refine blk_drew ?_ | refine blk_alloc ?_ _)); exact BK197.out⟩, ⟨by (with_reducible repeat (first | refine blk_drewN ?_ _ | refine blk_drew ?_ | refine blk_alloc ?_ _)); exact BK199.out⟩, ⟨bq11⟩⟩
             ·rw [if_neg c18] at H
              exact absurd H (by simp)
            ·rw [if_neg c17] at H
             exact absurd H (by simp)
           ·rw [if_neg c16] at H
            exact absurd H (by simp)
          ·rw [if_neg c15] at H
           exact absurd H (by simp)
         ·rw [if_neg c14] at H
          exact absurd H (by simp)
        ·rw [if_neg c13] at H
         have c13b0 := decide_eq_false c13
         clear c13
         replace H := Option.bind_eq_some_iff.mp H
         obtain ⟨t208, A240, H⟩ := H
         (try dsimp only at H)
         have A24 := Aside0.mk A240
         clear A240
         by_cases c25 : x3_1.length < 8796093022208
         ·rw [if_pos c25] at H
          have LMc25 := Aside0.mk c25
          clear c25
          obtain ⟨y209, hy209⟩ : ∃ y_ : List ByteArray, y_ = (x3_1 ++ [t208]) := ⟨_, rfl⟩
          replace H : (ir_Lines.l0 k2 y209 l0_0 (l0_0.length : Int) (wrap64 (x16_1 + 1)) l0_0 l0_1 l0_2) = some r := by first | (rw [hy209]; with_reducible exact H) | (have H2_ := (Option.bind_some _ _).symm.trans H; rw [hy209]; with_reducible exact H2_) | (have H2_ := (Option.bind_some _ _).symm.trans H; with_reducible exact H2_) | with_reducible exact H | (rw [hy209]; exact H) | exact H
          have Ny209 := Aside0.mk hy209
          clear hy209
          have H' := Aside0.mk H
          clear H
          obtain ⟨Ao26, co26, eo26⟩ := Kd.R_slice HO_6.out
          subst eo26
          go_wp2_with (first | ((with_reducible refine gate_callee (f := 29) rfl ?_); refine goesL_ (some 42) rfl rfl Tryd.func29 (by kernel_rfl) rfl #[.slice Ao26 x6_2.length co26, .string (⟨#[32]⟩ : ByteArray)] rfl (bq44) ?_; (with_reducible refine (strings_Join.calls _ _ x6_2 (⟨#[32]⟩ : ByteArray) t208 _ ?side1 ?side2 A24.out).mono ?_); (case side1 => repeat (first | exact (Kd.R_reads' HO_6.out).2.2 | (with_reducible refine Kd.C_alloc ?_ _) | (with_reducible refine Kd.C_drewN ?_ _) | (with_reducible refine Kd.C_drew ?_))); (case side2 => exact (Kd.R_reads' HO_6.out).2.1); rintro e w27 ⟨rfl, hb⟩; refine ⟨_, rfl, ?_⟩; have n0_ := Aside0.mk (Kd.R_below (bq68) hb); have n1_ := Aside0.mk (Kd.R_below (bq67) hb); have n2_ := Aside0.mk (blkB BK197.out hb); have n3_ := Aside0.mk (blkB BK199.out hb); have n4_ := Aside0.mk (below_step (bq26) hb); clear HO_3; clear HO_6; clear BK197; clear BK199; clear HB; have HO_3 := n0_; have HO_6 := n1_; have BK197 := n2_; have BK199 := n3_; have HB := n4_; clear n0_ n1_ n2_ n3_ n4_; (try clear hb); (try clear hb2); (try clear hk); (try clear hi)) | ((with_reducible refine gate_builtin (b := .append) (xs := #[.tmp 40, .tmp 43]) rfl ?_); at_builtin; refine Kd.R_append Kd.string (w0 := w) w.heap.size rfl (.tmp 40) (.tmp 43) 31 9 (.string ⟨#[]⟩) 16 rfl Tryd.underlying31 info9 rfl (by decide) (by omega) u3 x3_1 t208 [.string t208] (fun k_ => some k_ ≠ (.slice Ao26 x6_2.length co26 : Value).ownBlock) (fun _ => False) rfl rfl ?aP (fun _ hk => hk.elim) ?aF ?aO ?aB ?aS ?aL ?_; (case aP => exact rfl); (case aB => exact (bq26)); (case aF => exact (fun k_ hk => Kd.fresh' (Kd.R_lt (bq67)) k_ hk)); (case aO => exact (bq68)); (case aS => exact (below_size (bq26))); (case aL => have := LMc25.out; omega); intro v210 w28 ho hb hg hat; rw [← Ny209.out] at ho; have n0_ := Aside0.mk (Kd.R_after (ok := (fun _ => True)) (by (with_reducible repeat (first | apply Kd.R_alloc | apply Kd.R_drewN | apply Kd.R_drew)); exact Kd.R_mono HO_6.out (fun _ hk => ⟨trivial, hk⟩)) hg hat); have n1_ := Aside0.mk (blkG BK197.out hg (Kd.R_ne HO_3.out BK197.out (by decide))); have n2_ := Aside0.mk (blkG BK199.out hg (Kd.R_ne HO_3.out BK199.out (by decide))); have n3_ := Aside0.mk (hb); have n4_ := Aside0.mk (ho); clear HO_6; clear BK197; clear BK199; clear HB; clear HO_3; have HO_6 := n0_; have BK197 := n1_; have BK199 := n2_; have HB := n3_; have HO211 := n4_; clear n0_ n1_ n2_ n3_ n4_; clear ho hb hg hat))
          go_roundg k2
          case measure => have := HK1.out; have := HK2.out; omega
          case rel => exact ⟨(y209), (wrap64 (x16_1 + 1)), (bq73), H', ⟨by have := HK1.out; have := HK2.out; omega⟩, ⟨by (with_reducible repeat (first | apply Kd.R_alloc | apply Kd.R_drewN | apply Kd.R_drew)); exact Kd.R_mono HO211.out (fun _ hk => trivial)⟩, ⟨by (with_reducible repeat (first | refine blk_drewN ?_ _ | refine blk_drew ?_ | refine blk_alloc ?_ _)); exact BK197.out⟩, ⟨bq26⟩⟩
         ·rw [if_neg c25] at H
          exact absurd H (by simp)
     ·rw [if_neg c6] at H
      exact absurd H (by simp)
    ·rw [if_neg c5] at H
     exact absurd H (by simp)
   ·rw [if_neg c4] at H
    have c4b0 := decide_eq_false c4
    clear c4
    have H' := Aside0.mk H
    clear H
    obtain ⟨hcz29_0, hcz29_1, hcz29_2, hfz29_0, hfz29_1, hfz29_2⟩ := bk3 BK197.out
    go_wp2
    go_loopg [3, 49] k1 (fun kq v3 v49 w' => ∃ (x3_2 : List ByteArray) (x49_2 : Int), v49 = .int .i64 x49_2 ∧ Aside0 (ir_Lines.l2 kq x3_2 l0_1 (l0_1.length : Int) x49_2 l0_0 l0_1 l0_2 = some r) ∧ Aside0 (kq ≤ k1) ∧ Aside0 (Kd.R Kd.string 9 w' w.heap.size (fun _ => True) v3 x3_2) ∧ Aside0 (w'.heap[gb197]? = some (.cells #[(.slice A0_0 l0_0.length c0_0), (.slice A0_1 l0_1.length c0_1), (.slice A0_2 l0_2.length c0_2)] 26 (0, 0))) ∧ Aside0 (Below w.heap.size w w'))
    case atStart => exact ⟨(x3_1), (0), (bq73), H', ⟨Nat.le_refl _⟩, ⟨bq68⟩, ⟨by (with_reducible repeat (first | refine blk_drewN ?_ _ | refine blk_drew ?_ | refine blk_alloc ?_ _)); exact BK197.out⟩, ⟨bq36⟩⟩
    case round =>
     clear H'
     try clear c1
     try clear p1
     try clear q1
     try clear hx1
     try clear c2
     try clear p2
     try clear q2
     try clear hx2
     try clear c4
     try clear c4b0
     try clear c5
     try clear c5b0
     try clear c6
     try clear c6b0
     try clear p6
     try clear c8
     try clear c11
     try clear c13
     try clear c13b0
     try clear c14
     try clear c14b0
     try clear c15
     try clear c15b0
     try clear c16
     try clear c16b0
     try clear c16b1
     try clear c16b2
     try clear c16b3
     try clear c17
     try clear c17b0
     try clear c17b1
     try clear c17b2
     try clear c17b3
     try clear c18
     try clear c19
     try clear p19
     try clear q19
     try clear hx19
     try clear c20
     try clear p20
     try clear q20
     try clear hx20
     try clear c21
     try clear c25
     try clear c29
     try clear hcz12_0
     try clear hcz12_1
     try clear hcz22_0
     try clear hcz22_1
     try clear hcz29_0
     try clear hcz29_1
     try clear hcz29_2
     try clear hcz3_0
     try clear hcz3_1
     try clear hcz3_2
     try clear hcz9_0
     try clear hcz9_1
     try clear hfz12_0
     try clear hfz12_1
     try clear hfz22_0
     try clear hfz22_1
     try clear hfz29_0
     try clear hfz29_1
     try clear hfz29_2
     try clear hfz3_0
     try clear hfz3_1
     try clear hfz3_2
     try clear hfz9_0
     try clear hfz9_1
     try clear hx198_0
     try clear hx198_1
     try clear hx203_0
     try clear hx203_1
     try clear p1
     try clear p198
     try clear p2
     try clear p203
     try clear q1
     try clear q198
     try clear q203
     obtain ⟨x3_2, x49_2, rfl, HA, HK2, HO_3, BK197, HB⟩ := hrel
     cases gk with
     | zero => exact absurd HA.out (by simp [ir_Lines.l2])
     | succ k2 =>
      have H := HA.out
      clear HA
      simp only [ir_Lines.l2] at H
      by_cases c30 : x49_2 < (l0_1.length : Int)
      ·rw [if_pos c30] at H
       have c30b0 := decide_eq_true c30
       clear c30
       by_cases c31 : 0 ≤ x49_2
       ·rw [if_pos c31] at H
        have c31b0 := decide_eq_true c31
        clear c31
        by_cases c32 : x49_2 < (l0_1.length : Int)
        ·rw [if_pos c32] at H
         have c32b0 := decide_eq_true c32
         clear c32
         by_cases c33 : 7 + ((rd_T61 l0_1 x49_2).f0).size ≤ 9223372036854775807
         ·rw [if_pos c33] at H
          have c33b0 := eq_true c33
          have c33b1 := decide_eq_true c33
          try have c33b2 : (9223372036854775807 < 7 + ((rd_T61 l0_1 x49_2).f0).size) = False := eq_false (Nat.not_lt.2 c33)
          by_cases c34 : ((⟨#[103, 108, 111, 98, 97, 108, 32]⟩ : ByteArray) ++ ((rd_T61 l0_1 x49_2).f0)).size + 1 ≤ 9223372036854775807
          ·rw [if_pos c34] at H
           have c34b0 := eq_true c34
           have c34b1 := decide_eq_true c34
           try have c34b2 : (9223372036854775807 < ((⟨#[103, 108, 111, 98, 97, 108, 32]⟩ : ByteArray) ++ ((rd_T61 l0_1 x49_2).f0)).size + 1) = False := eq_false (Nat.not_lt.2 c34)
           try have c34b3 : (9223372036854775807 < 7 + ((rd_T61 l0_1 x49_2).f0).size + 1) = False := eq_false (Nat.not_lt.2 (by have h_ := c34; simp only [ByteArray.size_append] at h_; exact h_))
           by_cases c35 : (((⟨#[103, 108, 111, 98, 97, 108, 32]⟩ : ByteArray) ++ ((rd_T61 l0_1 x49_2).f0)) ++ (⟨#[32]⟩ : ByteArray)).size + ((rd_T61 l0_1 x49_2).f1).size ≤ 9223372036854775807
           ·rw [if_pos c35] at H
            have c35b0 := eq_true c35
            have c35b1 := decide_eq_true c35
            try have c35b2 : (9223372036854775807 < (((⟨#[103, 108, 111, 98, 97, 108, 32]⟩ : ByteArray) ++ ((rd_T61 l0_1 x49_2).f0)) ++ (⟨#[32]⟩ : ByteArray)).size + ((rd_T61 l0_1 x49_2).f1).size) = False := eq_false (Nat.not_lt.2 c35)
            by_cases c36 : x3_2.length < 8796093022208
            ·rw [if_pos c36] at H
             have LMc36 := Aside0.mk c36
             clear c36
             obtain ⟨y214, hy214⟩ : ∃ y_ : List ByteArray, y_ = (x3_2 ++ [(((⟨#[103, 108, 111, 98, 97, 108, 32]⟩ : ByteArray) ++ ((rd_T61 l0_1 x49_2).f0)) ++ (⟨#[32]⟩ : ByteArray)) ++ ((rd_T61 l0_1 x49_2).f1)]) := ⟨_, rfl⟩
             replace H : (ir_Lines.l2 k2 y214 l0_1 (l0_1.length : Int) (wrap64 (x49_2 + 1)) l0_0 l0_1 l0_2) = some r := by first | (rw [hy214]; with_reducible exact H) | (have H2_ := (Option.bind_some _ _).symm.trans H; rw [hy214]; with_reducible exact H2_) | (have H2_ := (Option.bind_some _ _).symm.trans H; with_reducible exact H2_) | with_reducible exact H | (rw [hy214]; exact H) | exact H
             have Ny214 := Aside0.mk hy214
             clear hy214
             have H' := Aside0.mk H
             clear H
             have p212 : 0 ≤ (x49_2 : Int) := of_decide_eq_true (bq72)
             have q212 : x49_2 < (l0_1.length : Int) := of_decide_eq_true (bq72)
             obtain ⟨ad212, e212, hx212_0, hx212_1⟩ := at_T61 HR0_1.out x49_2 p212 q212
             cases e212
             replace hx212_0 := (HB.out.cell (World.block_lt_of_cell? w _ hx212_0)).trans hx212_0
             replace hx212_1 := (HB.out.cell (World.block_lt_of_cell? w _ hx212_1)).trans hx212_1
             replace p212 := eq_true p212
             replace q212 := eq_true q212
             go_wp2_with (first | ((with_reducible refine gate_dst (N := 10) rfl ?_); refine box_event ?hg (N := 10) ?hd (cs := #[.string (⟨#[]⟩ : ByteArray), .string (⟨#[]⟩ : ByteArray)]) (t := 61) ?hr ?_; (case hd => rfl); (case hg => rfl); (case hr => first | (go_simp; done) | (go_simp; rfl)); intro gb213 hg w37 hbox hb; have n0_ := Aside0.mk (Kd.R_below (bq68) hb); have n1_ := Aside0.mk (blkB BK197.out hb); have n2_ := Aside0.mk (below_step (bq36) hb); have n3_ := Aside0.mk (hbox); have n4_ := Aside0.mk ((bq16 : w.heap.size ≤ gb213)); have n5_ := Aside0.mk ((bq16 : w.heap.size ≤ gb213)); have n6_ := Aside0.mk ((bq74 : gb197 ≠ gb213)); have n7_ := Aside0.mk ((bq75 : gb213 ≠ gb197)); clear HO_3; clear BK197; clear HB; have HO_3 := n0_; have BK197 := n1_; have HB := n2_; have BK213 := n3_; have GW213 := n4_; have GE213 := n5_; have NB197_213 := n6_; have NB213_197 := n7_; clear n0_ n1_ n2_ n3_ n4_ n5_ n6_ n7_; clear hb hbox hg; have hnb38 := NB213_197.out; have hnc38 := NB197_213.out; obtain ⟨hcz39_0, hcz39_1, hfz39_0, hfz39_1⟩ := bk2 BK213.out) | ((with_reducible refine gate_builtin (b := .append) (xs := #[.tmp 53, .tmp 61]) rfl ?_); at_builtin; refine Kd.R_append Kd.string (w0 := w) w.heap.size rfl (.tmp 53) (.tmp 61) 31 9 (.string ⟨#[]⟩) 16 rfl Tryd.underlying31 info9 rfl (by decide) (by omega) u3 x3_2 ((((⟨#[103, 108, 111, 98, 97, 108, 32]⟩ : ByteArray) ++ ((rd_T61 l0_1 x49_2).f0)) ++ (⟨#[32]⟩ : ByteArray)) ++ ((rd_T61 l0_1 x49_2).f1)) [.string ((((⟨#[103, 108, 111, 98, 97, 108, 32]⟩ : ByteArray) ++ ((rd_T61 l0_1 x49_2).f0)) ++ (⟨#[32]⟩ : ByteArray)) ++ ((rd_T61 l0_1 x49_2).f1))] (fun _ => True) (fun _ => False) rfl (by first | (go_simp; done) | (go_simp; rfl)) ?aP (fun _ hk => hk.elim) ?aF ?aO ?aB ?aS ?aL ?_; (case aP => exact rfl); (case aB => exact (bq27)); (case aF => exact (fun _ _ => trivial)); (case aO => exact (by (with_reducible repeat (first | apply Kd.R_alloc | apply Kd.R_drewN | apply Kd.R_drew)); exact Kd.R_mono (Kd.R_far (p := ⟨gb213, 1, none⟩) (Kd.R_far (p := ⟨gb213, 0, none⟩) (Kd.R_types HO_3.out BK213.out (by decide)) (fun _ hk => hk.2) (.string ((rd_T61 l0_1 x49_2).f0))) (fun _ hk => hk.2) (.string ((rd_T61 l0_1 x49_2).f1))) (fun _ hk => trivial))); (case aS => exact (below_size (bq27))); (case aL => have := LMc36.out; omega); intro v215 w40 ho hb hg hat; rw [← Ny214.out] at ho; have n0_ := Aside0.mk (blk_grown (g := gb197) (o := .cells #[.slice A0_0 l0_0.length c0_0, .slice (some ad212) l0_1.length c0_1, .slice A0_2 l0_2.length c0_2] 26 (0, 0)) (by (with_reducible repeat (first | refine blk_drewN ?_ _ | refine blk_drew ?_ | refine blk_alloc ?_ _)); refine blk_far ?_ NB197_213.out _; (with_reducible repeat (first | refine blk_drewN ?_ _ | refine blk_drew ?_ | refine blk_alloc ?_ _)); refine blk_far ?_ NB197_213.out _; (with_reducible repeat (first | refine blk_drewN ?_ _ | refine blk_drew ?_ | refine blk_alloc ?_ _)); exact BK197.out) hg (Kd.R_ne HO_3.out BK197.out (by decide))); have n1_ := Aside0.mk (blk_grown (g := gb213) (o := .cells #[.string ((rd_T61 l0_1 x49_2).f0), .string ((rd_T61 l0_1 x49_2).f1)] 61 (0, 0)) (by (with_reducible repeat (first | refine blk_drewN ?_ _ | refine blk_drew ?_ | refine blk_alloc ?_ _)); refine blk_put (cs := #[.string ((rd_T61 l0_1 x49_2).f0), .string (⟨#[]⟩ : ByteArray)]) ?_ 1 _ rfl; (with_reducible repeat (first | refine blk_drewN ?_ _ | refine blk_drew ?_ | refine blk_alloc ?_ _)); refine blk_put (cs := #[.string (⟨#[]⟩ : ByteArray), .string (⟨#[]⟩ : ByteArray)]) ?_ 0 _ rfl; (with_reducible repeat (first | refine blk_drewN ?_ _ | refine blk_drew ?_ | refine blk_alloc ?_ _)); exact BK213.out) hg (Kd.R_ne HO_3.out BK213.out (by decide))); have n2_ := Aside0.mk (hb); have n3_ := Aside0.mk (ho); clear BK197; clear BK213; clear HB; clear HO_3; have BK197 := n0_; have BK213 := n1_; have HB := n2_; have HO216 := n3_; clear n0_ n1_ n2_ n3_; clear ho hb hg hat))
             go_roundg k2
             case measure => have := HK1.out; have := HK2.out; omega
             case rel => exact ⟨(y214), (wrap64 (x49_2 + 1)), (bq73), H', ⟨by have := HK1.out; have := HK2.out; omega⟩, ⟨by (with_reducible repeat (first | apply Kd.R_alloc | apply Kd.R_drewN | apply Kd.R_drew)); exact HO216.out⟩, ⟨by (with_reducible repeat (first | refine blk_drewN ?_ _ | refine blk_drew ?_ | refine blk_alloc ?_ _)); exact BK197.out⟩, ⟨bq27⟩⟩
            ·rw [if_neg c36] at H
             exact absurd H (by simp)
           ·rw [if_neg c35] at H
            exact absurd H (by simp)
          ·rw [if_neg c34] at H
           exact absurd H (by simp)
         ·rw [if_neg c33] at H
          exact absurd H (by simp)
        ·rw [if_neg c32] at H
         exact absurd H (by simp)
       ·rw [if_neg c31] at H
        exact absurd H (by simp)
      ·rw [if_neg c30] at H
       have c30b0 := decide_eq_false c30
       clear c30
       have H' := Aside0.mk H
       clear H
       obtain ⟨hcz41_0, hcz41_1, hcz41_2, hfz41_0, hfz41_1, hfz41_2⟩ := bk3 BK197.out
       go_wp2
       go_loopg [3, 67] k2 (fun kq v3 v67 w' => ∃ (x3_3 : List ByteArray) (x67_3 : Int), v67 = .int .i64 x67_3 ∧ Aside0 (ir_Lines.l3 kq x3_3 l0_2 (l0_2.length : Int) x67_3 = some r) ∧ Aside0 (kq ≤ k2) ∧ Aside0 (Kd.R Kd.string 9 w' w.heap.size (fun _ => True) v3 x3_3) ∧ Aside0 (w'.heap[gb197]? = some (.cells #[(.slice A0_0 l0_0.length c0_0), (.slice A0_1 l0_1.length c0_1), (.slice A0_2 l0_2.length c0_2)] 26 (0, 0))) ∧ Aside0 (Below w.heap.size w w'))
       case atStart => exact ⟨(x3_2), (0), (bq73), H', ⟨Nat.le_refl _⟩, ⟨bq68⟩, ⟨by (with_reducible repeat (first | refine blk_drewN ?_ _ | refine blk_drew ?_ | refine blk_alloc ?_ _)); exact BK197.out⟩, ⟨bq36⟩⟩
       case round =>
        clear H'
        try clear c1
        try clear p1
        try clear q1
        try clear hx1
        try clear c2
        try clear p2
        try clear q2
        try clear hx2
        try clear c3
        try clear c4
        try clear c4b0
        try clear c5
        try clear c5b0
        try clear c6
        try clear c6b0
        try clear p6
        try clear c8
        try clear c11
        try clear c13
        try clear c13b0
        try clear c14
        try clear c14b0
        try clear c15
        try clear c15b0
        try clear c16
        try clear c16b0
        try clear c16b1
        try clear c16b2
        try clear c16b3
        try clear c17
        try clear c17b0
        try clear c17b1
        try clear c17b2
        try clear c17b3
        try clear c18
        try clear c19
        try clear p19
        try clear q19
        try clear hx19
        try clear c20
        try clear p20
        try clear q20
        try clear hx20
        try clear c21
        try clear p21
        try clear q21
        try clear hx21
        try clear c25
        try clear c29
        try clear c30
        try clear c30b0
        try clear c31
        try clear c31b0
        try clear c32
        try clear c32b0
        try clear c33
        try clear c33b0
        try clear c33b1
        try clear c33b2
        try clear c33b3
        try clear c34
        try clear c34b0
        try clear c34b1
        try clear c34b2
        try clear c34b3
        try clear c35
        try clear c35b0
        try clear c35b1
        try clear c35b2
        try clear c35b3
        try clear c36
        try clear c38
        try clear hcz12_0
        try clear hcz12_1
        try clear hcz22_0
        try clear hcz22_1
        try clear hcz29_0
        try clear hcz29_1
        try clear hcz29_2
        try clear hcz39_0
        try clear hcz39_1
        try clear hcz3_0
        try clear hcz3_1
        try clear hcz3_2
        try clear hcz41_0
        try clear hcz41_1
        try clear hcz41_2
        try clear hcz9_0
        try clear hcz9_1
        try clear hfz12_0
        try clear hfz12_1
        try clear hfz22_0
        try clear hfz22_1
        try clear hfz29_0
        try clear hfz29_1
        try clear hfz29_2
        try clear hfz39_0
        try clear hfz39_1
        try clear hfz3_0
        try clear hfz3_1
        try clear hfz3_2
        try clear hfz41_0
        try clear hfz41_1
        try clear hfz41_2
        try clear hfz9_0
        try clear hfz9_1
        try clear hx198_0
        try clear hx198_1
        try clear hx203_0
        try clear hx203_1
        try clear hx212_0
        try clear hx212_1
        try clear p1
        try clear p19
        try clear p198
        try clear p2
        try clear p20
        try clear p203
        try clear p212
        try clear p6
        try clear q1
        try clear q19
        try clear q198
        try clear q2
        try clear q20
        try clear q203
        try clear q212
        obtain ⟨x3_3, x67_3, rfl, HA, HK3, HO_3, BK197, HB⟩ := hrel
        cases gk with
        | zero => exact absurd HA.out (by simp [ir_Lines.l3])
        | succ k3 =>
         have H := HA.out
         clear HA
         simp only [ir_Lines.l3] at H
         by_cases c42 : x67_3 < (l0_2.length : Int)
         ·rw [if_pos c42] at H
          have c42b0 := decide_eq_true c42
          clear c42
          by_cases c43 : 0 ≤ x67_3
          ·rw [if_pos c43] at H
           have c43b0 := decide_eq_true c43
           clear c43
           by_cases c44 : x67_3 < (l0_2.length : Int)
           ·rw [if_pos c44] at H
            have c44b0 := decide_eq_true c44
            clear c44
            replace H := Option.bind_eq_some_iff.mp H
            obtain ⟨t219, A450, H⟩ := H
            (try dsimp only at H)
            have A45 := Aside0.mk A450
            clear A450
            by_cases c46 : x3_3.length + t219.length < 8796093022208
            ·rw [if_pos c46] at H
             have LMc46 := Aside0.mk c46
             clear c46
             obtain ⟨y222, hy222⟩ : ∃ y_ : List ByteArray, y_ = (x3_3 ++ t219) := ⟨_, rfl⟩
             replace H : (ir_Lines.l3 k3 y222 l0_2 (l0_2.length : Int) (wrap64 (x67_3 + 1))) = some r := by first | (rw [hy222]; with_reducible exact H) | (have H2_ := (Option.bind_some _ _).symm.trans H; rw [hy222]; with_reducible exact H2_) | (have H2_ := (Option.bind_some _ _).symm.trans H; with_reducible exact H2_) | with_reducible exact H | (rw [hy222]; exact H) | exact H
             have Ny222 := Aside0.mk hy222
             clear hy222
             have H' := Aside0.mk H
             clear H
             have p217 : 0 ≤ (x67_3 : Int) := of_decide_eq_true (bq72)
             have q217 : x67_3 < (l0_2.length : Int) := of_decide_eq_true (bq72)
             obtain ⟨ad217, A217_1, c217_1, A217_3, c217_3, A217_4, c217_4, A217_5, c217_5, e217, hx217_0, hx217_1, hx217_2, hx217_3, hx217_4, hx217_5, hl217_1, hi217_1, hl217_3, hi217_3, hl217_4, hi217_4, hl217_5, hi217_5⟩ := at_T40 HR0_2.out x67_3 p217 q217
             cases e217
             replace hx217_0 := (HB.out.cell (World.block_lt_of_cell? w _ hx217_0)).trans hx217_0
             replace hx217_1 := (HB.out.cell (World.block_lt_of_cell? w _ hx217_1)).trans hx217_1
             replace hx217_2 := (HB.out.cell (World.block_lt_of_cell? w _ hx217_2)).trans hx217_2
             replace hx217_3 := (HB.out.cell (World.block_lt_of_cell? w _ hx217_3)).trans hx217_3
             replace hx217_4 := (HB.out.cell (World.block_lt_of_cell? w _ hx217_4)).trans hx217_4
             replace hx217_5 := (HB.out.cell (World.block_lt_of_cell? w _ hx217_5)).trans hx217_5
             have HR217_1 := Aside0.mk hi217_1
             have HC217_1 := Aside0.mk hl217_1
             clear hi217_1 hl217_1
             have HR217_3 := Aside0.mk hi217_3
             have HC217_3 := Aside0.mk hl217_3
             clear hi217_3 hl217_3
             have HR217_4 := Aside0.mk hi217_4
             have HC217_4 := Aside0.mk hl217_4
             clear hi217_4 hl217_4
             have HR217_5 := Aside0.mk hi217_5
             have HC217_5 := Aside0.mk hl217_5
             clear hi217_5 hl217_5
             replace p217 := eq_true p217
             replace q217 := eq_true q217
             go_wp2_with (first | ((with_reducible refine gate_dst (N := 12) rfl ?_); refine box_event ?hg (N := 12) ?hd (cs := #[.string (⟨#[]⟩ : ByteArray), .slice none 0 0, .string (⟨#[]⟩ : ByteArray), .slice none 0 0, .slice none 0 0, .slice none 0 0]) (t := 40) ?hr ?_; (case hd => rfl); (case hg => rfl); (case hr => first | (go_simp; done) | (go_simp; rfl)); intro gb218 hg w47 hbox hb; have n0_ := Aside0.mk (Kd.R_below (bq68) hb); have n1_ := Aside0.mk (blkB BK197.out hb); have n2_ := Aside0.mk (below_step (bq36) hb); have n3_ := Aside0.mk (hbox); have n4_ := Aside0.mk ((bq16 : w.heap.size ≤ gb218)); have n5_ := Aside0.mk ((bq16 : w.heap.size ≤ gb218)); have n6_ := Aside0.mk ((bq74 : gb197 ≠ gb218)); have n7_ := Aside0.mk ((bq75 : gb218 ≠ gb197)); clear HO_3; clear BK197; clear HB; have HO_3 := n0_; have BK197 := n1_; have HB := n2_; have BK218 := n3_; have GW218 := n4_; have GE218 := n5_; have NB197_218 := n6_; have NB218_197 := n7_; clear n0_ n1_ n2_ n3_ n4_ n5_ n6_ n7_; clear hb hbox hg; have hnb48 := NB218_197.out; have hnc48 := NB197_218.out; obtain ⟨hcz49_0, hcz49_1, hcz49_2, hcz49_3, hcz49_4, hcz49_5, hfz49_0, hfz49_1, hfz49_2, hfz49_3, hfz49_4, hfz49_5⟩ := bk6 BK218.out) | ((with_reducible refine gate_callee (f := 30) rfl ?_); refine goesL_ (some 73) rfl rfl Tryd.func30 (by kernel_rfl) rfl #[.agg #[.string ((rd_T40 l0_2 x67_3).f0), .slice A217_1 ((rd_T40 l0_2 x67_3).f1).length c217_1, .string ((rd_T40 l0_2 x67_3).f2), .slice A217_3 ((rd_T40 l0_2 x67_3).f3).length c217_3, .slice A217_4 ((rd_T40 l0_2 x67_3).f4).length c217_4, .slice A217_5 ((rd_T40 l0_2 x67_3).f5).length c217_5]] rfl (bq44) ?_; (with_reducible refine (ir_function.calls k3 ((rd_T40 l0_2 x67_3).f0) _ _ ((rd_T40 l0_2 x67_3).f1) ((rd_T40 l0_2 x67_3).f2) _ _ ((rd_T40 l0_2 x67_3).f3) _ _ ((rd_T40 l0_2 x67_3).f4) _ _ ((rd_T40 l0_2 x67_3).f5) t219 _ ?side1 ?side2 ?side3 ?side4 ?side5 ?side6 ?side7 ?side8 A45.out).mono ?_); (case side1 => exact Kd.C_below HR217_1.out (bq28)); (case side2 => exact HC217_1.out); (case side3 => exact Kd.C_below HR217_3.out (bq28)); (case side4 => exact HC217_3.out); (case side5 => exact Kd.C_below HR217_4.out (bq28)); (case side6 => exact HC217_4.out); (case side7 => exact Kd.C_below HR217_5.out (bq28)); (case side8 => exact HC217_5.out); rintro e w50 ⟨v220, rfl, ho0, hb⟩; refine ⟨_, rfl, ?_⟩; have n0_ := Aside0.mk (Kd.R_elder' (bq0) (Kd.R_base ho0) hb); have n1_ := Aside0.mk (Kd.R_lower (Kd.R_new' ho0 (Kd.R_lt (bq0))) (below_size (bq28))); have n2_ := Aside0.mk (blk_below (g := gb197) (o := .cells #[.slice A0_0 l0_0.length c0_0, .slice A0_1 l0_1.length c0_1, .slice (some ad217) l0_2.length c0_2] 26 (0, 0)) (by (with_reducible repeat (first | refine blk_drewN ?_ _ | refine blk_drew ?_ | refine blk_alloc ?_ _)); refine blk_far ?_ NB197_218.out _; (with_reducible repeat (first | refine blk_drewN ?_ _ | refine blk_drew ?_ | refine blk_alloc ?_ _)); refine blk_far ?_ NB197_218.out _; (with_reducible repeat (first | refine blk_drewN ?_ _ | refine blk_drew ?_ | refine blk_alloc ?_ _)); refine blk_far ?_ NB197_218.out _; (with_reducible repeat (first | refine blk_drewN ?_ _ | refine blk_drew ?_ | refine blk_alloc ?_ _)); refine blk_far ?_ NB197_218.out _; (with_reducible repeat (first | refine blk_drewN ?_ _ | refine blk_drew ?_ | refine blk_alloc ?_ _)); refine blk_far ?_ NB197_218.out _; (with_reducible repeat (first | refine blk_drewN ?_ _ | refine blk_drew ?_ | refine blk_alloc ?_ _)); refine blk_far ?_ NB197_218.out _; (with_reducible repeat (first | refine blk_drewN ?_ _ | refine blk_drew ?_ | refine blk_alloc ?_ _)); exact BK197.out) hb); have n3_ := Aside0.mk (blk_below (g := gb218) (o := .cells #[.string ((rd_T40 l0_2 x67_3).f0), .slice A217_1 ((rd_T40 l0_2 x67_3).f1).length c217_1, .string ((rd_T40 l0_2 x67_3).f2), .slice A217_3 ((rd_T40 l0_2 x67_3).f3).length c217_3, .slice A217_4 ((rd_T40 l0_2 x67_3).f4).length c217_4, .slice A217_5 ((rd_T40 l0_2 x67_3).f5).length c217_5] 40 (0, 0)) (by (with_reducible repeat (first | refine blk_drewN ?_ _ | refine blk_drew ?_ | refine blk_alloc ?_ _)); refine blk_put (cs := #[.string ((rd_T40 l0_2 x67_3).f0), .slice A217_1 ((rd_T40 l0_2 x67_3).f1).length c217_1, .string ((rd_T40 l0_2 x67_3).f2), .slice A217_3 ((rd_T40 l0_2 x67_3).f3).length c217_3, .slice A217_4 ((rd_T40 l0_2 x67_3).f4).length c217_4, .slice none 0 0]) ?_ 5 _ rfl; (with_reducible repeat (first | refine blk_drewN ?_ _ | refine blk_drew ?_ | refine blk_alloc ?_ _)); refine blk_put (cs := #[.string ((rd_T40 l0_2 x67_3).f0), .slice A217_1 ((rd_T40 l0_2 x67_3).f1).length c217_1, .string ((rd_T40 l0_2 x67_3).f2), .slice A217_3 ((rd_T40 l0_2 x67_3).f3).length c217_3, .slice none 0 0, .slice none 0 0]) ?_ 4 _ rfl; (with_reducible repeat (first | refine blk_drewN ?_ _ | refine blk_drew ?_ | refine blk_alloc ?_ _)); refine blk_put (cs := #[.string ((rd_T40 l0_2 x67_3).f0), .slice A217_1 ((rd_T40 l0_2 x67_3).f1).length c217_1, .string ((rd_T40 l0_2 x67_3).f2), .slice none 0 0, .slice none 0 0, .slice none 0 0]) ?_ 3 _ rfl; (with_reducible repeat (first | refine blk_drewN ?_ _ | refine blk_drew ?_ | refine blk_alloc ?_ _)); refine blk_put (cs := #[.string ((rd_T40 l0_2 x67_3).f0), .slice A217_1 ((rd_T40 l0_2 x67_3).f1).length c217_1, .string (⟨#[]⟩ : ByteArray), .slice none 0 0, .slice none 0 0, .slice none 0 0]) ?_ 2 _ rfl; (with_reducible repeat (first | refine blk_drewN ?_ _ | refine blk_drew ?_ | refine blk_alloc ?_ _)); refine blk_put (cs := #[.string ((rd_T40 l0_2 x67_3).f0), .slice none 0 0, .string (⟨#[]⟩ : ByteArray), .slice none 0 0, .slice none 0 0, .slice none 0 0]) ?_ 1 _ rfl; (with_reducible repeat (first | refine blk_drewN ?_ _ | refine blk_drew ?_ | refine blk_alloc ?_ _)); refine blk_put (cs := #[.string (⟨#[]⟩ : ByteArray), .slice none 0 0, .string (⟨#[]⟩ : ByteArray), .slice none 0 0, .slice none 0 0, .slice none 0 0]) ?_ 0 _ rfl; (with_reducible repeat (first | refine blk_drewN ?_ _ | refine blk_drew ?_ | refine blk_alloc ?_ _)); exact BK218.out) hb); have n4_ := Aside0.mk (below_step (bq28) hb); clear HO_3; clear BK197; clear BK218; clear HB; have HO_3 := n0_; have HO221 := n1_; have BK197 := n2_; have BK218 := n3_; have HB := n4_; clear n0_ n1_ n2_ n3_ n4_; (try clear hb); (try clear hb2); (try clear hk); (try clear hi); (try clear ho0); obtain ⟨Ao52, co52, eo52⟩ := Kd.R_slice HO221.out; subst eo52) | ((with_reducible refine gate_builtin (b := .append) (xs := #[.tmp 71, .tmp 73]) rfl ?_); at_builtin; refine Kd.R_append_rows Kd.string (w0 := w) w.heap.size rfl (.tmp 71) (.tmp 73) 31 9 (.string ⟨#[]⟩) 16 rfl Tryd.underlying31 info9 rfl (by decide) (by omega) u3 x3_3 t219 _ _ _ (fun k_ => some k_ ≠ (.slice Ao52 t219.length co52 : Value).ownBlock) (fun _ => False) rfl rfl ?aO ?aR (fun _ _ h => h) (fun _ h => h.elim) ?aF ?aB ?aS ?aL ?_; (case aR => repeat (first | exact (Kd.R_reads' HO221.out).2.2 | (with_reducible refine Kd.C_alloc ?_ _) | (with_reducible refine Kd.C_drewN ?_ _) | (with_reducible refine Kd.C_drew ?_))); (case aB => exact (bq28)); (case aF => exact (fun k_ hk => Kd.fresh' (Kd.R_lt (bq63)) k_ hk)); (case aO => exact (by (with_reducible repeat (first | apply Kd.R_alloc | apply Kd.R_drewN | apply Kd.R_drew)); exact Kd.R_mono HO_3.out (fun _ hk => hk.2))); (case aS => exact (below_size (bq28))); (case aL => have := LMc46.out; omega); intro v223 w51 ho hb hg hat; rw [← Ny222.out] at ho; have n0_ := Aside0.mk (blkG BK197.out hg (Kd.R_ne HO_3.out BK197.out (by decide))); have n1_ := Aside0.mk (blkG BK218.out hg (Kd.R_ne HO_3.out BK218.out (by decide))); have n2_ := Aside0.mk (Kd.R_after (ok := (fun _ => True)) (bq63) hg hat); have n3_ := Aside0.mk (hb); have n4_ := Aside0.mk (ho); clear BK197; clear BK218; clear HO221; clear HB; clear HO_3; have BK197 := n0_; have BK218 := n1_; have HO221 := n2_; have HB := n3_; have HO224 := n4_; clear n0_ n1_ n2_ n3_ n4_; clear ho hb hg hat))
             go_roundg k3
             case measure => have := HK1.out; have := HK2.out; have := HK3.out; omega
             case rel => exact ⟨(y222), (wrap64 (x67_3 + 1)), (bq73), H', ⟨by have := HK1.out; have := HK2.out; have := HK3.out; omega⟩, ⟨by (with_reducible repeat (first | apply Kd.R_alloc | apply Kd.R_drewN | apply Kd.R_drew)); exact Kd.R_mono HO224.out (fun _ hk => trivial)⟩, ⟨by (with_reducible repeat (first | refine blk_drewN ?_ _ | refine blk_drew ?_ | refine blk_alloc ?_ _)); exact BK197.out⟩, ⟨bq28⟩⟩
            ·rw [if_neg c46] at H
             exact absurd H (by simp)
           ·rw [if_neg c44] at H
            exact absurd H (by simp)
          ·rw [if_neg c43] at H
           exact absurd H (by simp)
         ·rw [if_neg c42] at H
          have c42b0 := decide_eq_false c42
          clear c42
          obtain rfl := Option.some.inj H
          go_wp2
          go_ret
          exact ⟨_, by first | rfl | (simp [errW_none, errW_some] <;> rfl) | (simp [*, errW_none, errW_some] <;> rfl), bq68, bq36⟩

end Go.Proofs.YtkiiojgaaoaipaaDoor.Q

namespace Go.Proofs.YtkiiojgaaoaipaaDoor.Q
open Go.RowKit Go.Proofs.YtkiiojgaaoaipaaDoorW.PrintWords Go.Proofs.YtkiiojgaaoaipaaDoorW.PrintLast Go.Proofs.YtkiiojgaaoaipaaDoorW.PrintMore
attribute [local go_sem] max2_int min2_int max_two min_two max_three min_three max_four min_four   -- for this text's walks alone
set_option linter.unusedVariables false
set_option linter.unusedSimpArgs false

theorem eqA61 (d : Nat) (w : World) (x0 y0 : ByteArray) (x1 y1 : ByteArray) :
  (Op.equalIn (d + 2) 61 (.agg #[.string x0, .string x1]) (.agg #[.string y0, .string y1])).run Tryd.prog w = .ok (x0.toList == y0.toList && (x1.toList == y1.toList)) w := by
 refine eqA_of Tryd.underlying61 (by kernel_rfl) ?_
 refine eqf_cons (by rfl) (by go_simp; rfl) (by go_simp; rfl) (by go_simp) ?_
 exact eqf_last (by rfl) (by go_simp; rfl) (by go_simp; rfl) (by go_simp)
end Go.Proofs.YtkiiojgaaoaipaaDoor.Q

namespace Go.Proofs.YtkiiojgaaoaipaaDoor.Q
open Go.RowKit Go.Proofs.YtkiiojgaaoaipaaDoorW.PrintWords Go.Proofs.YtkiiojgaaoaipaaDoorW.PrintLast Go.Proofs.YtkiiojgaaoaipaaDoorW.PrintMore
attribute [local go_sem] max2_int min2_int max_two min_two max_three min_three max_four min_four   -- for this text's walks alone
set_option linter.unusedVariables false
set_option linter.unusedSimpArgs false

attribute [local go_sem high] eqA61
/-! ### api_Field_33: function 33 -/
def api_Field_33.l0 : Nat → List (S61) → List (S61) → Int → Int → Option (Bool)
 | 0, _, _, _, _ => none
 | k + 1, x0, x1, x12, x13 => if x13 < x12 then (if 0 ≤ x13 then (if x13 < (x0.length : Int) then (if x13 < (x1.length : Int) then (if (!((((rd_T61 x0 x13).f0).toList) == (((rd_T61 x1 x13).f0).toList)) || (!((((rd_T61 x0 x13).f1).toList) == (((rd_T61 x1 x13).f1).toList)))) = true then (some false) else (api_Field_33.l0 k x0 x1 x12 (wrap64 (x13 + 1)))) else (none)) else (none)) else (none)) else (some true)
def api_Field_33.f (k : Nat) (l0 : List (S61)) (l1 : List (S61)) : Option (Bool) := if (l0.length : Int) = (l1.length : Int) then (api_Field_33.l0 k l0 l1 (l0.length : Int) 0) else (some false)
theorem api_Field_33.mono_l : ∀ k, (∀ y0 y1 y2 y3, LeO (api_Field_33.l0 k y0 y1 y2 y3) (api_Field_33.l0 (k + 1) y0 y1 y2 y3))
 | 0 => fun _ _ _ _ r h => by simp [api_Field_33.l0] at h
 | k + 1 => by
  have ih0 := api_Field_33.mono_l k
  ·intro y0 y1 y2 y3
   unfold api_Field_33.l0
   repeat' first
   | (with_reducible exact ih0 _ _ _ _)
   | (with_reducible exact LeO.refl _)
   | (with_reducible exact LeO.none _)
   | (with_reducible refine LeO.ite ?_ ?_)
   | (with_reducible refine LeO.bind ?_ (fun _ => ?_))
   | exact ih0 _ _ _ _
   | exact LeO.none _
   | refine LeO.ite ?_ ?_
   | refine LeO.bind ?_ (fun _ => ?_)
theorem api_Field_33.mono : ∀ a0 a1 k, LeO (api_Field_33.f k a0 a1) (api_Field_33.f (k + 1) a0 a1) := by
 intro a0 a1 k
 have ih0 := api_Field_33.mono_l k
 unfold api_Field_33.f
 repeat' first
   | (with_reducible exact ih0 _ _ _ _)
   | (with_reducible exact LeO.refl _)
   | (with_reducible exact LeO.none _)
   | (with_reducible refine LeO.ite ?_ ?_)
   | (with_reducible refine LeO.bind ?_ (fun _ => ?_))
   | exact ih0 _ _ _ _
   | exact LeO.none _
   | refine LeO.ite ?_ ?_
   | refine LeO.bind ?_ (fun _ => ?_)
set_option maxHeartbeats 8000000 in
set_option maxRecDepth 100000 in
theorem api_Field_33.calls (k : Nat) (A0 : Option Addr) (c0 : Nat) (l0 : List (S61)) (A1 : Option Addr) (c1 : Nat) (l1 : List (S61)) (r : Bool) (w : World) (hr0 : Kd.C k61 w A0 l0.length l0) (hc0 : l0.length ≤ c0) (hr1 : Kd.C k61 w A1 l1.length l1) (hc1 : l1.length ≤ c1) (h : api_Field_33.f k l0 l1 = some r) :
  Calls Tryd.prog 33 #[.slice A0 l0.length c0, .slice A1 l1.length c1] w fun e w' => e = .returned (.bool r) ∧ Drawn0 w w' := by
 have hu61 := Tryd.underlying61
 have HR0 := Aside0.mk hr0
 have HC0 := Aside0.mk hc0
 clear hr0 hc0
 have HR1 := Aside0.mk hr1
 have HC1 := Aside0.mk hc1
 clear hr1 hc1
 have H : (if (l0.length : Int) = (l1.length : Int) then (api_Field_33.l0 k l0 l1 (l0.length : Int) 0) else (some false)) = some r := h
 clear h
 by_cases c3 : (l0.length : Int) = (l1.length : Int)
 ·rw [if_pos c3] at H
  have c3b0 : ((l0.length : Int) == (l1.length : Int)) = true := beq_iff_eq.mpr c3
  have c3b1 : ((l0.length : Int) != (l1.length : Int)) = false := bne_eq_false_iff_eq.mpr c3
  have c3b2 : (l0.length == l1.length) = true := by first | simpa using c3 | (simp at c3 ⊢; omega)
  clear c3
  have H' := Aside0.mk H
  clear H
  go_enter Tryd.func33, Tryd.ntmps33
  go_wp2
  repeat (go_quiet (fail); try go_wp2)
  go_loopg [13] k (fun kq v13 w' => ∃ (x13_1 : Int), v13 = .int .i64 x13_1 ∧ Aside0 (api_Field_33.l0 kq l0 l1 (l0.length : Int) x13_1 = some r) ∧ Aside0 (kq ≤ k) ∧ Drawn0 w w')
  case atStart => exact ⟨(0), (bq73), H', ⟨Nat.le_refl _⟩, by repeat (first | exact Drawn0.refl _ | apply Drawn0.step)⟩
  case round =>
   clear H'
   try clear c1
   try clear p2
   try clear c3
   try clear c3b0
   try clear c3b1
   try clear c3b2
   try clear c3b3
   obtain ⟨x13_1, rfl, HA, HK1, ⟨m1, rfl⟩⟩ := hrel
   cases gk with
   | zero => exact absurd HA.out (by simp [api_Field_33.l0])
   | succ k1 =>
    have H := HA.out
    clear HA
    simp only [api_Field_33.l0] at H
    by_cases c4 : x13_1 < (l0.length : Int)
    ·rw [if_pos c4] at H
     have c4b0 := decide_eq_true c4
     clear c4
     by_cases c5 : 0 ≤ x13_1
     ·rw [if_pos c5] at H
      have c5b0 := decide_eq_true c5
      clear c5
      by_cases c6 : x13_1 < (l0.length : Int)
      ·rw [if_pos c6] at H
       have c6b0 := decide_eq_true c6
       clear c6
       by_cases c7 : x13_1 < (l1.length : Int)
       ·rw [if_pos c7] at H
        have c7b0 := decide_eq_true c7
        clear c7
        by_cases c8 : (!((((rd_T61 l0 x13_1).f0).toList) == (((rd_T61 l1 x13_1).f0).toList)) || (!((((rd_T61 l0 x13_1).f1).toList) == (((rd_T61 l1 x13_1).f1).toList)))) = true
        ·rw [if_pos c8] at H
         have c8b0 : (!((((rd_T61 l0 x13_1).f0).toList) == (((rd_T61 l1 x13_1).f0).toList)) || (!((((rd_T61 l0 x13_1).f1).toList) == (((rd_T61 l1 x13_1).f1).toList)))) = true := c8
         clear c8
         obtain rfl := Option.some.inj H
         have p225 : 0 ≤ (x13_1 : Int) := of_decide_eq_true (bq72)
         have q225 : x13_1 < (l0.length : Int) := of_decide_eq_true (bq72)
         obtain ⟨ad225, e225, hx225_0, hx225_1⟩ := at_T61 HR0.out x13_1 p225 q225
         cases e225
         replace p225 := eq_true p225
         replace q225 := eq_true q225
         have p226 : 0 ≤ (x13_1 : Int) := of_decide_eq_true (bq72)
         have q226 : x13_1 < (l1.length : Int) := of_decide_eq_true (bq72)
         obtain ⟨ad226, e226, hx226_0, hx226_1⟩ := at_T61 HR1.out x13_1 p226 q226
         cases e226
         replace p226 := eq_true p226
         replace q226 := eq_true q226
         go_wp2
         repeat (go_quiet (fail); try go_wp2)
         go_ret
         exact ⟨bq73, by repeat (first | exact Drawn0.refl _ | apply Drawn0.step)⟩
        ·rw [if_neg c8] at H
         have c8b0 : (!((((rd_T61 l0 x13_1).f0).toList) == (((rd_T61 l1 x13_1).f0).toList)) || (!((((rd_T61 l0 x13_1).f1).toList) == (((rd_T61 l1 x13_1).f1).toList)))) = false := by simpa using c8
         clear c8
         have H' := Aside0.mk H
         clear H
         have p225 : 0 ≤ (x13_1 : Int) := of_decide_eq_true (bq72)
         have q225 : x13_1 < (l0.length : Int) := of_decide_eq_true (bq72)
         obtain ⟨ad225, e225, hx225_0, hx225_1⟩ := at_T61 HR0.out x13_1 p225 q225
         cases e225
         replace p225 := eq_true p225
         replace q225 := eq_true q225
         have p226 : 0 ≤ (x13_1 : Int) := of_decide_eq_true (bq72)
         have q226 : x13_1 < (l1.length : Int) := of_decide_eq_true (bq72)
         obtain ⟨ad226, e226, hx226_0, hx226_1⟩ := at_T61 HR1.out x13_1 p226 q226
         cases e226
         replace p226 := eq_true p226
         replace q226 := eq_true q226
         go_wp2
         repeat (go_quiet (fail); try go_wp2)
         go_roundg k1
         case measure => have := HK1.out; omega
         case rel => exact ⟨(wrap64 (x13_1 + 1)), (bq73), H', ⟨by have := HK1.out; omega⟩, by repeat (first | exact Drawn0.refl _ | apply Drawn0.step)⟩
       ·rw [if_neg c7] at H
        exact absurd H (by simp)
      ·rw [if_neg c6] at H
       exact absurd H (by simp)
     ·rw [if_neg c5] at H
      exact absurd H (by simp)
    ·rw [if_neg c4] at H
     have c4b0 := decide_eq_false c4
     clear c4
     obtain rfl := Option.some.inj H
     go_wp2
     repeat (go_quiet (fail); try go_wp2)
     go_ret
     exact ⟨bq73, by repeat (first | exact Drawn0.refl _ | apply Drawn0.step)⟩
 ·rw [if_neg c3] at H
  have c3b0 : ((l0.length : Int) == (l1.length : Int)) = false := beq_eq_false_iff_ne.mpr c3
  have c3b1 : ((l0.length : Int) != (l1.length : Int)) = true := bne_iff_ne.mpr c3
  have c3b2 : (l0.length == l1.length) = false := by first | simpa using c3 | (simp at c3 ⊢; omega)
  obtain rfl := Option.some.inj H
  go_enter Tryd.func33, Tryd.ntmps33
  go_wp2
  repeat (go_quiet (fail); try go_wp2)
  go_ret
  exact ⟨bq73, by repeat (first | exact Drawn0.refl _ | apply Drawn0.step)⟩

end Go.Proofs.YtkiiojgaaoaipaaDoor.Q

namespace Go.Proofs.YtkiiojgaaoaipaaDoor.Q
open Go.RowKit Go.Proofs.YtkiiojgaaoaipaaDoorW.PrintWords Go.Proofs.YtkiiojgaaoaipaaDoorW.PrintLast Go.Proofs.YtkiiojgaaoaipaaDoorW.PrintMore
attribute [local go_sem] max2_int min2_int max_two min_two max_three min_three max_four min_four   -- for this text's walks alone
set_option linter.unusedVariables false
set_option linter.unusedSimpArgs false

/-! ### slices_Equal_string_string: function 51 -/
def slices_Equal_string_string.l0 : Nat → List ByteArray → List ByteArray → Int → Int → Option (Bool)
 | 0, _, _, _, _ => none
 | k + 1, x0, x1, x12, x13 => if x13 < x12 then (if 0 ≤ x13 then (if x13 < (x0.length : Int) then (if x13 < (x1.length : Int) then (if (rdOf ByteArray.empty x0 x13).toList = (rdOf ByteArray.empty x1 x13).toList then (slices_Equal_string_string.l0 k x0 x1 x12 (wrap64 (x13 + 1))) else (some false)) else (none)) else (none)) else (none)) else (some true)
def slices_Equal_string_string.f (k : Nat) (l0 : List ByteArray) (l1 : List ByteArray) : Option (Bool) := if (l0.length : Int) = (l1.length : Int) then (slices_Equal_string_string.l0 k l0 l1 (l0.length : Int) 0) else (some false)
theorem slices_Equal_string_string.mono_l : ∀ k, (∀ y0 y1 y2 y3, LeO (slices_Equal_string_string.l0 k y0 y1 y2 y3) (slices_Equal_string_string.l0 (k + 1) y0 y1 y2 y3))
 | 0 => fun _ _ _ _ r h => by simp [slices_Equal_string_string.l0] at h
 | k + 1 => by
  have ih0 := slices_Equal_string_string.mono_l k
  ·intro y0 y1 y2 y3
   unfold slices_Equal_string_string.l0
   repeat' first
   | (with_reducible exact ih0 _ _ _ _)
   | (with_reducible exact LeO.refl _)
   | (with_reducible exact LeO.none _)
   | (with_reducible refine LeO.ite ?_ ?_)
   | (with_reducible refine LeO.bind ?_ (fun _ => ?_))
   | exact ih0 _ _ _ _
   | exact LeO.none _
   | refine LeO.ite ?_ ?_
   | refine LeO.bind ?_ (fun _ => ?_)
theorem slices_Equal_string_string.mono : ∀ a0 a1 k, LeO (slices_Equal_string_string.f k a0 a1) (slices_Equal_string_string.f (k + 1) a0 a1) := by
 intro a0 a1 k
 have ih0 := slices_Equal_string_string.mono_l k
 unfold slices_Equal_string_string.f
 repeat' first
   | (with_reducible exact ih0 _ _ _ _)
   | (with_reducible exact LeO.refl _)
   | (with_reducible exact LeO.none _)
   | (with_reducible refine LeO.ite ?_ ?_)
   | (with_reducible refine LeO.bind ?_ (fun _ => ?_))
   | exact ih0 _ _ _ _
   | exact LeO.none _
   | refine LeO.ite ?_ ?_
   | refine LeO.bind ?_ (fun _ => ?_)
set_option maxHeartbeats 8000000 in
set_option maxRecDepth 100000 in
theorem slices_Equal_string_string.calls (k : Nat) (A0 : Option Addr) (c0 : Nat) (l0 : List ByteArray) (A1 : Option Addr) (c1 : Nat) (l1 : List ByteArray) (r : Bool) (w : World) (hr0 : Kd.C Kd.string w A0 l0.length l0) (hc0 : l0.length ≤ c0) (hr1 : Kd.C Kd.string w A1 l1.length l1) (hc1 : l1.length ≤ c1) (h : slices_Equal_string_string.f k l0 l1 = some r) :
  Calls Tryd.prog 51 #[.slice A0 l0.length c0, .slice A1 l1.length c1] w fun e w' => e = .returned (.bool r) ∧ Drawn0 w w' := by
 have HR0 := Aside0.mk hr0
 have HC0 := Aside0.mk hc0
 clear hr0 hc0
 have HR1 := Aside0.mk hr1
 have HC1 := Aside0.mk hc1
 clear hr1 hc1
 have H : (if (l0.length : Int) = (l1.length : Int) then (slices_Equal_string_string.l0 k l0 l1 (l0.length : Int) 0) else (some false)) = some r := h
 clear h
 by_cases c3 : (l0.length : Int) = (l1.length : Int)
 ·rw [if_pos c3] at H
  have c3b0 : ((l0.length : Int) == (l1.length : Int)) = true := beq_iff_eq.mpr c3
  have c3b1 : ((l0.length : Int) != (l1.length : Int)) = false := bne_eq_false_iff_eq.mpr c3
  have c3b2 : (l0.length == l1.length) = true := by first | simpa using c3 | (simp at c3 ⊢; omega)
  clear c3
  have H' := Aside0.mk H
  clear H
  go_enter Tryd.func51, Tryd.ntmps51
  go_wp2
  repeat (go_quiet (fail); try go_wp2)
  go_loopg [13] k (fun kq v13 w' => ∃ (x13_1 : Int), v13 = .int .i64 x13_1 ∧ Aside0 (slices_Equal_string_string.l0 kq l0 l1 (l0.length : Int) x13_1 = some r) ∧ Aside0 (kq ≤ k) ∧ Drawn0 w w')
  case atStart => exact ⟨(0), (bq73), H', ⟨Nat.le_refl _⟩, by repeat (first | exact Drawn0.refl _ | apply Drawn0.step)⟩
  case round =>
   clear H'
   try clear c1
   try clear p2
   try clear c3
   try clear c3b0
   try clear c3b1
   try clear c3b2
   try clear c3b3
   obtain ⟨x13_1, rfl, HA, HK1, ⟨m1, rfl⟩⟩ := hrel
   cases gk with
   | zero => exact absurd HA.out (by simp [slices_Equal_string_string.l0])
   | succ k1 =>
    have H := HA.out
    clear HA
    simp only [slices_Equal_string_string.l0] at H
    by_cases c4 : x13_1 < (l0.length : Int)
    ·rw [if_pos c4] at H
     have c4b0 := decide_eq_true c4
     clear c4
     by_cases c5 : 0 ≤ x13_1
     ·rw [if_pos c5] at H
      have c5b0 := decide_eq_true c5
      clear c5
      by_cases c6 : x13_1 < (l0.length : Int)
      ·rw [if_pos c6] at H
       have c6b0 := decide_eq_true c6
       clear c6
       by_cases c7 : x13_1 < (l1.length : Int)
       ·rw [if_pos c7] at H
        have c7b0 := decide_eq_true c7
        clear c7
        by_cases c8 : (rdOf ByteArray.empty l0 x13_1).toList = (rdOf ByteArray.empty l1 x13_1).toList
        ·rw [if_pos c8] at H
         have c8b0 : ((rdOf ByteArray.empty l0 x13_1).toList == (rdOf ByteArray.empty l1 x13_1).toList) = true := beq_iff_eq.mpr c8
         have c8b1 : ((rdOf ByteArray.empty l0 x13_1).toList != (rdOf ByteArray.empty l1 x13_1).toList) = false := bne_eq_false_iff_eq.mpr c8
         clear c8
         have H' := Aside0.mk H
         clear H
         have p230 : 0 ≤ (x13_1 : Int) := of_decide_eq_true (bq72)
         have q230 : x13_1 < (l0.length : Int) := of_decide_eq_true (bq72)
         obtain ⟨ad230, e230, hx230_0⟩ := Kd.at_string HR0.out x13_1 p230 q230
         cases e230
         replace p230 := eq_true p230
         replace q230 := eq_true q230
         have p231 : 0 ≤ (x13_1 : Int) := of_decide_eq_true (bq72)
         have q231 : x13_1 < (l1.length : Int) := of_decide_eq_true (bq72)
         obtain ⟨ad231, e231, hx231_0⟩ := Kd.at_string HR1.out x13_1 p231 q231
         cases e231
         replace p231 := eq_true p231
         replace q231 := eq_true q231
         go_wp2
         repeat (go_quiet (fail); try go_wp2)
         go_roundg k1
         case measure => have := HK1.out; omega
         case rel => exact ⟨(wrap64 (x13_1 + 1)), (bq73), H', ⟨by have := HK1.out; omega⟩, by repeat (first | exact Drawn0.refl _ | apply Drawn0.step)⟩
        ·rw [if_neg c8] at H
         have c8b0 : ((rdOf ByteArray.empty l0 x13_1).toList == (rdOf ByteArray.empty l1 x13_1).toList) = false := beq_eq_false_iff_ne.mpr c8
         have c8b1 : ((rdOf ByteArray.empty l0 x13_1).toList != (rdOf ByteArray.empty l1 x13_1).toList) = true := bne_iff_ne.mpr c8
         obtain rfl := Option.some.inj H
         have p230 : 0 ≤ (x13_1 : Int) := of_decide_eq_true (bq72)
         have q230 : x13_1 < (l0.length : Int) := of_decide_eq_true (bq72)
         obtain ⟨ad230, e230, hx230_0⟩ := Kd.at_string HR0.out x13_1 p230 q230
         cases e230
         replace p230 := eq_true p230
         replace q230 := eq_true q230
         have p231 : 0 ≤ (x13_1 : Int) := of_decide_eq_true (bq72)
         have q231 : x13_1 < (l1.length : Int) := of_decide_eq_true (bq72)
         obtain ⟨ad231, e231, hx231_0⟩ := Kd.at_string HR1.out x13_1 p231 q231
         cases e231
         replace p231 := eq_true p231
         replace q231 := eq_true q231
         go_wp2
         repeat (go_quiet (fail); try go_wp2)
         go_ret
         exact ⟨bq73, by repeat (first | exact Drawn0.refl _ | apply Drawn0.step)⟩
       ·rw [if_neg c7] at H
        exact absurd H (by simp)
      ·rw [if_neg c6] at H
       exact absurd H (by simp)
     ·rw [if_neg c5] at H
      exact absurd H (by simp)
    ·rw [if_neg c4] at H
     have c4b0 := decide_eq_false c4
     clear c4
     obtain rfl := Option.some.inj H
     go_wp2
     repeat (go_quiet (fail); try go_wp2)
     go_ret
     exact ⟨bq73, by repeat (first | exact Drawn0.refl _ | apply Drawn0.step)⟩
 ·rw [if_neg c3] at H
  have c3b0 : ((l0.length : Int) == (l1.length : Int)) = false := beq_eq_false_iff_ne.mpr c3
  have c3b1 : ((l0.length : Int) != (l1.length : Int)) = true := bne_iff_ne.mpr c3
  have c3b2 : (l0.length == l1.length) = false := by first | simpa using c3 | (simp at c3 ⊢; omega)
  obtain rfl := Option.some.inj H
  go_enter Tryd.func51, Tryd.ntmps51
  go_wp2
  repeat (go_quiet (fail); try go_wp2)
  go_ret
  exact ⟨bq73, by repeat (first | exact Drawn0.refl _ | apply Drawn0.step)⟩

end Go.Proofs.YtkiiojgaaoaipaaDoor.Q

namespace Go.Proofs.YtkiiojgaaoaipaaDoor.Q
open Go.RowKit Go.Proofs.YtkiiojgaaoaipaaDoorW.PrintWords Go.Proofs.YtkiiojgaaoaipaaDoorW.PrintLast Go.Proofs.YtkiiojgaaoaipaaDoorW.PrintMore
attribute [local go_sem] max2_int min2_int max_two min_two max_three min_three max_four min_four   -- for this text's walks alone
set_option linter.unusedVariables false
set_option linter.unusedSimpArgs false

/-! ### slices_Equal_int_int: function 64 -/
def slices_Equal_int_int.l0 : Nat → List Int → List Int → Int → Int → Option (Bool)
 | 0, _, _, _, _ => none
 | k + 1, x0, x1, x12, x13 => if x13 < x12 then (if 0 ≤ x13 then (if x13 < (x0.length : Int) then (if x13 < (x1.length : Int) then (if (rd x0 x13) = (rd x1 x13) then (slices_Equal_int_int.l0 k x0 x1 x12 (wrap64 (x13 + 1))) else (some false)) else (none)) else (none)) else (none)) else (some true)
def slices_Equal_int_int.f (k : Nat) (l0 : List Int) (l1 : List Int) : Option (Bool) := if (l0.length : Int) = (l1.length : Int) then (slices_Equal_int_int.l0 k l0 l1 (l0.length : Int) 0) else (some false)
theorem slices_Equal_int_int.mono_l : ∀ k, (∀ y0 y1 y2 y3, LeO (slices_Equal_int_int.l0 k y0 y1 y2 y3) (slices_Equal_int_int.l0 (k + 1) y0 y1 y2 y3))
 | 0 => fun _ _ _ _ r h => by simp [slices_Equal_int_int.l0] at h
 | k + 1 => by
  have ih0 := slices_Equal_int_int.mono_l k
  ·intro y0 y1 y2 y3
   unfold slices_Equal_int_int.l0
   repeat' first
   | (with_reducible exact ih0 _ _ _ _)
   | (with_reducible exact LeO.refl _)
   | (with_reducible exact LeO.none _)
   | (with_reducible refine LeO.ite ?_ ?_)
   | (with_reducible refine LeO.bind ?_ (fun _ => ?_))
   | exact ih0 _ _ _ _
   | exact LeO.none _
   | refine LeO.ite ?_ ?_
   | refine LeO.bind ?_ (fun _ => ?_)
theorem slices_Equal_int_int.mono : ∀ a0 a1 k, LeO (slices_Equal_int_int.f k a0 a1) (slices_Equal_int_int.f (k + 1) a0 a1) := by
 intro a0 a1 k
 have ih0 := slices_Equal_int_int.mono_l k
 unfold slices_Equal_int_int.f
 repeat' first
   | (with_reducible exact ih0 _ _ _ _)
   | (with_reducible exact LeO.refl _)
   | (with_reducible exact LeO.none _)
   | (with_reducible refine LeO.ite ?_ ?_)
   | (with_reducible refine LeO.bind ?_ (fun _ => ?_))
   | exact ih0 _ _ _ _
   | exact LeO.none _
   | refine LeO.ite ?_ ?_
   | refine LeO.bind ?_ (fun _ => ?_)
set_option maxHeartbeats 8000000 in
set_option maxRecDepth 100000 in
theorem slices_Equal_int_int.calls (k : Nat) (A0 : Option Addr) (c0 : Nat) (l0 : List Int) (A1 : Option Addr) (c1 : Nat) (l1 : List Int) (r : Bool) (w : World) (hr0 : Kd.C (Kd.int .i64) w A0 l0.length l0) (hc0 : l0.length ≤ c0) (hr1 : Kd.C (Kd.int .i64) w A1 l1.length l1) (hc1 : l1.length ≤ c1) (h : slices_Equal_int_int.f k l0 l1 = some r) :
  Calls Tryd.prog 64 #[.slice A0 l0.length c0, .slice A1 l1.length c1] w fun e w' => e = .returned (.bool r) ∧ Drawn0 w w' := by
 have HR0 := Aside0.mk hr0
 have HC0 := Aside0.mk hc0
 clear hr0 hc0
 have HR1 := Aside0.mk hr1
 have HC1 := Aside0.mk hc1
 clear hr1 hc1
 have H : (if (l0.length : Int) = (l1.length : Int) then (slices_Equal_int_int.l0 k l0 l1 (l0.length : Int) 0) else (some false)) = some r := h
 clear h
 by_cases c3 : (l0.length : Int) = (l1.length : Int)
 ·rw [if_pos c3] at H
  have c3b0 : ((l0.length : Int) == (l1.length : Int)) = true := beq_iff_eq.mpr c3
  have c3b1 : ((l0.length : Int) != (l1.length : Int)) = false := bne_eq_false_iff_eq.mpr c3
  have c3b2 : (l0.length == l1.length) = true := by first | simpa using c3 | (simp at c3 ⊢; omega)
  clear c3
  have H' := Aside0.mk H
  clear H
  go_enter Tryd.func64, Tryd.ntmps64
  go_wp2
  repeat (go_quiet (fail); try go_wp2)
  go_loopg [13] k (fun kq v13 w' => ∃ (x13_1 : Int), v13 = .int .i64 x13_1 ∧ Aside0 (slices_Equal_int_int.l0 kq l0 l1 (l0.length : Int) x13_1 = some r) ∧ Aside0 (kq ≤ k) ∧ Drawn0 w w')
  case atStart => exact ⟨(0), (bq73), H', ⟨Nat.le_refl _⟩, by repeat (first | exact Drawn0.refl _ | apply Drawn0.step)⟩
  case round =>
   clear H'
   try clear c1
   try clear p2
   try clear c3
   try clear c3b0
   try clear c3b1
   try clear c3b2
   try clear c3b3
   obtain ⟨x13_1, rfl, HA, HK1, ⟨m1, rfl⟩⟩ := hrel
   cases gk with
   | zero => exact absurd HA.out (by simp [slices_Equal_int_int.l0])
   | succ k1 =>
    have H := HA.out
    clear HA
    simp only [slices_Equal_int_int.l0] at H
    by_cases c4 : x13_1 < (l0.length : Int)
    ·rw [if_pos c4] at H
     have c4b0 := decide_eq_true c4
     clear c4
     by_cases c5 : 0 ≤ x13_1
     ·rw [if_pos c5] at H
      have c5b0 := decide_eq_true c5
      clear c5
      by_cases c6 : x13_1 < (l0.length : Int)
      ·rw [if_pos c6] at H
       have c6b0 := decide_eq_true c6
       clear c6
       by_cases c7 : x13_1 < (l1.length : Int)
       ·rw [if_pos c7] at H
        have c7b0 := decide_eq_true c7
        clear c7
        by_cases c8 : (rd l0 x13_1) = (rd l1 x13_1)
        ·rw [if_pos c8] at H
         have c8b0 : ((rd l0 x13_1) == (rd l1 x13_1)) = true := beq_iff_eq.mpr c8
         have c8b1 : ((rd l0 x13_1) != (rd l1 x13_1)) = false := bne_eq_false_iff_eq.mpr c8
         clear c8
         have H' := Aside0.mk H
         clear H
         have p232 : 0 ≤ (x13_1 : Int) := of_decide_eq_true (bq72)
         have q232 : x13_1 < (l0.length : Int) := of_decide_eq_true (bq72)
         obtain ⟨ad232, e232, hx232_0⟩ := Kd.at_int HR0.out x13_1 p232 q232
         cases e232
         replace p232 := eq_true p232
         replace q232 := eq_true q232
         have p233 : 0 ≤ (x13_1 : Int) := of_decide_eq_true (bq72)
         have q233 : x13_1 < (l1.length : Int) := of_decide_eq_true (bq72)
         obtain ⟨ad233, e233, hx233_0⟩ := Kd.at_int HR1.out x13_1 p233 q233
         cases e233
         replace p233 := eq_true p233
         replace q233 := eq_true q233
         go_wp2
         repeat (go_quiet (fail); try go_wp2)
         go_roundg k1
         case measure => have := HK1.out; omega
         case rel => exact ⟨(wrap64 (x13_1 + 1)), (bq73), H', ⟨by have := HK1.out; omega⟩, by repeat (first | exact Drawn0.refl _ | apply Drawn0.step)⟩
        ·rw [if_neg c8] at H
         have c8b0 : ((rd l0 x13_1) == (rd l1 x13_1)) = false := beq_eq_false_iff_ne.mpr c8
         have c8b1 : ((rd l0 x13_1) != (rd l1 x13_1)) = true := bne_iff_ne.mpr c8
         obtain rfl := Option.some.inj H
         have p232 : 0 ≤ (x13_1 : Int) := of_decide_eq_true (bq72)
         have q232 : x13_1 < (l0.length : Int) := of_decide_eq_true (bq72)
         obtain ⟨ad232, e232, hx232_0⟩ := Kd.at_int HR0.out x13_1 p232 q232
         cases e232
         replace p232 := eq_true p232
         replace q232 := eq_true q232
         have p233 : 0 ≤ (x13_1 : Int) := of_decide_eq_true (bq72)
         have q233 : x13_1 < (l1.length : Int) := of_decide_eq_true (bq72)
         obtain ⟨ad233, e233, hx233_0⟩ := Kd.at_int HR1.out x13_1 p233 q233
         cases e233
         replace p233 := eq_true p233
         replace q233 := eq_true q233
         go_wp2
         repeat (go_quiet (fail); try go_wp2)
         go_ret
         exact ⟨bq73, by repeat (first | exact Drawn0.refl _ | apply Drawn0.step)⟩
       ·rw [if_neg c7] at H
        exact absurd H (by simp)
      ·rw [if_neg c6] at H
       exact absurd H (by simp)
     ·rw [if_neg c5] at H
      exact absurd H (by simp)
    ·rw [if_neg c4] at H
     have c4b0 := decide_eq_false c4
     clear c4
     obtain rfl := Option.some.inj H
     go_wp2
     repeat (go_quiet (fail); try go_wp2)
     go_ret
     exact ⟨bq73, by repeat (first | exact Drawn0.refl _ | apply Drawn0.step)⟩
 ·rw [if_neg c3] at H
  have c3b0 : ((l0.length : Int) == (l1.length : Int)) = false := beq_eq_false_iff_ne.mpr c3
  have c3b1 : ((l0.length : Int) != (l1.length : Int)) = true := bne_iff_ne.mpr c3
  have c3b2 : (l0.length == l1.length) = false := by first | simpa using c3 | (simp at c3 ⊢; omega)
  obtain rfl := Option.some.inj H
  go_enter Tryd.func64, Tryd.ntmps64
  go_wp2
  repeat (go_quiet (fail); try go_wp2)
  go_ret
  exact ⟨bq73, by repeat (first | exact Drawn0.refl _ | apply Drawn0.step)⟩

end Go.Proofs.YtkiiojgaaoaipaaDoor.Q

namespace Go.Proofs.YtkiiojgaaoaipaaDoor.Q
open Go.RowKit Go.Proofs.YtkiiojgaaoaipaaDoorW.PrintWords Go.Proofs.YtkiiojgaaoaipaaDoorW.PrintLast Go.Proofs.YtkiiojgaaoaipaaDoorW.PrintMore
attribute [local go_sem] max2_int min2_int max_two min_two max_three min_three max_four min_four   -- for this text's walks alone
set_option linter.unusedVariables false
set_option linter.unusedSimpArgs false

/-! ### ir_sameIns: function 53 -/
def ir_sameIns.f (k : Nat) (a0_0 : Int) (a0_1 : ByteArray) (l0_2 : List Int) (a0_3 : Int) (a0_4 : ByteArray) (a1_0 : Int) (a1_1 : ByteArray) (l1_2 : List Int) (a1_3 : Int) (a1_4 : ByteArray) : Option (Bool) := if a0_0 = a1_0 then (if a0_1.toList = a1_1.toList then (if a0_3 = a1_3 then (if a0_4.toList = a1_4.toList then ((slices_Equal_int_int.f k l0_2 l1_2).bind fun t236 => (some t236)) else (some false)) else (some false)) else (some false)) else (some false)
theorem ir_sameIns.mono : ∀ a0 a1 a2 a3 a4 a5 a6 a7 a8 a9 k, LeO (ir_sameIns.f k a0 a1 a2 a3 a4 a5 a6 a7 a8 a9) (ir_sameIns.f (k + 1) a0 a1 a2 a3 a4 a5 a6 a7 a8 a9) := by
 intro a0 a1 a2 a3 a4 a5 a6 a7 a8 a9 k
 unfold ir_sameIns.f
 repeat' first
   | (with_reducible exact slices_Equal_int_int.mono _ _ _)
   | (with_reducible exact LeO.refl _)
   | (with_reducible exact LeO.none _)
   | (with_reducible refine LeO.ite ?_ ?_)
   | (with_reducible refine LeO.bind ?_ (fun _ => ?_))
   | exact slices_Equal_int_int.mono _ _ _
   | exact LeO.none _
   | refine LeO.ite ?_ ?_
   | refine LeO.bind ?_ (fun _ => ?_)
set_option maxHeartbeats 8000000 in
set_option maxRecDepth 100000 in
theorem ir_sameIns.calls (k : Nat) (a0_0 : Int) (a0_1 : ByteArray) (A0_2 : Option Addr) (c0_2 : Nat) (l0_2 : List Int) (a0_3 : Int) (a0_4 : ByteArray) (a1_0 : Int) (a1_1 : ByteArray) (A1_2 : Option Addr) (c1_2 : Nat) (l1_2 : List Int) (a1_3 : Int) (a1_4 : ByteArray) (r : Bool) (w : World) (hr0_2 : Kd.C (Kd.int .i64) w A0_2 l0_2.length l0_2) (hc0_2 : l0_2.length ≤ c0_2) (hr1_2 : Kd.C (Kd.int .i64) w A1_2 l1_2.length l1_2) (hc1_2 : l1_2.length ≤ c1_2) (h : ir_sameIns.f k a0_0 a0_1 l0_2 a0_3 a0_4 a1_0 a1_1 l1_2 a1_3 a1_4 = some r) :
  Calls Tryd.prog 53 #[.agg #[.int .i64 a0_0, .string a0_1, .slice A0_2 l0_2.length c0_2, .int .i64 a0_3, .string a0_4], .agg #[.int .i64 a1_0, .string a1_1, .slice A1_2 l1_2.length c1_2, .int .i64 a1_3, .string a1_4]] w fun e w' => e = .returned (.bool r) ∧ Below w.heap.size w w' := by
 have hu47 := Tryd.underlying47
 have HR0_2 := Aside0.mk hr0_2
 have HC0_2 := Aside0.mk hc0_2
 clear hr0_2 hc0_2
 have HR1_2 := Aside0.mk hr1_2
 have HC1_2 := Aside0.mk hc1_2
 clear hr1_2 hc1_2
 have HB := Aside0.mk (Below.refl w.heap.size w)
 have H : (if a0_0 = a1_0 then (if a0_1.toList = a1_1.toList then (if a0_3 = a1_3 then (if a0_4.toList = a1_4.toList then ((slices_Equal_int_int.f k l0_2 l1_2).bind fun t236 => (some t236)) else (some false)) else (some false)) else (some false)) else (some false)) = some r := h
 clear h
 by_cases c3 : a0_0 = a1_0
 ·rw [if_pos c3] at H
  have c3b0 : (a0_0 == a1_0) = true := beq_iff_eq.mpr c3
  have c3b1 : (a0_0 != a1_0) = false := bne_eq_false_iff_eq.mpr c3
  clear c3
  by_cases c4 : a0_1.toList = a1_1.toList
  ·rw [if_pos c4] at H
   have c4b0 : (a0_1.toList == a1_1.toList) = true := beq_iff_eq.mpr c4
   have c4b1 : (a0_1.toList != a1_1.toList) = false := bne_eq_false_iff_eq.mpr c4
   clear c4
   by_cases c5 : a0_3 = a1_3
   ·rw [if_pos c5] at H
    have c5b0 : (a0_3 == a1_3) = true := beq_iff_eq.mpr c5
    have c5b1 : (a0_3 != a1_3) = false := bne_eq_false_iff_eq.mpr c5
    clear c5
    by_cases c6 : a0_4.toList = a1_4.toList
    ·rw [if_pos c6] at H
     have c6b0 : (a0_4.toList == a1_4.toList) = true := beq_iff_eq.mpr c6
     have c6b1 : (a0_4.toList != a1_4.toList) = false := bne_eq_false_iff_eq.mpr c6
     clear c6
     replace H := Option.bind_eq_some_iff.mp H
     obtain ⟨t236, A70, H⟩ := H
     (try dsimp only at H)
     have A7 := Aside0.mk A70
     clear A70
     obtain rfl := Option.some.inj H
     go_enter Tryd.func53, Tryd.ntmps53
     go_wp2_with (first | ((with_reducible refine gate_dst (N := 2) rfl ?_); refine box_event ?hg (N := 2) ?hd (cs := #[.int .i64 a0_0, .string a0_1, .slice A0_2 l0_2.length c0_2, .int .i64 a0_3, .string a0_4]) (t := 47) ?hr ?_; (case hd => rfl); (case hg => rfl); (case hr => first | (go_simp; done) | (go_simp; rfl)); intro gb234 hg w8 hbox hb; have n0_ := Aside0.mk (below_step (bq47) hb); have n1_ := Aside0.mk (hbox); have n2_ := Aside0.mk ((bq33 : w.heap.size ≤ gb234)); have n3_ := Aside0.mk ((bq33 : w.heap.size ≤ gb234)); clear HB; have HB := n0_; have BK234 := n1_; have GW234 := n2_; have GE234 := n3_; clear n0_ n1_ n2_ n3_; clear hb hbox hg) | ((with_reducible refine gate_dst (N := 3) rfl ?_); refine box_event ?hg (N := 3) ?hd (cs := #[.int .i64 a1_0, .string a1_1, .slice A1_2 l1_2.length c1_2, .int .i64 a1_3, .string a1_4]) (t := 47) ?hr ?_; (case hd => rfl); (case hg => rfl); (case hr => first | (go_simp; done) | (go_simp; rfl)); intro gb235 hg w9 hbox hb; have n0_ := Aside0.mk (blkB BK234.out hb); have n1_ := Aside0.mk (below_step (bq37) hb); have n2_ := Aside0.mk (hbox); have n3_ := Aside0.mk ((bq17 : w.heap.size ≤ gb235)); have n4_ := Aside0.mk ((bq17 : w.heap.size ≤ gb235)); have n5_ := Aside0.mk ((bq76 : gb234 ≠ gb235)); have n6_ := Aside0.mk ((bq77 : gb235 ≠ gb234)); clear BK234; clear HB; have BK234 := n0_; have HB := n1_; have BK235 := n2_; have GW235 := n3_; have GE235 := n4_; have NB234_235 := n5_; have NB235_234 := n6_; clear n0_ n1_ n2_ n3_ n4_ n5_ n6_; clear hb hbox hg; have hnb10 := NB234_235.out; have hnc10 := NB235_234.out; obtain ⟨hcz11_0, hcz11_1, hcz11_2, hcz11_3, hcz11_4, hfz11_0, hfz11_1, hfz11_2, hfz11_3, hfz11_4⟩ := bk5 BK234.out; obtain ⟨hcz12_0, hcz12_1, hcz12_2, hcz12_3, hcz12_4, hfz12_0, hfz12_1, hfz12_2, hfz12_3, hfz12_4⟩ := bk5 BK235.out) | (go_at_call 64; (with_reducible refine (slices_Equal_int_int.calls k _ _ l0_2 _ _ l1_2 t236 _ ?side1 ?side2 ?side3 ?side4 A7.out).mono ?_); (case side1 => repeat (first | exact (Kd.C_below HR0_2.out HB.out) | (with_reducible refine Kd.C_alloc ?_ _) | (with_reducible refine Kd.C_drewN ?_ _) | (with_reducible refine Kd.C_drew ?_))); (case side2 => exact HC0_2.out); (case side3 => repeat (first | exact (Kd.C_below HR1_2.out HB.out) | (with_reducible refine Kd.C_alloc ?_ _) | (with_reducible refine Kd.C_drewN ?_ _) | (with_reducible refine Kd.C_drew ?_))); (case side4 => exact HC1_2.out); rintro e w' ⟨rfl, ⟨nd, rfl⟩⟩))
     go_ret
     exact ⟨by first | rfl | (simp [errW_none, errW_some] <;> rfl) | (simp [*, errW_none, errW_some] <;> rfl), by repeat (first | (with_reducible first | exact HB.out | apply below_alloc | apply pw_below_drewN | apply below_drew1 | refine below_set ?_ GE234.out | refine below_set ?_ GE235.out) | exact HB.out)⟩
    ·rw [if_neg c6] at H
     have c6b0 : (a0_4.toList == a1_4.toList) = false := beq_eq_false_iff_ne.mpr c6
     have c6b1 : (a0_4.toList != a1_4.toList) = true := bne_iff_ne.mpr c6
     obtain rfl := Option.some.inj H
     go_enter Tryd.func53, Tryd.ntmps53
     go_wp2_with (first | ((with_reducible refine gate_dst (N := 2) rfl ?_); refine box_event ?hg (N := 2) ?hd (cs := #[.int .i64 a0_0, .string a0_1, .slice A0_2 l0_2.length c0_2, .int .i64 a0_3, .string a0_4]) (t := 47) ?hr ?_; (case hd => rfl); (case hg => rfl); (case hr => first | (go_simp; done) | (go_simp; rfl)); intro gb234 hg w13 hbox hb; have n0_ := Aside0.mk (below_step (bq47) hb); have n1_ := Aside0.mk (hbox); have n2_ := Aside0.mk ((bq33 : w.heap.size ≤ gb234)); have n3_ := Aside0.mk ((bq33 : w.heap.size ≤ gb234)); clear HB; have HB := n0_; have BK234 := n1_; have GW234 := n2_; have GE234 := n3_; clear n0_ n1_ n2_ n3_; clear hb hbox hg) | ((with_reducible refine gate_dst (N := 3) rfl ?_); refine box_event ?hg (N := 3) ?hd (cs := #[.int .i64 a1_0, .string a1_1, .slice A1_2 l1_2.length c1_2, .int .i64 a1_3, .string a1_4]) (t := 47) ?hr ?_; (case hd => rfl); (case hg => rfl); (case hr => first | (go_simp; done) | (go_simp; rfl)); intro gb235 hg w14 hbox hb; have n0_ := Aside0.mk (blkB BK234.out hb); have n1_ := Aside0.mk (below_step (bq37) hb); have n2_ := Aside0.mk (hbox); have n3_ := Aside0.mk ((bq17 : w.heap.size ≤ gb235)); have n4_ := Aside0.mk ((bq17 : w.heap.size ≤ gb235)); have n5_ := Aside0.mk ((bq76 : gb234 ≠ gb235)); have n6_ := Aside0.mk ((bq77 : gb235 ≠ gb234)); clear BK234; clear HB; have BK234 := n0_; have HB := n1_; have BK235 := n2_; have GW235 := n3_; have GE235 := n4_; have NB234_235 := n5_; have NB235_234 := n6_; clear n0_ n1_ n2_ n3_ n4_ n5_ n6_; clear hb hbox hg; have hnb15 := NB234_235.out; have hnc15 := NB235_234.out; obtain ⟨hcz16_0, hcz16_1, hcz16_2, hcz16_3, hcz16_4, hfz16_0, hfz16_1, hfz16_2, hfz16_3, hfz16_4⟩ := bk5 BK234.out; obtain ⟨hcz17_0, hcz17_1, hcz17_2, hcz17_3, hcz17_4, hfz17_0, hfz17_1, hfz17_2, hfz17_3, hfz17_4⟩ := bk5 BK235.out))
     go_ret
     exact ⟨by first | rfl | (simp [errW_none, errW_some] <;> rfl) | (simp [*, errW_none, errW_some] <;> rfl), by repeat (first | (with_reducible first | exact HB.out | apply below_alloc | apply pw_below_drewN | apply below_drew1 | refine below_set ?_ GE234.out | refine below_set ?_ GE235.out) | exact HB.out)⟩
   ·rw [if_neg c5] at H
    have c5b0 : (a0_3 == a1_3) = false := beq_eq_false_iff_ne.mpr c5
    have c5b1 : (a0_3 != a1_3) = true := bne_iff_ne.mpr c5
    obtain rfl := Option.some.inj H
    go_enter Tryd.func53, Tryd.ntmps53
    go_wp2_with (first | ((with_reducible refine gate_dst (N := 2) rfl ?_); refine box_event ?hg (N := 2) ?hd (cs := #[.int .i64 a0_0, .string a0_1, .slice A0_2 l0_2.length c0_2, .int .i64 a0_3, .string a0_4]) (t := 47) ?hr ?_; (case hd => rfl); (case hg => rfl); (case hr => first | (go_simp; done) | (go_simp; rfl)); intro gb234 hg w18 hbox hb; have n0_ := Aside0.mk (below_step (bq47) hb); have n1_ := Aside0.mk (hbox); have n2_ := Aside0.mk ((bq33 : w.heap.size ≤ gb234)); have n3_ := Aside0.mk ((bq33 : w.heap.size ≤ gb234)); clear HB; have HB := n0_; have BK234 := n1_; have GW234 := n2_; have GE234 := n3_; clear n0_ n1_ n2_ n3_; clear hb hbox hg) | ((with_reducible refine gate_dst (N := 3) rfl ?_); refine box_event ?hg (N := 3) ?hd (cs := #[.int .i64 a1_0, .string a1_1, .slice A1_2 l1_2.length c1_2, .int .i64 a1_3, .string a1_4]) (t := 47) ?hr ?_; (case hd => rfl); (case hg => rfl); (case hr => first | (go_simp; done) | (go_simp; rfl)); intro gb235 hg w19 hbox hb; have n0_ := Aside0.mk (blkB BK234.out hb); have n1_ := Aside0.mk (below_step (bq37) hb); have n2_ := Aside0.mk (hbox); have n3_ := Aside0.mk ((bq17 : w.heap.size ≤ gb235)); have n4_ := Aside0.mk ((bq17 : w.heap.size ≤ gb235)); have n5_ := Aside0.mk ((bq76 : gb234 ≠ gb235)); have n6_ := Aside0.mk ((bq77 : gb235 ≠ gb234)); clear BK234; clear HB; have BK234 := n0_; have HB := n1_; have BK235 := n2_; have GW235 := n3_; have GE235 := n4_; have NB234_235 := n5_; have NB235_234 := n6_; clear n0_ n1_ n2_ n3_ n4_ n5_ n6_; clear hb hbox hg; have hnb20 := NB234_235.out; have hnc20 := NB235_234.out; obtain ⟨hcz21_0, hcz21_1, hcz21_2, hcz21_3, hcz21_4, hfz21_0, hfz21_1, hfz21_2, hfz21_3, hfz21_4⟩ := bk5 BK234.out; obtain ⟨hcz22_0, hcz22_1, hcz22_2, hcz22_3, hcz22_4, hfz22_0, hfz22_1, hfz22_2, hfz22_3, hfz22_4⟩ := bk5 BK235.out))
    go_ret
    exact ⟨by first | rfl | (simp [errW_none, errW_some] <;> rfl) | (simp [*, errW_none, errW_some] <;> rfl), by repeat (first | (with_reducible first | exact HB.out | apply below_alloc | apply pw_below_drewN | apply below_drew1 | refine below_set ?_ GE234.out | refine below_set ?_ GE235.out) | exact HB.out)⟩
  ·rw [if_neg c4] at H
   have c4b0 : (a0_1.toList == a1_1.toList) = false := beq_eq_false_iff_ne.mpr c4
   have c4b1 : (a0_1.toList != a1_1.toList) = true := bne_iff_ne.mpr c4
   obtain rfl := Option.some.inj H
   go_enter Tryd.func53, Tryd.ntmps53
   go_wp2_with (first | ((with_reducible refine gate_dst (N := 2) rfl ?_); refine box_event ?hg (N := 2) ?hd (cs := #[.int .i64 a0_0, .string a0_1, .slice A0_2 l0_2.length c0_2, .int .i64 a0_3, .string a0_4]) (t := 47) ?hr ?_; (case hd => rfl); (case hg => rfl); (case hr => first | (go_simp; done) | (go_simp; rfl)); intro gb234 hg w23 hbox hb; have n0_ := Aside0.mk (below_step (bq47) hb); have n1_ := Aside0.mk (hbox); have n2_ := Aside0.mk ((bq33 : w.heap.size ≤ gb234)); have n3_ := Aside0.mk ((bq33 : w.heap.size ≤ gb234)); clear HB; have HB := n0_; have BK234 := n1_; have GW234 := n2_; have GE234 := n3_; clear n0_ n1_ n2_ n3_; clear hb hbox hg) | ((with_reducible refine gate_dst (N := 3) rfl ?_); refine box_event ?hg (N := 3) ?hd (cs := #[.int .i64 a1_0, .string a1_1, .slice A1_2 l1_2.length c1_2, .int .i64 a1_3, .string a1_4]) (t := 47) ?hr ?_; (case hd => rfl); (case hg => rfl); (case hr => first | (go_simp; done) | (go_simp; rfl)); intro gb235 hg w24 hbox hb; have n0_ := Aside0.mk (blkB BK234.out hb); have n1_ := Aside0.mk (below_step (bq37) hb); have n2_ := Aside0.mk (hbox); have n3_ := Aside0.mk ((bq17 : w.heap.size ≤ gb235)); have n4_ := Aside0.mk ((bq17 : w.heap.size ≤ gb235)); have n5_ := Aside0.mk ((bq76 : gb234 ≠ gb235)); have n6_ := Aside0.mk ((bq77 : gb235 ≠ gb234)); clear BK234; clear HB; have BK234 := n0_; have HB := n1_; have BK235 := n2_; have GW235 := n3_; have GE235 := n4_; have NB234_235 := n5_; have NB235_234 := n6_; clear n0_ n1_ n2_ n3_ n4_ n5_ n6_; clear hb hbox hg; have hnb25 := NB234_235.out; have hnc25 := NB235_234.out; obtain ⟨hcz26_0, hcz26_1, hcz26_2, hcz26_3, hcz26_4, hfz26_0, hfz26_1, hfz26_2, hfz26_3, hfz26_4⟩ := bk5 BK234.out; obtain ⟨hcz27_0, hcz27_1, hcz27_2, hcz27_3, hcz27_4, hfz27_0, hfz27_1, hfz27_2, hfz27_3, hfz27_4⟩ := bk5 BK235.out))
   go_ret
   exact ⟨by first | rfl | (simp [errW_none, errW_some] <;> rfl) | (simp [*, errW_none, errW_some] <;> rfl), by repeat (first | (with_reducible first | exact HB.out | apply below_alloc | apply pw_below_drewN | apply below_drew1 | refine below_set ?_ GE234.out | refine below_set ?_ GE235.out) | exact HB.out)⟩
 ·rw [if_neg c3] at H
  have c3b0 : (a0_0 == a1_0) = false := beq_eq_false_iff_ne.mpr c3
  have c3b1 : (a0_0 != a1_0) = true := bne_iff_ne.mpr c3
  obtain rfl := Option.some.inj H
  go_enter Tryd.func53, Tryd.ntmps53
  go_wp2_with (first | ((with_reducible refine gate_dst (N := 2) rfl ?_); refine box_event ?hg (N := 2) ?hd (cs := #[.int .i64 a0_0, .string a0_1, .slice A0_2 l0_2.length c0_2, .int .i64 a0_3, .string a0_4]) (t := 47) ?hr ?_; (case hd => rfl); (case hg => rfl); (case hr => first | (go_simp; done) | (go_simp; rfl)); intro gb234 hg w28 hbox hb; have n0_ := Aside0.mk (below_step (bq47) hb); have n1_ := Aside0.mk (hbox); have n2_ := Aside0.mk ((bq33 : w.heap.size ≤ gb234)); have n3_ := Aside0.mk ((bq33 : w.heap.size ≤ gb234)); clear HB; have HB := n0_; have BK234 := n1_; have GW234 := n2_; have GE234 := n3_; clear n0_ n1_ n2_ n3_; clear hb hbox hg) | ((with_reducible refine gate_dst (N := 3) rfl ?_); refine box_event ?hg (N := 3) ?hd (cs := #[.int .i64 a1_0, .string a1_1, .slice A1_2 l1_2.length c1_2, .int .i64 a1_3, .string a1_4]) (t := 47) ?hr ?_; (case hd => rfl); (case hg => rfl); (case hr => first | (go_simp; done) | (go_simp; rfl)); intro gb235 hg w29 hbox hb; have n0_ := Aside0.mk (blkB BK234.out hb); have n1_ := Aside0.mk (below_step (bq37) hb); have n2_ := Aside0.mk (hbox); have n3_ := Aside0.mk ((bq17 : w.heap.size ≤ gb235)); have n4_ := Aside0.mk ((bq17 : w.heap.size ≤ gb235)); have n5_ := Aside0.mk ((bq76 : gb234 ≠ gb235)); have n6_ := Aside0.mk ((bq77 : gb235 ≠ gb234)); clear BK234; clear HB; have BK234 := n0_; have HB := n1_; have BK235 := n2_; have GW235 := n3_; have GE235 := n4_; have NB234_235 := n5_; have NB235_234 := n6_; clear n0_ n1_ n2_ n3_ n4_ n5_ n6_; clear hb hbox hg; have hnb30 := NB234_235.out; have hnc30 := NB235_234.out; obtain ⟨hcz31_0, hcz31_1, hcz31_2, hcz31_3, hcz31_4, hfz31_0, hfz31_1, hfz31_2, hfz31_3, hfz31_4⟩ := bk5 BK234.out; obtain ⟨hcz32_0, hcz32_1, hcz32_2, hcz32_3, hcz32_4, hfz32_0, hfz32_1, hfz32_2, hfz32_3, hfz32_4⟩ := bk5 BK235.out))
  go_ret
  exact ⟨by first | rfl | (simp [errW_none, errW_some] <;> rfl) | (simp [*, errW_none, errW_some] <;> rfl), by repeat (first | (with_reducible first | exact HB.out | apply below_alloc | apply pw_below_drewN | apply below_drew1 | refine below_set ?_ GE234.out | refine below_set ?_ GE235.out) | exact HB.out)⟩

end Go.Proofs.YtkiiojgaaoaipaaDoor.Q

namespace Go.Proofs.YtkiiojgaaoaipaaDoor.Q
open Go.RowKit Go.Proofs.YtkiiojgaaoaipaaDoorW.PrintWords Go.Proofs.YtkiiojgaaoaipaaDoorW.PrintLast Go.Proofs.YtkiiojgaaoaipaaDoorW.PrintMore
attribute [local go_sem] max2_int min2_int max_two min_two max_three min_three max_four min_four   -- for this text's walks alone
set_option linter.unusedVariables false
set_option linter.unusedSimpArgs false

theorem eqA51 (d : Nat) (w : World) (x0 y0 : Int) (x1 y1 : Int) :
  (Op.equalIn (d + 2) 51 (.agg #[.int .i64 x0, .int .i64 x1]) (.agg #[.int .i64 y0, .int .i64 y1])).run Tryd.prog w = .ok (x0 == y0 && (x1 == y1)) w := by
 have hs : (Tryd.prog.info? 3).isSome = true := by kernel_rfl
 obtain ⟨i, hi⟩ := Option.isSome_iff_exists.mp hs
 have hc : Tryd.prog.cellsOf 3 = 1 := by kernel_rfl
 have h1 : ∀ a b : Int, (Op.equalIn (d + 1) 3 (.int .i64 a) (.int .i64 b)).run Tryd.prog w = .ok (a == b) w := fun a b => by go_simp
 have p0 : ∀ a b : Int, (part 3 #[.int .i64 a, .int .i64 b] 0).run Tryd.prog w = .ok (.int .i64 a) w := fun a b => by go_simp
 have p1 : ∀ a b : Int, (part 3 #[.int .i64 a, .int .i64 b] 1).run Tryd.prog w = .ok (.int .i64 b) w := fun a b => by go_simp
 rw [Go.run_equalIn_array w (d + 1) _ _ Tryd.underlying51 hi, hc]
 show (Op.eqItems (d + 1) 3 1 _ _ [0, 1]).run Tryd.prog w = _
 simp only [Op.eqItems, Sem.run_bind, Nat.zero_mul, Nat.one_mul, p0, h1, Result.andThen_ok]
 cases (x0 == y0)
 ·simp
 ·simp only [Bool.not_true, Bool.false_eq_true, if_false, Sem.run_bind, p1, h1, Result.andThen_ok]
  cases (x1 == y1) <;> simp
end Go.Proofs.YtkiiojgaaoaipaaDoor.Q

namespace Go.Proofs.YtkiiojgaaoaipaaDoor.Q
open Go.RowKit Go.Proofs.YtkiiojgaaoaipaaDoorW.PrintWords Go.Proofs.YtkiiojgaaoaipaaDoorW.PrintLast Go.Proofs.YtkiiojgaaoaipaaDoorW.PrintMore
attribute [local go_sem] max2_int min2_int max_two min_two max_three min_three max_four min_four   -- for this text's walks alone
set_option linter.unusedVariables false
set_option linter.unusedSimpArgs false

attribute [local go_sem high] eqA51
/-! ### ir_sameBlock: function 55 -/
def ir_sameBlock.f (k : Nat) (l0_0 : List Int) (a0_1 : Int) (a0_2 : Int) (a0_3 : Int) (a0_4 : Int) (l1_0 : List Int) (a1_1 : Int) (a1_2 : Int) (a1_3 : Int) (a1_4 : Int) : Option (Bool) := if a0_1 = a1_1 then (if a0_2 = a1_2 then (if (a0_3 == a1_3 && (a0_4 == a1_4)) = true then ((slices_Equal_int_int.f k l0_0 l1_0).bind fun t239 => (some t239)) else (some false)) else (some false)) else (some false)
theorem ir_sameBlock.mono : ∀ a0 a1 a2 a3 a4 a5 a6 a7 a8 a9 k, LeO (ir_sameBlock.f k a0 a1 a2 a3 a4 a5 a6 a7 a8 a9) (ir_sameBlock.f (k + 1) a0 a1 a2 a3 a4 a5 a6 a7 a8 a9) := by
 intro a0 a1 a2 a3 a4 a5 a6 a7 a8 a9 k
 unfold ir_sameBlock.f
 repeat' first
   | (with_reducible exact slices_Equal_int_int.mono _ _ _)
   | (with_reducible exact LeO.refl _)
   | (with_reducible exact LeO.none _)
   | (with_reducible refine LeO.ite ?_ ?_)
   | (with_reducible refine LeO.bind ?_ (fun _ => ?_))
   | exact slices_Equal_int_int.mono _ _ _
   | exact LeO.none _
   | refine LeO.ite ?_ ?_
   | refine LeO.bind ?_ (fun _ => ?_)
set_option maxHeartbeats 8000000 in
set_option maxRecDepth 100000 in
theorem ir_sameBlock.calls (k : Nat) (A0_0 : Option Addr) (c0_0 : Nat) (l0_0 : List Int) (a0_1 : Int) (a0_2 : Int) (a0_3 : Int) (a0_4 : Int) (A1_0 : Option Addr) (c1_0 : Nat) (l1_0 : List Int) (a1_1 : Int) (a1_2 : Int) (a1_3 : Int) (a1_4 : Int) (r : Bool) (w : World) (hr0_0 : Kd.C (Kd.int .i64) w A0_0 l0_0.length l0_0) (hc0_0 : l0_0.length ≤ c0_0) (hr1_0 : Kd.C (Kd.int .i64) w A1_0 l1_0.length l1_0) (hc1_0 : l1_0.length ≤ c1_0) (h : ir_sameBlock.f k l0_0 a0_1 a0_2 a0_3 a0_4 l1_0 a1_1 a1_2 a1_3 a1_4 = some r) :
  Calls Tryd.prog 55 #[.agg #[.slice A0_0 l0_0.length c0_0, .int .i64 a0_1, .int .i64 a0_2, .int .i64 a0_3, .int .i64 a0_4], .agg #[.slice A1_0 l1_0.length c1_0, .int .i64 a1_1, .int .i64 a1_2, .int .i64 a1_3, .int .i64 a1_4]] w fun e w' => e = .returned (.bool r) ∧ Below w.heap.size w w' := by
 have hu53 := Tryd.underlying53
 have hu51 := Tryd.underlying51
 have HR0_0 := Aside0.mk hr0_0
 have HC0_0 := Aside0.mk hc0_0
 clear hr0_0 hc0_0
 have HR1_0 := Aside0.mk hr1_0
 have HC1_0 := Aside0.mk hc1_0
 clear hr1_0 hc1_0
 have HB := Aside0.mk (Below.refl w.heap.size w)
 have H : (if a0_1 = a1_1 then (if a0_2 = a1_2 then (if (a0_3 == a1_3 && (a0_4 == a1_4)) = true then ((slices_Equal_int_int.f k l0_0 l1_0).bind fun t239 => (some t239)) else (some false)) else (some false)) else (some false)) = some r := h
 clear h
 by_cases c3 : a0_1 = a1_1
 ·rw [if_pos c3] at H
  have c3b0 : (a0_1 == a1_1) = true := beq_iff_eq.mpr c3
  have c3b1 : (a0_1 != a1_1) = false := bne_eq_false_iff_eq.mpr c3
  clear c3
  by_cases c4 : a0_2 = a1_2
  ·rw [if_pos c4] at H
   have c4b0 : (a0_2 == a1_2) = true := beq_iff_eq.mpr c4
   have c4b1 : (a0_2 != a1_2) = false := bne_eq_false_iff_eq.mpr c4
   clear c4
   by_cases c5 : (a0_3 == a1_3 && (a0_4 == a1_4)) = true
   ·rw [if_pos c5] at H
    have c5b0 : (a0_3 == a1_3 && (a0_4 == a1_4)) = true := c5
    (try (have c5b1 : decide (a0_3 = a1_3 && (a0_4 == a1_4)) = true := by simpa using c5))
    (try (have c5b2 : (a0_3 == a1_3 && (a0_4 == a1_4)) = true := by simpa using c5))
    clear c5
    replace H := Option.bind_eq_some_iff.mp H
    obtain ⟨t239, A60, H⟩ := H
    (try dsimp only at H)
    have A6 := Aside0.mk A60
    clear A60
    obtain rfl := Option.some.inj H
    go_enter Tryd.func55, Tryd.ntmps55
    go_wp2_with (first | ((with_reducible refine gate_dst (N := 2) rfl ?_); refine box_event ?hg (N := 2) ?hd (cs := #[.slice A0_0 l0_0.length c0_0, .int .i64 a0_1, .int .i64 a0_2, .int .i64 a0_3, .int .i64 a0_4]) (t := 53) ?hr ?_; (case hd => rfl); (case hg => rfl); (case hr => first | (go_simp; done) | (go_simp; rfl)); intro gb237 hg w7 hbox hb; have n0_ := Aside0.mk (below_step (bq47) hb); have n1_ := Aside0.mk (hbox); have n2_ := Aside0.mk ((bq33 : w.heap.size ≤ gb237)); have n3_ := Aside0.mk ((bq33 : w.heap.size ≤ gb237)); clear HB; have HB := n0_; have BK237 := n1_; have GW237 := n2_; have GE237 := n3_; clear n0_ n1_ n2_ n3_; clear hb hbox hg) | ((with_reducible refine gate_dst (N := 3) rfl ?_); refine box_event ?hg (N := 3) ?hd (cs := #[.slice A1_0 l1_0.length c1_0, .int .i64 a1_1, .int .i64 a1_2, .int .i64 a1_3, .int .i64 a1_4]) (t := 53) ?hr ?_; (case hd => rfl); (case hg => rfl); (case hr => first | (go_simp; done) | (go_simp; rfl)); intro gb238 hg w8 hbox hb; have n0_ := Aside0.mk (blkB BK237.out hb); have n1_ := Aside0.mk (below_step (bq38) hb); have n2_ := Aside0.mk (hbox); have n3_ := Aside0.mk ((bq18 : w.heap.size ≤ gb238)); have n4_ := Aside0.mk ((bq18 : w.heap.size ≤ gb238)); have n5_ := Aside0.mk ((bq78 : gb237 ≠ gb238)); have n6_ := Aside0.mk ((bq79 : gb238 ≠ gb237)); clear BK237; clear HB; have BK237 := n0_; have HB := n1_; have BK238 := n2_; have GW238 := n3_; have GE238 := n4_; have NB237_238 := n5_; have NB238_237 := n6_; clear n0_ n1_ n2_ n3_ n4_ n5_ n6_; clear hb hbox hg; have hnb9 := NB237_238.out; have hnc9 := NB238_237.out; obtain ⟨hcz10_0, hcz10_1, hcz10_2, hcz10_3, hcz10_4, hfz10_0, hfz10_1, hfz10_2, hfz10_3, hfz10_4⟩ := bk5 BK237.out; obtain ⟨hcz11_0, hcz11_1, hcz11_2, hcz11_3, hcz11_4, hfz11_0, hfz11_1, hfz11_2, hfz11_3, hfz11_4⟩ := bk5 BK238.out) | (go_at_call 64; (with_reducible refine (slices_Equal_int_int.calls k _ _ l0_0 _ _ l1_0 t239 _ ?side1 ?side2 ?side3 ?side4 A6.out).mono ?_); (case side1 => repeat (first | exact (Kd.C_below HR0_0.out HB.out) | (with_reducible refine Kd.C_alloc ?_ _) | (with_reducible refine Kd.C_drewN ?_ _) | (with_reducible refine Kd.C_drew ?_))); (case side2 => exact HC0_0.out); (case side3 => repeat (first | exact (Kd.C_below HR1_0.out HB.out) | (with_reducible refine Kd.C_alloc ?_ _) | (with_reducible refine Kd.C_drewN ?_ _) | (with_reducible refine Kd.C_drew ?_))); (case side4 => exact HC1_0.out); rintro e w' ⟨rfl, ⟨nd, rfl⟩⟩))
    go_ret
    exact ⟨by first | rfl | (simp [errW_none, errW_some] <;> rfl) | (simp [*, errW_none, errW_some] <;> rfl), by repeat (first | (with_reducible first | exact HB.out | apply below_alloc | apply pw_below_drewN | apply below_drew1 | refine below_set ?_ GE237.out | refine below_set ?_ GE238.out) | exact HB.out)⟩
   ·rw [if_neg c5] at H
    have c5b0 : (a0_3 == a1_3 && (a0_4 == a1_4)) = false := by simpa using c5
    (try (have c5b1 : decide (a0_3 = a1_3 && (a0_4 == a1_4)) = false := by simpa using c5))
    (try (have c5b2 : (a0_3 == a1_3 && (a0_4 == a1_4)) = false := by simpa using c5))
    (try (have c5b3 : ¬ (a0_3 = a1_3 && (a0_4 == a1_4)) := by simpa using c5))
    clear c5
    obtain rfl := Option.some.inj H
    go_enter Tryd.func55, Tryd.ntmps55
    go_wp2_with (first | ((with_reducible refine gate_dst (N := 2) rfl ?_); refine box_event ?hg (N := 2) ?hd (cs := #[.slice A0_0 l0_0.length c0_0, .int .i64 a0_1, .int .i64 a0_2, .int .i64 a0_3, .int .i64 a0_4]) (t := 53) ?hr ?_; (case hd => rfl); (case hg => rfl); (case hr => first | (go_simp; done) | (go_simp; rfl)); intro gb237 hg w12 hbox hb; have n0_ := Aside0.mk (below_step (bq47) hb); have n1_ := Aside0.mk (hbox); have n2_ := Aside0.mk ((bq33 : w.heap.size ≤ gb237)); have n3_ := Aside0.mk ((bq33 : w.heap.size ≤ gb237)); clear HB; have HB := n0_; have BK237 := n1_; have GW237 := n2_; have GE237 := n3_; clear n0_ n1_ n2_ n3_; clear hb hbox hg) | ((with_reducible refine gate_dst (N := 3) rfl ?_); refine box_event ?hg (N := 3) ?hd (cs := #[.slice A1_0 l1_0.length c1_0, .int .i64 a1_1, .int .i64 a1_2, .int .i64 a1_3, .int .i64 a1_4]) (t := 53) ?hr ?_; (case hd => rfl); (case hg => rfl); (case hr => first | (go_simp; done) | (go_simp; rfl)); intro gb238 hg w13 hbox hb; have n0_ := Aside0.mk (blkB BK237.out hb); have n1_ := Aside0.mk (below_step (bq38) hb); have n2_ := Aside0.mk (hbox); have n3_ := Aside0.mk ((bq18 : w.heap.size ≤ gb238)); have n4_ := Aside0.mk ((bq18 : w.heap.size ≤ gb238)); have n5_ := Aside0.mk ((bq78 : gb237 ≠ gb238)); have n6_ := Aside0.mk ((bq79 : gb238 ≠ gb237)); clear BK237; clear HB; have BK237 := n0_; have HB := n1_; have BK238 := n2_; have GW238 := n3_; have GE238 := n4_; have NB237_238 := n5_; have NB238_237 := n6_; clear n0_ n1_ n2_ n3_ n4_ n5_ n6_; clear hb hbox hg; have hnb14 := NB237_238.out; have hnc14 := NB238_237.out; obtain ⟨hcz15_0, hcz15_1, hcz15_2, hcz15_3, hcz15_4, hfz15_0, hfz15_1, hfz15_2, hfz15_3, hfz15_4⟩ := bk5 BK237.out; obtain ⟨hcz16_0, hcz16_1, hcz16_2, hcz16_3, hcz16_4, hfz16_0, hfz16_1, hfz16_2, hfz16_3, hfz16_4⟩ := bk5 BK238.out))
    go_ret
    exact ⟨by first | rfl | (simp [errW_none, errW_some] <;> rfl) | (simp [*, errW_none, errW_some] <;> rfl), by repeat (first | (with_reducible first | exact HB.out | apply below_alloc | apply pw_below_drewN | apply below_drew1 | refine below_set ?_ GE237.out | refine below_set ?_ GE238.out) | exact HB.out)⟩
  ·rw [if_neg c4] at H
   have c4b0 : (a0_2 == a1_2) = false := beq_eq_false_iff_ne.mpr c4
   have c4b1 : (a0_2 != a1_2) = true := bne_iff_ne.mpr c4
   obtain rfl := Option.some.inj H
   go_enter Tryd.func55, Tryd.ntmps55
   go_wp2_with (first | ((with_reducible refine gate_dst (N := 2) rfl ?_); refine box_event ?hg (N := 2) ?hd (cs := #[.slice A0_0 l0_0.length c0_0, .int .i64 a0_1, .int .i64 a0_2, .int .i64 a0_3, .int .i64 a0_4]) (t := 53) ?hr ?_; (case hd => rfl); (case hg => rfl); (case hr => first | (go_simp; done) | (go_simp; rfl)); intro gb237 hg w17 hbox hb; have n0_ := Aside0.mk (below_step (bq47) hb); have n1_ := Aside0.mk (hbox); have n2_ := Aside0.mk ((bq33 : w.heap.size ≤ gb237)); have n3_ := Aside0.mk ((bq33 : w.heap.size ≤ gb237)); clear HB; have HB := n0_; have BK237 := n1_; have GW237 := n2_; have GE237 := n3_; clear n0_ n1_ n2_ n3_; clear hb hbox hg) | ((with_reducible refine gate_dst (N := 3) rfl ?_); refine box_event ?hg (N := 3) ?hd (cs := #[.slice A1_0 l1_0.length c1_0, .int .i64 a1_1, .int .i64 a1_2, .int .i64 a1_3, .int .i64 a1_4]) (t := 53) ?hr ?_; (case hd => rfl); (case hg => rfl); (case hr => first | (go_simp; done) | (go_simp; rfl)); intro gb238 hg w18 hbox hb; have n0_ := Aside0.mk (blkB BK237.out hb); have n1_ := Aside0.mk (below_step (bq38) hb); have n2_ := Aside0.mk (hbox); have n3_ := Aside0.mk ((bq18 : w.heap.size ≤ gb238)); have n4_ := Aside0.mk ((bq18 : w.heap.size ≤ gb238)); have n5_ := Aside0.mk ((bq78 : gb237 ≠ gb238)); have n6_ := Aside0.mk ((bq79 : gb238 ≠ gb237)); clear BK237; clear HB; have BK237 := n0_; have HB := n1_; have BK238 := n2_; have GW238 := n3_; have GE238 := n4_; have NB237_238 := n5_; have NB238_237 := n6_; clear n0_ n1_ n2_ n3_ n4_ n5_ n6_; clear hb hbox hg; have hnb19 := NB237_238.out; have hnc19 := NB238_237.out; obtain ⟨hcz20_0, hcz20_1, hcz20_2, hcz20_3, hcz20_4, hfz20_0, hfz20_1, hfz20_2, hfz20_3, hfz20_4⟩ := bk5 BK237.out; obtain ⟨hcz21_0, hcz21_1, hcz21_2, hcz21_3, hcz21_4, hfz21_0, hfz21_1, hfz21_2, hfz21_3, hfz21_4⟩ := bk5 BK238.out))
   go_ret
   exact ⟨by first | rfl | (simp [errW_none, errW_some] <;> rfl) | (simp [*, errW_none, errW_some] <;> rfl), by repeat (first | (with_reducible first | exact HB.out | apply below_alloc | apply pw_below_drewN | apply below_drew1 | refine below_set ?_ GE237.out | refine below_set ?_ GE238.out) | exact HB.out)⟩
 ·rw [if_neg c3] at H
  have c3b0 : (a0_1 == a1_1) = false := beq_eq_false_iff_ne.mpr c3
  have c3b1 : (a0_1 != a1_1) = true := bne_iff_ne.mpr c3
  obtain rfl := Option.some.inj H
  go_enter Tryd.func55, Tryd.ntmps55
  go_wp2_with (first | ((with_reducible refine gate_dst (N := 2) rfl ?_); refine box_event ?hg (N := 2) ?hd (cs := #[.slice A0_0 l0_0.length c0_0, .int .i64 a0_1, .int .i64 a0_2, .int .i64 a0_3, .int .i64 a0_4]) (t := 53) ?hr ?_; (case hd => rfl); (case hg => rfl); (case hr => first | (go_simp; done) | (go_simp; rfl)); intro gb237 hg w22 hbox hb; have n0_ := Aside0.mk (below_step (bq47) hb); have n1_ := Aside0.mk (hbox); have n2_ := Aside0.mk ((bq33 : w.heap.size ≤ gb237)); have n3_ := Aside0.mk ((bq33 : w.heap.size ≤ gb237)); clear HB; have HB := n0_; have BK237 := n1_; have GW237 := n2_; have GE237 := n3_; clear n0_ n1_ n2_ n3_; clear hb hbox hg) | ((with_reducible refine gate_dst (N := 3) rfl ?_); refine box_event ?hg (N := 3) ?hd (cs := #[.slice A1_0 l1_0.length c1_0, .int .i64 a1_1, .int .i64 a1_2, .int .i64 a1_3, .int .i64 a1_4]) (t := 53) ?hr ?_; (case hd => rfl); (case hg => rfl); (case hr => first | (go_simp; done) | (go_simp; rfl)); intro gb238 hg w23 hbox hb; have n0_ := Aside0.mk (blkB BK237.out hb); have n1_ := Aside0.mk (below_step (bq38) hb); have n2_ := Aside0.mk (hbox); have n3_ := Aside0.mk ((bq18 : w.heap.size ≤ gb238)); have n4_ := Aside0.mk ((bq18 : w.heap.size ≤ gb238)); have n5_ := Aside0.mk ((bq78 : gb237 ≠ gb238)); have n6_ := Aside0.mk ((bq79 : gb238 ≠ gb237)); clear BK237; clear HB; have BK237 := n0_; have HB := n1_; have BK238 := n2_; have GW238 := n3_; have GE238 := n4_; have NB237_238 := n5_; have NB238_237 := n6_; clear n0_ n1_ n2_ n3_ n4_ n5_ n6_; clear hb hbox hg; have hnb24 := NB237_238.out; have hnc24 := NB238_237.out; obtain ⟨hcz25_0, hcz25_1, hcz25_2, hcz25_3, hcz25_4, hfz25_0, hfz25_1, hfz25_2, hfz25_3, hfz25_4⟩ := bk5 BK237.out; obtain ⟨hcz26_0, hcz26_1, hcz26_2, hcz26_3, hcz26_4, hfz26_0, hfz26_1, hfz26_2, hfz26_3, hfz26_4⟩ := bk5 BK238.out))
  go_ret
  exact ⟨by first | rfl | (simp [errW_none, errW_some] <;> rfl) | (simp [*, errW_none, errW_some] <;> rfl), by repeat (first | (with_reducible first | exact HB.out | apply below_alloc | apply pw_below_drewN | apply below_drew1 | refine below_set ?_ GE237.out | refine below_set ?_ GE238.out) | exact HB.out)⟩

end Go.Proofs.YtkiiojgaaoaipaaDoor.Q

/- A map to bools as a set of keys: laws for the walk; and small words on rows. -/
namespace Go.Proofs.YtkiiojgaaoaipaaDoor.Q
open Go.RowKit Go.Proofs.YtkiiojgaaoaipaaDoorW.PrintWords Go.Proofs.YtkiiojgaaoaipaaDoorW.PrintLast Go.Proofs.YtkiiojgaaoaipaaDoorW.PrintMore
set_option linter.unusedVariables false
set_option linter.unusedSimpArgs false
open Go.Maps (Keyed)
section
variable {P : Program} {k e t : TypeId} {w w1 : World} {b : Nat} {S : List Lit}
end
theorem at_scalar {α : Type} {enc : α → Value} {h1 : ∀ x, (enc x).oneCell' = true} {w : World} {A : Option Addr} {n : Nat} {xs : List α} (h : Kd.C (Kd.scalar enc h1) w A n xs) (z : α) (k : Nat) (hk : k < n) : ∃ ad, A = some ad ∧ w.cell? (ad.add k) = some (enc (xs.getD k z)) := by
 obtain ⟨e1, e2, h⟩ := h
 obtain ⟨ad, ea, h⟩ := h (by omega)
 have hl : k < xs.length := by omega
 obtain ⟨c, hc, hK, hcell⟩ := h k _ (List.getElem?_eq_getElem hl)
 refine ⟨ad, ea, ?_⟩
 have hK' : c = [enc xs[k]] := hK
 subst hK'
 have := hcell 0 _ rfl
 have e : k * (Kd.scalar enc h1).sz + 0 = k := by show k * 1 + 0 = k; omega
 rw [e] at this
 rw [this, getD_at xs z hl]
theorem at_int {q : IntKind} {w : World} {A : Option Addr} {n : Nat} {xs : List Int} (h : Kd.C (Kd.int q) w A n xs) (k : Nat) (hk : k < n) : ∃ ad, A = some ad ∧ w.cell? (ad.add k) = some (.int q (xs.getD k 0)) := at_scalar (enc := Value.int q) h _ k hk
end Go.Proofs.YtkiiojgaaoaipaaDoor.Q


/- Whether instructions, blocks, functions are the same. -/

namespace Go.Proofs.YtkiiojgaaoaipaaDoor.Q
open Go.RowKit Go.Proofs.YtkiiojgaaoaipaaDoorW.PrintWords Go.Proofs.YtkiiojgaaoaipaaDoorW.PrintLast Go.Proofs.YtkiiojgaaoaipaaDoorW.PrintMore
set_option linter.unusedVariables false
set_option linter.unusedSimpArgs false
def eqL {α : Type} (eq : α → α → Bool) : List α → List α → Bool
 | [], [] => true
 | x :: xs, y :: ys => eq x y && eqL eq xs ys
 | _, _ => false
theorem eqL_iff {α : Type} {eq : α → α → Bool} (h : ∀ x y, eq x y = true ↔ x = y) : ∀ l l' : List α, eqL eq l l' = true ↔ l = l'
 | [], [] => by simp [eqL]
 | [], _ :: _ => by simp [eqL]
 | _ :: _, [] => by simp [eqL]
 | x :: xs, y :: ys => by simp only [eqL, Bool.and_eq_true, h, eqL_iff h xs ys, List.cons.injEq]
def eqT (a b : ByteArray) : Bool := a.toList == b.toList
theorem eqT_iff (a b : ByteArray) : eqT a b = true ↔ a = b := by
 unfold eqT
 rw [beq_iff_eq]
 exact ⟨bytes_eq, fun h => by rw [h]⟩
def eqI (x y : S47) : Bool := x.f0 == y.f0 && (eqT x.f1 y.f1 && (x.f3 == y.f3 && (eqT x.f4 y.f4 && x.f2 == y.f2)))
theorem eqI_iff (x y : S47) : eqI x y = true ↔ x = y := by
 cases x; cases y
 unfold eqI
 simp only [Bool.and_eq_true, beq_iff_eq, eqT_iff, S47.mk.injEq]
 constructor
 ·rintro ⟨h1, h2, h3, h4, h5⟩; exact ⟨h1, h2, h5, h3, h4⟩
 ·rintro ⟨h1, h2, h5, h3, h4⟩; exact ⟨h1, h2, h3, h4, h5⟩
def eqB (x y : S53) : Bool := x.f1 == y.f1 && (x.f2 == y.f2 && (x.f3.f0 == y.f3.f0 && (x.f3.f1 == y.f3.f1 && x.f0 == y.f0)))
theorem eqB_iff (x y : S53) : eqB x y = true ↔ x = y := by
 obtain ⟨x0, x1, x2, ⟨x3, x4⟩⟩ := x
 obtain ⟨y0, y1, y2, ⟨y3, y4⟩⟩ := y
 unfold eqB
 simp only [Bool.and_eq_true, beq_iff_eq, S53.mk.injEq, S51.mk.injEq]
 constructor
 ·rintro ⟨h1, h2, h3, h4, h5⟩; exact ⟨h5, h1, h2, h3, h4⟩
 ·rintro ⟨h5, h1, h2, h3, h4⟩; exact ⟨h1, h2, h3, h4, h5⟩
def eqF (x y : S40) : Bool := eqT x.f0 y.f0 && (eqT x.f2 y.f2 && (eqL eqT x.f1 y.f1 && (eqL eqT x.f3 y.f3 && (eqL eqI x.f4 y.f4 && eqL eqB x.f5 y.f5))))
theorem eqF_iff (x y : S40) : eqF x y = true ↔ x = y := by
 cases x; cases y
 unfold eqF
 simp only [Bool.and_eq_true, eqT_iff, eqL_iff eqT_iff, eqL_iff eqI_iff, eqL_iff eqB_iff, S40.mk.injEq]
 constructor
 ·rintro ⟨h1, h2, h3, h4, h5, h6⟩; exact ⟨h1, h3, h2, h4, h5, h6⟩
 ·rintro ⟨h1, h3, h2, h4, h5, h6⟩; exact ⟨h1, h2, h3, h4, h5, h6⟩
theorem bool_dec {b : Bool} {p : Prop} (h : b = true ↔ p) : b = decB p := by
 cases b
 ·exact (decB_false (fun k => by have := h.mpr k; cases this)).symm
 ·exact (decB_true (h.mp rfl)).symm
theorem int_l (l l' : List Int) (hn : l.length = l'.length) (hm : l.length ≤ 9223372036854775807) (d : Nat) : ∀ (k i : Nat), i ≤ l.length → l.length - i = d → d < k →
  (∀ j : Nat, j < i → l.getD j 0 = l'.getD j 0) → slices_Equal_int_int.l0 k l l' (l.length : Int) (i : Int) = some (l == l') := by
 induction d with
 | zero =>
  intro k i h0 hd hk h
  obtain ⟨k, rfl⟩ : ∃ m, k = m + 1 := ⟨k - 1, by omega⟩
  simp only [slices_Equal_int_int.l0]; rw [if_neg (by omega), beq_iff_eq.mpr (lists_eq 0 hn (fun j hj => h j (by omega)))]
 | succ d ih =>
  intro k i h0 hd hk h
  obtain ⟨k, rfl⟩ : ∃ m, k = m + 1 := ⟨k - 1, by omega⟩
  simp only [slices_Equal_int_int.l0]
  rw [if_pos (by omega), if_pos (by omega), if_pos (by omega), if_pos (by omega)]
  by_cases e : rd l (i : Int) = rd l' (i : Int)
  ·rw [if_pos e, wrap_succ (by omega) (by omega)]
   unfold rd at e
   rw [Int.toNat_natCast] at e
   exact ih k (i + 1) (by omega) (by omega) (by omega) (all_succ h e)
  ·rw [if_neg e, beq_eq_false_iff_ne.mpr (fun q => e (by rw [q]))]
theorem int_same (l l' : List Int) (hm : l.length ≤ 9223372036854775807) : slices_Equal_int_int.f (l.length + 1) l l' = some (l == l') := by
 unfold slices_Equal_int_int.f
 by_cases hn : l.length = l'.length
 ·rw [if_pos (by omega)]
  exact int_l l l' hn hm l.length (l.length + 1) 0 (by omega) (by omega) (by omega) (fun j hj => absurd hj (by omega))
 ·rw [if_neg (by omega), beq_eq_false_iff_ne.mpr (fun e => hn (by rw [e]))]
theorem str_l (l l' : List ByteArray) (hn : l.length = l'.length) (hm : l.length ≤ 9223372036854775807) (d : Nat) : ∀ (k i : Nat), i ≤ l.length → l.length - i = d → d < k →
  (∀ j : Nat, j < i → l.getD j ByteArray.empty = l'.getD j ByteArray.empty) → slices_Equal_string_string.l0 k l l' (l.length : Int) (i : Int) = some (eqL eqT l l') := by
 induction d with
 | zero =>
  intro k i h0 hd hk h
  obtain ⟨k, rfl⟩ : ∃ m, k = m + 1 := ⟨k - 1, by omega⟩
  simp only [slices_Equal_string_string.l0]; rw [if_neg (by omega), (eqL_iff eqT_iff _ _).mpr (lists_eq ByteArray.empty hn (fun j hj => h j (by omega)))]
 | succ d ih =>
  intro k i h0 hd hk h
  obtain ⟨k, rfl⟩ : ∃ m, k = m + 1 := ⟨k - 1, by omega⟩
  simp only [slices_Equal_string_string.l0]
  rw [if_pos (by omega), if_pos (by omega), if_pos (by omega), if_pos (by omega)]
  by_cases e : (rdOf ByteArray.empty l (i : Int)).toList = (rdOf ByteArray.empty l' (i : Int)).toList
  ·rw [if_pos e, wrap_succ (by omega) (by omega)]
   have e := bytes_eq e
   unfold rdOf at e
   rw [Int.toNat_natCast] at e
   exact ih k (i + 1) (by omega) (by omega) (by omega) (all_succ h e)
  ·rw [if_neg e]
   congr 1
   refine (Bool.eq_false_iff.mpr (fun q => e ?_)).symm
   rw [(eqL_iff eqT_iff _ _).mp q]
theorem str_same (k : Nat) (l l' : List ByteArray) (hk : l.length < k) (hm : l.length ≤ 9223372036854775807) : slices_Equal_string_string.f k l l' = some (eqL eqT l l') := by
 unfold slices_Equal_string_string.f
 by_cases hn : l.length = l'.length
 ·rw [if_pos (by omega)]
  exact str_l l l' hn hm l.length k 0 (by omega) (by omega) (by omega) (fun j hj => absurd hj (by omega))
 ·rw [if_neg (by omega)]
  congr 1
  exact (Bool.eq_false_iff.mpr (fun q => hn (by rw [(eqL_iff eqT_iff _ _).mp q]))).symm
theorem sameI_eq (x y : S47) (hm : x.f2.length ≤ 9223372036854775807) : ir_sameIns.f (x.f2.length + 1) x.f0 x.f1 x.f2 x.f3 x.f4 y.f0 y.f1 y.f2 y.f3 y.f4 = some (eqI x y) := by
 unfold ir_sameIns.f eqI eqT
 by_cases h1 : x.f0 = y.f0
 ·rw [if_pos h1, beq_iff_eq.mpr h1, Bool.true_and]
  by_cases h2 : x.f1.toList = y.f1.toList
  ·rw [if_pos h2, beq_iff_eq.mpr h2, Bool.true_and]
   by_cases h3 : x.f3 = y.f3
   ·rw [if_pos h3, beq_iff_eq.mpr h3, Bool.true_and]
    by_cases h4 : x.f4.toList = y.f4.toList
    ·rw [if_pos h4, beq_iff_eq.mpr h4, Bool.true_and, int_same _ _ hm]; rfl
    ·rw [if_neg h4, beq_eq_false_iff_ne.mpr h4, Bool.false_and]
   ·rw [if_neg h3, beq_eq_false_iff_ne.mpr h3, Bool.false_and]
  ·rw [if_neg h2, beq_eq_false_iff_ne.mpr h2, Bool.false_and]
 ·rw [if_neg h1, beq_eq_false_iff_ne.mpr h1, Bool.false_and]
theorem sameB_eq (x y : S53) (hm : x.f0.length ≤ 9223372036854775807) : ir_sameBlock.f (x.f0.length + 1) x.f0 x.f1 x.f2 x.f3.f0 x.f3.f1 y.f0 y.f1 y.f2 y.f3.f0 y.f3.f1 = some (eqB x y) := by
 unfold ir_sameBlock.f eqB
 by_cases h1 : x.f1 = y.f1
 ·rw [if_pos h1, beq_iff_eq.mpr h1, Bool.true_and]
  by_cases h2 : x.f2 = y.f2
  ·rw [if_pos h2, beq_iff_eq.mpr h2, Bool.true_and, ← Bool.and_assoc]
   by_cases h3 : (x.f3.f0 == y.f3.f0 && x.f3.f1 == y.f3.f1) = true
   ·rw [if_pos h3, h3, Bool.true_and, int_same _ _ hm]; rfl
   ·rw [if_neg h3, Bool.eq_false_iff.mpr h3, Bool.false_and]
  ·rw [if_neg h2, beq_eq_false_iff_ne.mpr h2, Bool.false_and]
 ·rw [if_neg h1, beq_eq_false_iff_ne.mpr h1, Bool.false_and]
end Go.Proofs.YtkiiojgaaoaipaaDoor.Q

/- slices.EqualFunc at ir.sameIns, sameBlock, sameFun: by hand (tool/eqf.py). -/

namespace Go.Proofs.YtkiiojgaaoaipaaDoor.Q
open Go.RowKit Go.Proofs.YtkiiojgaaoaipaaDoorW.PrintWords Go.Proofs.YtkiiojgaaoaipaaDoorW.PrintLast Go.Proofs.YtkiiojgaaoaipaaDoorW.PrintMore
set_option linter.unusedVariables false
set_option linter.unusedSimpArgs false
set_option maxHeartbeats 1600000 in
theorem ins_eq (A0 : Option Addr) (c0 : Nat) (l0 : List (S47)) (A1 : Option Addr) (c1 : Nat) (l1 : List (S47)) (w : World) (hr0 : Kd.C k47 w A0 l0.length l0) (hc0 : l0.length ≤ c0) (hr1 : Kd.C k47 w A1 l1.length l1) (hc1 : l1.length ≤ c1) :
  Calls Tryd.prog 52 #[.slice A0 l0.length c0, .slice A1 l1.length c1, .func (.func 53) #[] #[]] w fun e w' => e = .returned (.bool (decB (l0 = l1))) ∧ Below w.heap.size w w' := by
 have hu := Tryd.underlying47
 have HR0 := Aside0.mk hr0; clear hr0
 have HR1 := Aside0.mk hr1; clear hr1
 have HM := Aside0.mk (Kd.C_max HR0.out)
 have hm := HM.out
 have hm1 := Kd.C_max HR1.out
 by_cases hn : l0.length = l1.length
 ·have hd : (l0.length == l1.length) = true := beq_iff_eq.mpr hn
  have hd2 : ((l0.length : Int) != (l1.length : Int)) = false := by rw [hn]; simp
  have HN := Aside0.mk hn; clear hn
  go_enter Tryd.func52, Tryd.ntmps52
  go_wp2_with fail
  go_loopw [7, 8, 9, 17] (fun _ _ _ v wr => ∃ k : Nat, v = .int .i64 k ∧ k ≤ l0.length ∧ Aside0 (∀ i : Nat, i < k → l0.getD i z47 = l1.getD i z47) ∧ Below w.heap.size w wr) (fun _ _ _ v _ => l0.length - (intOf v).toNat)
  case atStart => exact ⟨0, rfl, Nat.zero_le _, ⟨fun i h => absurd h (Nat.not_lt_zero _)⟩, Below.refl _ _⟩
  case round =>
   obtain ⟨k, rfl, hk, HA, hB⟩ := hrel
   by_cases hlt : k < l0.length
   ·have hlt1 : k < l1.length := by have := HN.out; omega
    obtain ⟨ad, A2, a2, e1, hx0, hx1, hx2, hx3, hx4, hl2, hi2⟩ := at_T47 (Kd.C_below HR0.out hB) (k : Int) (by omega) (by omega)
    obtain ⟨bd, B2, b2, e2, hy0, hy1, hy2, hy3, hy4, hm2, hj2⟩ := at_T47 (Kd.C_below HR1.out hB) (k : Int) (by omega) (by omega)
    cases e1
    cases e2
    obtain ⟨x, ex⟩ : ∃ x, x = rd_T47 l0 (k : Int) := ⟨_, rfl⟩
    obtain ⟨y, ey⟩ : ∃ y, y = rd_T47 l1 (k : Int) := ⟨_, rfl⟩
    rw [← ex] at hx0 hx1 hx2 hx3 hx4 hl2 hi2
    rw [← ey] at hy0 hy1 hy2 hy3 hy4 hm2 hj2
    simp only [Int.toNat_natCast] at hx0 hx1 hx2 hx3 hx4 hy0 hy1 hy2 hy3 hy4
    have EX : Aside0 (x = l0.getD k z47) := ⟨by rw [ex]; unfold rd_T47; rw [Int.toNat_natCast]⟩
    have EY : Aside0 (y = l1.getD k z47) := ⟨by rw [ey]; unfold rd_T47; rw [Int.toNat_natCast]⟩
    clear ex ey
    have hz0 := pw_cell_below (below_alloc (Below.refl wr.heap.size wr) (.cells #[.int .i64 x.f0, .string x.f1, .slice A2 x.f2.length a2, .int .i64 x.f3, .string x.f4] 47)) hy0
    have hz1 := pw_cell_below (below_alloc (Below.refl wr.heap.size wr) (.cells #[.int .i64 x.f0, .string x.f1, .slice A2 x.f2.length a2, .int .i64 x.f3, .string x.f4] 47)) hy1
    have hz2 := pw_cell_below (below_alloc (Below.refl wr.heap.size wr) (.cells #[.int .i64 x.f0, .string x.f1, .slice A2 x.f2.length a2, .int .i64 x.f3, .string x.f4] 47)) hy2
    have hz3 := pw_cell_below (below_alloc (Below.refl wr.heap.size wr) (.cells #[.int .i64 x.f0, .string x.f1, .slice A2 x.f2.length a2, .int .i64 x.f3, .string x.f4] 47)) hy3
    have hz4 := pw_cell_below (below_alloc (Below.refl wr.heap.size wr) (.cells #[.int .i64 x.f0, .string x.f1, .slice A2 x.f2.length a2, .int .i64 x.f3, .string x.f4] 47)) hy4
    have HI2 := Aside0.mk hi2; have HJ2 := Aside0.mk hj2; have HL2 := Aside0.mk hl2; have HM2 := Aside0.mk hm2
    clear hi2 hj2 hl2 hm2
    go_wp2_with fail
    refine (ir_sameIns.calls (x.f2.length + 1) x.f0 x.f1 A2 a2 x.f2 x.f3 x.f4 y.f0 y.f1 B2 b2 y.f2 y.f3 y.f4 _ _ (Kd.C_alloc (Kd.C_alloc HI2.out _) _) HL2.out (Kd.C_alloc (Kd.C_alloc HJ2.out _) _) HM2.out (sameI_eq x y (Kd.C_max HI2.out))).mono ?_
    rintro e w1 ⟨rfl, hb1⟩
    have HB1 : Aside0 (Below w.heap.size w w1) := ⟨below_then (below_alloc (below_alloc hB _) _) (by have := hB.size; simp; omega) hb1⟩
    clear hb1 hx0 hx1 hx2 hx3 hx4 hy0 hy1 hy2 hy3 hy4 hz0 hz1 hz2 hz3 hz4 HI2 HJ2 HL2 HM2
    have hbd := bool_dec (eqI_iff x y)
    by_cases hxy : x = y
    ·rw [hbd, decB_true hxy]
     have HA1 : Aside0 (∀ i : Nat, i < k + 1 → l0.getD i z47 = l1.getD i z47) := ⟨all_succ HA.out (bq92)⟩
     clear hxy HA EX EY hbd
     go_wp2
     go_roundw
     case rel => exact ⟨k + 1, by go_num, by omega, HA1, HB1.out⟩
     case measure => simp [intOf]; omega
    ·rw [hbd, decB_false hxy]
     have HE : Aside0 (decB (l0 = l1) = false) := ⟨decB_false (fun e => hxy (by rw [EX.out, EY.out, e]))⟩
     clear hxy HA EX EY hbd
     go_wp2
     go_ret
     exact ⟨by rw [HE.out]; rfl, HB1.out⟩
   ·have HE : Aside0 (decB (l0 = l1) = true) := ⟨decB_true (lists_eq z47 HN.out (fun j hj => HA.out j (by omega)))⟩
    clear HA
    go_wp2
    go_ret
    exact ⟨by rw [HE.out]; rfl, hB⟩
 ·have hd : (l0.length == l1.length) = false := beq_eq_false_iff_ne.mpr hn
  have hd2 : ((l0.length : Int) != (l1.length : Int)) = true := by rw [bne_iff_ne]; omega
  have HE : Aside0 (decB (l0 = l1) = false) := ⟨decB_false (fun e => hn (by rw [e]))⟩
  clear hn
  go_enter Tryd.func52, Tryd.ntmps52
  go_wp2
  go_ret
  exact ⟨by rw [HE.out]; rfl, Below.refl _ _⟩
def api_Ins_ir_sameIns.f (l0 : List (S47)) (l1 : List (S47)) : Option (Bool) := some (eqL eqI l0 l1)
theorem api_Ins_ir_sameIns.calls (A0 : Option Addr) (c0 : Nat) (l0 : List (S47)) (A1 : Option Addr) (c1 : Nat) (l1 : List (S47)) (r : Bool) (w : World) (hr0 : Kd.C k47 w A0 l0.length l0) (hc0 : l0.length ≤ c0) (hr1 : Kd.C k47 w A1 l1.length l1) (hc1 : l1.length ≤ c1) (h : api_Ins_ir_sameIns.f l0 l1 = some r) :
  Calls Tryd.prog 52 #[.slice A0 l0.length c0, .slice A1 l1.length c1, .func (.func 53) #[] #[]] w fun e w' => e = .returned (.bool r) ∧ Below w.heap.size w w' := by
 unfold api_Ins_ir_sameIns.f at h
 rw [bool_dec (eqL_iff eqI_iff l0 l1)] at h
 obtain rfl := Option.some.inj h
 exact ins_eq A0 c0 l0 A1 c1 l1 w hr0 hc0 hr1 hc1
set_option maxHeartbeats 1600000 in
theorem block_eq (A0 : Option Addr) (c0 : Nat) (l0 : List (S53)) (A1 : Option Addr) (c1 : Nat) (l1 : List (S53)) (w : World) (hr0 : Kd.C k53 w A0 l0.length l0) (hc0 : l0.length ≤ c0) (hr1 : Kd.C k53 w A1 l1.length l1) (hc1 : l1.length ≤ c1) :
  Calls Tryd.prog 54 #[.slice A0 l0.length c0, .slice A1 l1.length c1, .func (.func 55) #[] #[]] w fun e w' => e = .returned (.bool (decB (l0 = l1))) ∧ Below w.heap.size w w' := by
 have hu := Tryd.underlying53
 have HR0 := Aside0.mk hr0; clear hr0
 have HR1 := Aside0.mk hr1; clear hr1
 have HM := Aside0.mk (Kd.C_max HR0.out)
 have hm := HM.out
 have hm1 := Kd.C_max HR1.out
 by_cases hn : l0.length = l1.length
 ·have hd : (l0.length == l1.length) = true := beq_iff_eq.mpr hn
  have hd2 : ((l0.length : Int) != (l1.length : Int)) = false := by rw [hn]; simp
  have HN := Aside0.mk hn; clear hn
  go_enter Tryd.func54, Tryd.ntmps54
  go_wp2_with fail
  go_loopw [7, 8, 9, 17] (fun _ _ _ v wr => ∃ k : Nat, v = .int .i64 k ∧ k ≤ l0.length ∧ Aside0 (∀ i : Nat, i < k → l0.getD i z53 = l1.getD i z53) ∧ Below w.heap.size w wr) (fun _ _ _ v _ => l0.length - (intOf v).toNat)
  case atStart => exact ⟨0, rfl, Nat.zero_le _, ⟨fun i h => absurd h (Nat.not_lt_zero _)⟩, Below.refl _ _⟩
  case round =>
   obtain ⟨k, rfl, hk, HA, hB⟩ := hrel
   by_cases hlt : k < l0.length
   ·have hlt1 : k < l1.length := by have := HN.out; omega
    obtain ⟨ad, A0, a0, e1, hx0, hx1, hx2, hx3, hx4, hl0, hi0⟩ := at_T53 (Kd.C_below HR0.out hB) (k : Int) (by omega) (by omega)
    obtain ⟨bd, B0, b0, e2, hy0, hy1, hy2, hy3, hy4, hm0, hj0⟩ := at_T53 (Kd.C_below HR1.out hB) (k : Int) (by omega) (by omega)
    cases e1
    cases e2
    obtain ⟨x, ex⟩ : ∃ x, x = rd_T53 l0 (k : Int) := ⟨_, rfl⟩
    obtain ⟨y, ey⟩ : ∃ y, y = rd_T53 l1 (k : Int) := ⟨_, rfl⟩
    rw [← ex] at hx0 hx1 hx2 hx3 hx4 hl0 hi0
    rw [← ey] at hy0 hy1 hy2 hy3 hy4 hm0 hj0
    simp only [Int.toNat_natCast] at hx0 hx1 hx2 hx3 hx4 hy0 hy1 hy2 hy3 hy4
    have EX : Aside0 (x = l0.getD k z53) := ⟨by rw [ex]; unfold rd_T53; rw [Int.toNat_natCast]⟩
    have EY : Aside0 (y = l1.getD k z53) := ⟨by rw [ey]; unfold rd_T53; rw [Int.toNat_natCast]⟩
    clear ex ey
    have hz0 := pw_cell_below (below_alloc (Below.refl wr.heap.size wr) (.cells #[.slice A0 x.f0.length a0, .int .i64 x.f1, .int .i64 x.f2, .int .i64 x.f3.f0, .int .i64 x.f3.f1] 53)) hy0
    have hz1 := pw_cell_below (below_alloc (Below.refl wr.heap.size wr) (.cells #[.slice A0 x.f0.length a0, .int .i64 x.f1, .int .i64 x.f2, .int .i64 x.f3.f0, .int .i64 x.f3.f1] 53)) hy1
    have hz2 := pw_cell_below (below_alloc (Below.refl wr.heap.size wr) (.cells #[.slice A0 x.f0.length a0, .int .i64 x.f1, .int .i64 x.f2, .int .i64 x.f3.f0, .int .i64 x.f3.f1] 53)) hy2
    have hz3 := pw_cell_below (below_alloc (Below.refl wr.heap.size wr) (.cells #[.slice A0 x.f0.length a0, .int .i64 x.f1, .int .i64 x.f2, .int .i64 x.f3.f0, .int .i64 x.f3.f1] 53)) hy3
    have hz4 := pw_cell_below (below_alloc (Below.refl wr.heap.size wr) (.cells #[.slice A0 x.f0.length a0, .int .i64 x.f1, .int .i64 x.f2, .int .i64 x.f3.f0, .int .i64 x.f3.f1] 53)) hy4
    have HI0 := Aside0.mk hi0; have HJ0 := Aside0.mk hj0; have HL0 := Aside0.mk hl0; have HM0 := Aside0.mk hm0
    clear hi0 hj0 hl0 hm0
    go_wp2_with fail
    refine (ir_sameBlock.calls (x.f0.length + 1) A0 a0 x.f0 x.f1 x.f2 x.f3.f0 x.f3.f1 B0 b0 y.f0 y.f1 y.f2 y.f3.f0 y.f3.f1 _ _ (Kd.C_alloc (Kd.C_alloc HI0.out _) _) HL0.out (Kd.C_alloc (Kd.C_alloc HJ0.out _) _) HM0.out (sameB_eq x y (Kd.C_max HI0.out))).mono ?_
    rintro e w1 ⟨rfl, hb1⟩
    have HB1 : Aside0 (Below w.heap.size w w1) := ⟨below_then (below_alloc (below_alloc hB _) _) (by have := hB.size; simp; omega) hb1⟩
    clear hb1 hx0 hx1 hx2 hx3 hx4 hy0 hy1 hy2 hy3 hy4 hz0 hz1 hz2 hz3 hz4 HI0 HJ0 HL0 HM0
    have hbd := bool_dec (eqB_iff x y)
    by_cases hxy : x = y
    ·rw [hbd, decB_true hxy]
     have HA1 : Aside0 (∀ i : Nat, i < k + 1 → l0.getD i z53 = l1.getD i z53) := ⟨all_succ HA.out (bq92)⟩
     clear hxy HA EX EY hbd
     go_wp2
     go_roundw
     case rel => exact ⟨k + 1, by go_num, by omega, HA1, HB1.out⟩
     case measure => simp [intOf]; omega
    ·rw [hbd, decB_false hxy]
     have HE : Aside0 (decB (l0 = l1) = false) := ⟨decB_false (fun e => hxy (by rw [EX.out, EY.out, e]))⟩
     clear hxy HA EX EY hbd
     go_wp2
     go_ret
     exact ⟨by rw [HE.out]; rfl, HB1.out⟩
   ·have HE : Aside0 (decB (l0 = l1) = true) := ⟨decB_true (lists_eq z53 HN.out (fun j hj => HA.out j (by omega)))⟩
    clear HA
    go_wp2
    go_ret
    exact ⟨by rw [HE.out]; rfl, hB⟩
 ·have hd : (l0.length == l1.length) = false := beq_eq_false_iff_ne.mpr hn
  have hd2 : ((l0.length : Int) != (l1.length : Int)) = true := by rw [bne_iff_ne]; omega
  have HE : Aside0 (decB (l0 = l1) = false) := ⟨decB_false (fun e => hn (by rw [e]))⟩
  clear hn
  go_enter Tryd.func54, Tryd.ntmps54
  go_wp2
  go_ret
  exact ⟨by rw [HE.out]; rfl, Below.refl _ _⟩
def api_Block_ir_sameBlock.f (l0 : List (S53)) (l1 : List (S53)) : Option (Bool) := some (eqL eqB l0 l1)
theorem api_Block_ir_sameBlock.calls (A0 : Option Addr) (c0 : Nat) (l0 : List (S53)) (A1 : Option Addr) (c1 : Nat) (l1 : List (S53)) (r : Bool) (w : World) (hr0 : Kd.C k53 w A0 l0.length l0) (hc0 : l0.length ≤ c0) (hr1 : Kd.C k53 w A1 l1.length l1) (hc1 : l1.length ≤ c1) (h : api_Block_ir_sameBlock.f l0 l1 = some r) :
  Calls Tryd.prog 54 #[.slice A0 l0.length c0, .slice A1 l1.length c1, .func (.func 55) #[] #[]] w fun e w' => e = .returned (.bool r) ∧ Below w.heap.size w w' := by
 unfold api_Block_ir_sameBlock.f at h
 rw [bool_dec (eqL_iff eqB_iff l0 l1)] at h
 obtain rfl := Option.some.inj h
 exact block_eq A0 c0 l0 A1 c1 l1 w hr0 hc0 hr1 hc1
end Go.Proofs.YtkiiojgaaoaipaaDoor.Q

