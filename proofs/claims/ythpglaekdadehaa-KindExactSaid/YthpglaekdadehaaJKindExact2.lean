/- What the row of KindExact rests on, part 2: contracts of the functions that it reaches, and the plain law. -/
import Derived.Test.YthpglaekdadehaaJKindExact1
namespace Go.Proofs.Ythpglaekdadehaa.Q
open Go.RowKit Go.Proofs.YthpglaekdadehaaW.PrintWords Go.Proofs.YthpglaekdadehaaW.PrintLast Go.Proofs.YthpglaekdadehaaW.PrintMore
attribute [local go_sem] max2_int min2_int max_two min_two max_three min_three max_four min_four   -- for this text's walks alone
set_option linter.unusedVariables false
set_option linter.unusedSimpArgs false

/-! ### truantref03_Reach: function 19 -/
mutual
def truantref03_Reach.j0 : Nat → List (S43) → List Bool → ByteArray → Bool → Option (List Bool)
 | 0, _, _, _, _ => none
 | k + 1, x0, x5, x6, x23 => if x23 = true then (some x5) else ((truantref03_Find.f k x0 x6).bind fun t225 => (if 0 ≤ t225 then (if t225 < (x5.length : Int) then (truantref03_Reach.l0 k x0 (x5.set (t225 : Int).toNat true) 0) else (none)) else (none)))
def truantref03_Reach.l0 : Nat → List (S43) → List Bool → Int → Option (List Bool)
 | 0, _, _, _ => none
 | k + 1, x0, x5, x7 => if x7 < (x0.length : Int) then (truantref03_Reach.l1 k x0 x5 x7 0) else (some x5)
def truantref03_Reach.l1 : Nat → List (S43) → List Bool → Int → Int → Option (List Bool)
 | 0, _, _, _, _ => none
 | k + 1, x0, x5, x7, x8 => if x8 < (x0.length : Int) then (truantref03_Reach.l2 k x0 x5 x7 x8 0) else (truantref03_Reach.l0 k x0 x5 (wrap64 (x7 + 1)))
def truantref03_Reach.l2 : Nat → List (S43) → List Bool → Int → Int → Int → Option (List Bool)
 | 0, _, _, _, _, _ => none
 | k + 1, x0, x5, x7, x8, x9 => if 0 ≤ x8 then (if x8 < (x5.length : Int) then (if rdOf false x5 x8 = true then (if x8 < (x0.length : Int) then (truantref03_Reach.j4 k x0 x5 x7 x8 x9 (decide (x9 < (((rd_T43 x0 x8).f1).length : Int)))) else (none)) else (truantref03_Reach.j4 k x0 x5 x7 x8 x9 false)) else (none)) else (none)
def truantref03_Reach.j4 : Nat → List (S43) → List Bool → Int → Int → Int → Bool → Option (List Bool)
 | 0, _, _, _, _, _, _ => none
 | k + 1, x0, x5, x7, x8, x9, x55 => if x55 = true then (if 0 ≤ x8 then (if x8 < (x0.length : Int) then (if 0 ≤ x9 then (if x9 < (((rd_T43 x0 x8).f1).length : Int) then ((truantref03_Elem.f k ((rd_T48 ((rd_T43 x0 x8).f1) x9).f1)).bind fun t231 => (if t231.toList = ([] : List UInt8) then (truantref03_Reach.l2 k x0 x5 x7 x8 (wrap64 (x9 + 1))) else ((truantref03_Find.f k x0 t231).bind fun t232 => (if t232 ≥ 0 then ((truantref03_Find.f k x0 t231).bind fun t233 => (if 0 ≤ t233 then (if t233 < (x5.length : Int) then (truantref03_Reach.l2 k x0 (x5.set (t233 : Int).toNat true) x7 x8 (wrap64 (x9 + 1))) else (none)) else (none))) else (truantref03_Reach.l2 k x0 x5 x7 x8 (wrap64 (x9 + 1))))))) else (none)) else (none)) else (none)) else (none)) else (truantref03_Reach.l1 k x0 x5 x7 (wrap64 (x8 + 1)))
end
def truantref03_Reach.f (k : Nat) (l0 : List (S43)) (a1 : ByteArray) : Option (List Bool) := if 0 ≤ (l0.length : Int) then (if ((l0.length : Int) : Int).toNat ≤ 281474976710656 then ((some (List.replicate ((l0.length : Int) : Int).toNat false : List Bool)).bind fun y220 => ((truantref03_Elem.f k a1).bind fun t223 => (if t223.toList = ([] : List UInt8) then (truantref03_Reach.j0 k l0 y220 t223 true) else ((truantref03_Find.f k l0 t223).bind fun t224 => (truantref03_Reach.j0 k l0 y220 t223 (decide (t224 < 0))))))) else (none)) else (none)
theorem truantref03_Reach.mono_l : ∀ k, (∀ y0 y1 y2 y3, LeO (truantref03_Reach.j0 k y0 y1 y2 y3) (truantref03_Reach.j0 (k + 1) y0 y1 y2 y3)) ∧ (∀ y0 y1 y2, LeO (truantref03_Reach.l0 k y0 y1 y2) (truantref03_Reach.l0 (k + 1) y0 y1 y2)) ∧ (∀ y0 y1 y2 y3, LeO (truantref03_Reach.l1 k y0 y1 y2 y3) (truantref03_Reach.l1 (k + 1) y0 y1 y2 y3)) ∧ (∀ y0 y1 y2 y3 y4, LeO (truantref03_Reach.l2 k y0 y1 y2 y3 y4) (truantref03_Reach.l2 (k + 1) y0 y1 y2 y3 y4)) ∧ (∀ y0 y1 y2 y3 y4 y5, LeO (truantref03_Reach.j4 k y0 y1 y2 y3 y4 y5) (truantref03_Reach.j4 (k + 1) y0 y1 y2 y3 y4 y5))
 | 0 => ⟨fun _ _ _ _ r h => by simp [truantref03_Reach.j0] at h, fun _ _ _ r h => by simp [truantref03_Reach.l0] at h, fun _ _ _ _ r h => by simp [truantref03_Reach.l1] at h, fun _ _ _ _ _ r h => by simp [truantref03_Reach.l2] at h, fun _ _ _ _ _ _ r h => by simp [truantref03_Reach.j4] at h⟩
 | k + 1 => by
  obtain ⟨ih0, ih1, ih2, ih3, ih4⟩ := truantref03_Reach.mono_l k
  refine ⟨?_, ?_, ?_, ?_, ?_⟩
  ·intro y0 y1 y2 y3
   unfold truantref03_Reach.j0
   repeat' first
   | (with_reducible exact ih0 _ _ _ _)
   | (with_reducible exact ih1 _ _ _)
   | (with_reducible exact ih2 _ _ _ _)
   | (with_reducible exact ih3 _ _ _ _ _)
   | (with_reducible exact ih4 _ _ _ _ _ _)
   | (with_reducible exact truantref03_Elem.mono _ _)
   | (with_reducible exact truantref03_Find.mono _ _ _)
   | (with_reducible exact LeO.refl _)
   | (with_reducible exact LeO.none _)
   | (with_reducible refine LeO.ite ?_ ?_)
   | (with_reducible refine LeO.bind ?_ (fun _ => ?_))
   | exact ih0 _ _ _ _
   | exact ih1 _ _ _
   | exact ih2 _ _ _ _
   | exact ih3 _ _ _ _ _
   | exact ih4 _ _ _ _ _ _
   | exact truantref03_Elem.mono _ _
   | exact truantref03_Find.mono _ _ _
   | exact LeO.none _
   | refine LeO.ite ?_ ?_
   | refine LeO.bind ?_ (fun _ => ?_)
  ·intro y0 y1 y2
   unfold truantref03_Reach.l0
   repeat' first
   | (with_reducible exact ih0 _ _ _ _)
   | (with_reducible exact ih1 _ _ _)
   | (with_reducible exact ih2 _ _ _ _)
   | (with_reducible exact ih3 _ _ _ _ _)
   | (with_reducible exact ih4 _ _ _ _ _ _)
   | (with_reducible exact truantref03_Elem.mono _ _)
   | (with_reducible exact truantref03_Find.mono _ _ _)
   | (with_reducible exact LeO.refl _)
   | (with_reducible exact LeO.none _)
   | (with_reducible refine LeO.ite ?_ ?_)
   | (with_reducible refine LeO.bind ?_ (fun _ => ?_))
   | exact ih0 _ _ _ _
   | exact ih1 _ _ _
   | exact ih2 _ _ _ _
   | exact ih3 _ _ _ _ _
   | exact ih4 _ _ _ _ _ _
   | exact truantref03_Elem.mono _ _
   | exact truantref03_Find.mono _ _ _
   | exact LeO.none _
   | refine LeO.ite ?_ ?_
   | refine LeO.bind ?_ (fun _ => ?_)
  ·intro y0 y1 y2 y3
   unfold truantref03_Reach.l1
   repeat' first
   | (with_reducible exact ih0 _ _ _ _)
   | (with_reducible exact ih1 _ _ _)
   | (with_reducible exact ih2 _ _ _ _)
   | (with_reducible exact ih3 _ _ _ _ _)
   | (with_reducible exact ih4 _ _ _ _ _ _)
   | (with_reducible exact truantref03_Elem.mono _ _)
   | (with_reducible exact truantref03_Find.mono _ _ _)
   | (with_reducible exact LeO.refl _)
   | (with_reducible exact LeO.none _)
   | (with_reducible refine LeO.ite ?_ ?_)
   | (with_reducible refine LeO.bind ?_ (fun _ => ?_))
   | exact ih0 _ _ _ _
   | exact ih1 _ _ _
   | exact ih2 _ _ _ _
   | exact ih3 _ _ _ _ _
   | exact ih4 _ _ _ _ _ _
   | exact truantref03_Elem.mono _ _
   | exact truantref03_Find.mono _ _ _
   | exact LeO.none _
   | refine LeO.ite ?_ ?_
   | refine LeO.bind ?_ (fun _ => ?_)
  ·intro y0 y1 y2 y3 y4
   unfold truantref03_Reach.l2
   repeat' first
   | (with_reducible exact ih0 _ _ _ _)
   | (with_reducible exact ih1 _ _ _)
   | (with_reducible exact ih2 _ _ _ _)
   | (with_reducible exact ih3 _ _ _ _ _)
   | (with_reducible exact ih4 _ _ _ _ _ _)
   | (with_reducible exact truantref03_Elem.mono _ _)
   | (with_reducible exact truantref03_Find.mono _ _ _)
   | (with_reducible exact LeO.refl _)
   | (with_reducible exact LeO.none _)
   | (with_reducible refine LeO.ite ?_ ?_)
   | (with_reducible refine LeO.bind ?_ (fun _ => ?_))
   | exact ih0 _ _ _ _
   | exact ih1 _ _ _
   | exact ih2 _ _ _ _
   | exact ih3 _ _ _ _ _
   | exact ih4 _ _ _ _ _ _
   | exact truantref03_Elem.mono _ _
   | exact truantref03_Find.mono _ _ _
   | exact LeO.none _
   | refine LeO.ite ?_ ?_
   | refine LeO.bind ?_ (fun _ => ?_)
  ·intro y0 y1 y2 y3 y4 y5
   unfold truantref03_Reach.j4
   repeat' first
   | (with_reducible exact ih0 _ _ _ _)
   | (with_reducible exact ih1 _ _ _)
   | (with_reducible exact ih2 _ _ _ _)
   | (with_reducible exact ih3 _ _ _ _ _)
   | (with_reducible exact ih4 _ _ _ _ _ _)
   | (with_reducible exact truantref03_Elem.mono _ _)
   | (with_reducible exact truantref03_Find.mono _ _ _)
   | (with_reducible exact LeO.refl _)
   | (with_reducible exact LeO.none _)
   | (with_reducible refine LeO.ite ?_ ?_)
   | (with_reducible refine LeO.bind ?_ (fun _ => ?_))
   | exact ih0 _ _ _ _
   | exact ih1 _ _ _
   | exact ih2 _ _ _ _
   | exact ih3 _ _ _ _ _
   | exact ih4 _ _ _ _ _ _
   | exact truantref03_Elem.mono _ _
   | exact truantref03_Find.mono _ _ _
   | exact LeO.none _
   | refine LeO.ite ?_ ?_
   | refine LeO.bind ?_ (fun _ => ?_)
theorem truantref03_Reach.mono : ∀ a0 a1 k, LeO (truantref03_Reach.f k a0 a1) (truantref03_Reach.f (k + 1) a0 a1) := by
 intro a0 a1 k
 obtain ⟨ih0, ih1, ih2, ih3, ih4⟩ := truantref03_Reach.mono_l k
 unfold truantref03_Reach.f
 repeat' first
   | (with_reducible exact ih0 _ _ _ _)
   | (with_reducible exact ih1 _ _ _)
   | (with_reducible exact ih2 _ _ _ _)
   | (with_reducible exact ih3 _ _ _ _ _)
   | (with_reducible exact ih4 _ _ _ _ _ _)
   | (with_reducible exact truantref03_Elem.mono _ _)
   | (with_reducible exact truantref03_Find.mono _ _ _)
   | (with_reducible exact LeO.refl _)
   | (with_reducible exact LeO.none _)
   | (with_reducible refine LeO.ite ?_ ?_)
   | (with_reducible refine LeO.bind ?_ (fun _ => ?_))
   | exact ih0 _ _ _ _
   | exact ih1 _ _ _
   | exact ih2 _ _ _ _
   | exact ih3 _ _ _ _ _
   | exact ih4 _ _ _ _ _ _
   | exact truantref03_Elem.mono _ _
   | exact truantref03_Find.mono _ _ _
   | exact LeO.none _
   | refine LeO.ite ?_ ?_
   | refine LeO.bind ?_ (fun _ => ?_)
set_option maxHeartbeats 8000000 in
set_option maxRecDepth 100000 in
theorem truantref03_Reach.calls (k : Nat) (A0 : Option Addr) (c0 : Nat) (l0 : List (S43)) (a1 : ByteArray) (r : List Bool) (w : World) (hr0 : Kd.C k43 w A0 l0.length l0) (hc0 : l0.length ≤ c0) (h : truantref03_Reach.f k l0 a1 = some r) :
  Calls Try.prog 19 #[.slice A0 l0.length c0, .string a1] w fun e w' => ∃ v0_ : Value, e = .returned (v0_) ∧ Kd.R Kd.bool 4 w' w.heap.size (fun _ => True) v0_ r ∧ Below w.heap.size w w' := by
 have HR0 := Aside0.mk hr0
 have HC0 := Aside0.mk hc0
 clear hr0 hc0
 have HB := Aside0.mk (Below.refl w.heap.size w)
 have H : (if 0 ≤ (l0.length : Int) then (if ((l0.length : Int) : Int).toNat ≤ 281474976710656 then ((some (List.replicate ((l0.length : Int) : Int).toNat false : List Bool)).bind fun y220 => ((truantref03_Elem.f k a1).bind fun t223 => (if t223.toList = ([] : List UInt8) then (truantref03_Reach.j0 k l0 y220 t223 true) else ((truantref03_Find.f k l0 t223).bind fun t224 => (truantref03_Reach.j0 k l0 y220 t223 (decide (t224 < 0))))))) else (none)) else (none)) = some r := h
 clear h
 by_cases c3 : 0 ≤ (l0.length : Int)
 ·rw [if_pos c3] at H
  have c3b0 := eq_true c3
  have c3b1 : decide (0 ≤ (l0.length : Int)) = true := decide_eq_true c3
  clear c3
  by_cases c4 : ((l0.length : Int) : Int).toNat ≤ 281474976710656
  ·rw [if_pos c4] at H
   have c4b0 := eq_true c4
   have c4b1 : decide (((l0.length : Int) : Int).toNat ≤ 281474976710656) = true := decide_eq_true c4
   clear c4
   obtain ⟨y220, hy220⟩ : ∃ y_ : List Bool, y_ = (List.replicate ((l0.length : Int) : Int).toNat false) := ⟨_, rfl⟩
   replace H : ((truantref03_Elem.f k a1).bind fun t223 => (if t223.toList = ([] : List UInt8) then (truantref03_Reach.j0 k l0 y220 t223 true) else ((truantref03_Find.f k l0 t223).bind fun t224 => (truantref03_Reach.j0 k l0 y220 t223 (decide (t224 < 0)))))) = some r := by first | (rw [hy220]; with_reducible exact H) | (have H2_ := (Option.bind_some _ _).symm.trans H; rw [hy220]; with_reducible exact H2_) | (have H2_ := (Option.bind_some _ _).symm.trans H; with_reducible exact H2_) | with_reducible exact H | (rw [hy220]; exact H) | exact H
   have Ny220 := Aside0.mk hy220
   clear hy220
   replace H := Option.bind_eq_some_iff.mp H
   obtain ⟨t223, A50, H⟩ := H
   replace H : (if t223.toList = ([] : List UInt8) then (truantref03_Reach.j0 k l0 y220 t223 true) else ((truantref03_Find.f k l0 t223).bind fun t224 => (truantref03_Reach.j0 k l0 y220 t223 (decide (t224 < 0))))) = some r := H
   have A5 := Aside0.mk A50
   clear A50
   have HC6 := Aside0.mk H
   clear H
   go_enter Try.func19, Try.ntmps19
   go_upto_region 3 with (first | ((with_reducible refine gate_dst (N := 13) rfl ?_); (try (refine gate_guard (by rfl) ?_; dsimp only)); refine Kd.R_make Kd.bool _ 4 rfl (N := 13) rfl 39 _ _ rfl (l0.length : Int) rfl rfl Try.underlying39 (.bool false) 1 info4 rfl (by decide) (by omega) false (ok := fun _ => True) (okp := fun _ => True) rfl (fun _ hk => hk) trivial (of_decide_eq_true (by first | (with_reducible assumption) | assumption)) (Nat.le_trans (Nat.mul_le_mul_right _ (of_decide_eq_true (by first | (with_reducible assumption) | assumption) : (l0.length : Int).toNat ≤ 281474976710656)) (by omega)) (Below.refl _ _) (Nat.le_refl _) ?_; intro v221 w7 ho8 hb hg_ hnew_; clear hg_ hnew_; (first | rw [← Ny220.out] at ho8 | (simp only [Int.reduceToNat] at ho8; rw [← Ny220.out] at ho8)); have n0_ := Aside0.mk (Kd.R_lower ho8 (below_size (by repeat (first | (with_reducible first | exact HB.out | apply below_alloc | apply pw_below_drewN | apply below_drew1) | exact HB.out)))); have n1_ := Aside0.mk (below_step (by repeat (first | (with_reducible first | exact HB.out | apply below_alloc | apply pw_below_drewN | apply below_drew1) | exact HB.out)) hb); clear HB; have HO222 := n0_; have HB := n1_; clear n0_ n1_; clear hb ho8) | ((with_reducible refine gate_callee (f := 14) rfl ?_); refine goesL_ (some 15) rfl rfl Try.func14 (by kernel_rfl) rfl #[.string a1] rfl (by (try simp only [List.map_toArray, List.map_cons, List.map_nil]); first | done | rfl | (simp only [List.length_drop, List.length_take]; rfl)) ?_; (with_reducible refine (truantref03_Elem.calls k a1 t223 _ A5.out).mono ?_); rintro e w9 ⟨rfl, hb⟩; refine ⟨_, rfl, ?_⟩; have n0_ := Aside0.mk (Kd.R_below (by (with_reducible repeat (first | apply Kd.R_alloc | apply Kd.R_drewN | apply Kd.R_drew)); exact HO222.out) hb); have n1_ := Aside0.mk (below_step (by repeat (first | (with_reducible first | exact HB.out | apply below_alloc | apply pw_below_drewN | apply below_drew1) | exact HB.out)) hb); clear HO222; clear HB; have HO222 := n0_; have HB := n1_; clear n0_ n1_; (try clear hb); (try clear hb2); (try clear hk); (try clear hi)))
   (try simp only [Act.put, List.setIfInBounds_toArray, List.set_cons_zero, List.set_cons_succ])
   go_cut [23] (fun v23 wc => ∃ (kq : Nat) (x23_5 : Bool), v23 = .bool x23_5 ∧ Aside0 (truantref03_Reach.j0 kq l0 y220 t223 x23_5 = some r) ∧ Aside0 (kq ≤ k) ∧ Aside0 (Kd.R Kd.bool 4 wc w.heap.size (fun _ => True) v221 y220) ∧ Aside0 (Below w.heap.size w wc))
   case first =>
    have H := HC6.out
    clear HC6
    by_cases c10 : t223.toList = ([] : List UInt8)
    ·rw [if_pos c10] at H
     have c10b0 : (t223.toList == ([] : List UInt8)) = true := beq_iff_eq.mpr c10
     have c10b1 : (t223.toList != ([] : List UInt8)) = false := bne_eq_false_iff_eq.mpr c10
     clear c10
     (first | rw [c10b0] | (simp only [i64_w, i32_w]; rw [c10b0]) | skip)
     have H' := Aside0.mk H
     clear H
     go_wp2
     go_meet
     case rel => exact ⟨_, (true), (by first | rfl | (simp; done) | (simp [*]; done)), H', ⟨by first | omega | exact Nat.le_refl _⟩, ⟨by (with_reducible repeat (first | apply Kd.R_alloc | apply Kd.R_drewN | apply Kd.R_drew)); exact HO222.out⟩, ⟨by repeat (first | (with_reducible first | exact HB.out | apply below_alloc | apply pw_below_drewN | apply below_drew1) | exact HB.out)⟩⟩
    ·rw [if_neg c10] at H
     have c10b0 : (t223.toList == ([] : List UInt8)) = false := beq_eq_false_iff_ne.mpr c10
     have c10b1 : (t223.toList != ([] : List UInt8)) = true := bne_iff_ne.mpr c10
     (first | rw [c10b0] | (simp only [i64_w, i32_w]; rw [c10b0]) | skip)
     replace H := Option.bind_eq_some_iff.mp H
     obtain ⟨t224, A110, H⟩ := H
     replace H : (truantref03_Reach.j0 k l0 y220 t223 (decide (t224 < 0))) = some r := H
     have A11 := Aside0.mk A110
     clear A110
     have H' := Aside0.mk H
     clear H
     go_wp2_with (first | (go_at_call 13; (with_reducible refine (truantref03_Find.calls k _ _ l0 t223 t224 _ ?side1 ?side2 A11.out).mono ?_); (case side1 => repeat (first | exact (Kd.C_below HR0.out HB.out) | (with_reducible refine Kd.C_alloc ?_ _) | (with_reducible refine Kd.C_drewN ?_ _) | (with_reducible refine Kd.C_drew ?_))); (case side2 => exact HC0.out); rintro e w' ⟨rfl, ⟨nd, rfl⟩⟩))
     go_meet
     case rel => exact ⟨_, (decide (t224 < 0)), (by first | rfl | (simp; done) | (simp [*]; done)), H', ⟨by first | omega | exact Nat.le_refl _⟩, ⟨by (with_reducible repeat (first | apply Kd.R_alloc | apply Kd.R_drewN | apply Kd.R_drew)); exact HO222.out⟩, ⟨by repeat (first | (with_reducible first | exact HB.out | apply below_alloc | apply pw_below_drewN | apply below_drew1) | exact HB.out)⟩⟩
   case rest =>
    clear HC6
    try clear c1
    try clear p2
    try clear c3
    try clear c3b0
    try clear c3b1
    try clear c4
    try clear c4b0
    try clear c4b1
    try clear c10
    try clear c10b0
    try clear c10b1
    obtain ⟨kq, x23_5, rfl, HA, HJ5, HO_5, HB⟩ := hcut
    cases kq with
    | zero => exact absurd HA.out (by simp [truantref03_Reach.j0])
    | succ kj5 =>
     have H := HA.out
     clear HA
     simp only [truantref03_Reach.j0] at H
     by_cases c12 : x23_5 = true
     ·subst c12
      have H1 : (some y220) = some r := by rw [if_pos rfl] at H; exact H
      clear H
      have H := H1
      clear H1
      obtain rfl := Option.some.inj H
      go_wp2
      go_ret
      exact ⟨_, by first | rfl | (simp [errW_none, errW_some] <;> rfl) | (simp [*, errW_none, errW_some] <;> rfl), by (with_reducible repeat (first | apply Kd.R_alloc | apply Kd.R_drewN | apply Kd.R_drew)); exact HO_5.out, by repeat (first | (with_reducible first | exact HB.out | apply below_alloc | apply pw_below_drewN | apply below_drew1) | exact HB.out)⟩
     ·replace c12 := Bool.eq_false_iff.mpr c12
      subst c12
      have H1 : ((truantref03_Find.f kj5 l0 t223).bind fun t225 => (if 0 ≤ t225 then (if t225 < (y220.length : Int) then (truantref03_Reach.l0 kj5 l0 (y220.set (t225 : Int).toNat true) 0) else (none)) else (none))) = some r := by rw [if_neg (show ¬ (false = true) by decide)] at H; exact H
      clear H
      have H := H1
      clear H1
      replace H := Option.bind_eq_some_iff.mp H
      obtain ⟨t225, A130, H⟩ := H
      replace H : (if 0 ≤ t225 then (if t225 < (y220.length : Int) then (truantref03_Reach.l0 kj5 l0 (y220.set (t225 : Int).toNat true) 0) else (none)) else (none)) = some r := H
      have A13 := Aside0.mk A130
      clear A130
      by_cases c14 : 0 ≤ t225
      ·rw [if_pos c14] at H
       have c14b0 : decide (0 ≤ t225) = true := decide_eq_true c14
       clear c14
       by_cases c15 : t225 < (y220.length : Int)
       ·rw [if_pos c15] at H
        have c15b0 : decide (t225 < (y220.length : Int)) = true := decide_eq_true c15
        clear c15
        obtain ⟨y226, hy226⟩ : ∃ y_ : List Bool, y_ = (y220.set (t225 : Int).toNat true) := ⟨_, rfl⟩
        replace H : (truantref03_Reach.l0 kj5 l0 y226 0) = some r := by first | (rw [hy226]; with_reducible exact H) | (have H2_ := (Option.bind_some _ _).symm.trans H; rw [hy226]; with_reducible exact H2_) | (have H2_ := (Option.bind_some _ _).symm.trans H; with_reducible exact H2_) | with_reducible exact H | (rw [hy226]; exact H) | exact H
        have Ny226 := Aside0.mk hy226
        clear hy226
        have H' := Aside0.mk H
        clear H
        go_wp2_with (first | ((with_reducible refine gate_callee (f := 13) rfl ?_); refine goesL_ (some 28) rfl rfl Try.func13 (by kernel_rfl) rfl #[.slice A0 l0.length c0, .string t223] rfl (by (try simp only [List.map_toArray, List.map_cons, List.map_nil]); first | done | rfl | (simp only [List.length_drop, List.length_take]; rfl)) ?_; (with_reducible refine (truantref03_Find.calls kj5 _ _ l0 t223 t225 _ ?side1 ?side2 A13.out).mono ?_); (case side1 => repeat (first | exact (Kd.C_below HR0.out HB.out) | (with_reducible refine Kd.C_alloc ?_ _) | (with_reducible refine Kd.C_drewN ?_ _) | (with_reducible refine Kd.C_drew ?_))); (case side2 => exact HC0.out); rintro e w' ⟨rfl, ⟨nd, rfl⟩⟩; refine ⟨_, rfl, ?_⟩; (try (rw [drewN_self wc]; generalize hq_ : World.drewN wc _ = wc; have n0_ : Aside0 (Kd.R Kd.bool 4 wc w.heap.size (fun _ => True) v221 y220) := ⟨by rw [← hq_]; exact (by (with_reducible repeat (first | apply Kd.R_alloc | apply Kd.R_drewN | apply Kd.R_drew)); exact HO_5.out)⟩; have n1_ : Aside0 (Below w.heap.size w wc) := ⟨by rw [← hq_]; exact (by repeat (first | (with_reducible first | exact HB.out | apply below_alloc | apply pw_below_drewN | apply below_drew1) | exact HB.out))⟩; clear HO_5 HB hq_; have HO_5 := n0_; have HB := n1_; clear n0_ n1_)); have p16 : 0 ≤ (t225 : Int) := of_decide_eq_true (by first | (with_reducible assumption) | assumption); have q16 : (t225 : Int) < ((y220.length : Int) : Int) := of_decide_eq_true (by first | (with_reducible assumption) | assumption); obtain ⟨go16, co16, eo16, gb16, gl16, cl16, HG16⟩ := Kd.R_form HO_5.out (by omega); (first | cases eo16 | (injection eo16 with ea_ en_ ec_; (first | subst ea_ | (injection ea_ with ea_; subst ea_)); subst ec_; clear en_)); have GB16 := Aside0.mk gb16; have GG16 := Aside0.mk HG16; clear gb16 gl16 HG16; obtain ⟨hx16_0, hf16_0⟩ := Kd.R_celln false HO_5.out (t225 : Int) p16 q16; replace p16 := eq_true p16; replace q16 := eq_true q16; obtain ⟨hy17_, hz17_⟩ := Kd.R_celln false HO_5.out (t225 : Int) (of_decide_eq_true (by first | (with_reducible assumption) | assumption)) (of_decide_eq_true (by first | (with_reducible assumption) | assumption)); have HP17 := Kd.R_putg HO_5.out (t225 : Int) true) | ((with_reducible refine gate_store (t := 4) (p := 29) rfl ?_); refine store_event (t := 4) (p := 29) (v := ?vo_w18) (w1 := (wc.setCell ⟨go16, (t225 : Int).toNat, none⟩ (.bool true))) ?hg ?ho ?hn ?hr ?_; (case ho => rfl); (case hg => rfl); (case hn => rfl); (case hr => first | (go_simp; done) | (go_simp; rfl)); intro w18 hw; have hg : wc.grownBy w18 (some go16) := (by rw [hw]; exact HP17.2); have hp_ : Kd.R Kd.bool 4 w18 w.heap.size (fun _ => True) (.slice (some ⟨go16, 0, none⟩) y220.length co16) y226 := (by rw [hw, Ny226.out]; exact HP17.1); clear HP17; have n0_ := Aside0.mk (hp_); have n1_ := Aside0.mk ((by rw [hw]; exact below_set (HB.out) GB16.out : Below w.heap.size w w18)); clear HO_5; clear HB; have HO_5 := n0_; have HB := n1_; clear n0_ n1_; clear hg hw hp_))
        go_loopg [7] kj5 (fun kq v7 w' => ∃ (x5_2 : List Bool) (x7_2 : Int), v7 = .int .i64 x7_2 ∧ Aside0 (truantref03_Reach.l0 kq l0 x5_2 x7_2 = some r) ∧ Aside0 (kq ≤ kj5) ∧ Aside0 (Kd.R Kd.bool 4 w' w.heap.size (fun _ => True) (.slice (some ⟨go16, 0, none⟩) y220.length co16) x5_2) ∧ Aside0 (Below w.heap.size w w'))
        case atStart => exact ⟨(y226), (0), (by first | rfl | (simp; done) | (simp [*]; done)), H', ⟨Nat.le_refl _⟩, ⟨by (with_reducible repeat (first | apply Kd.R_alloc | apply Kd.R_drewN | apply Kd.R_drew)); exact HO_5.out⟩, ⟨by repeat (first | (with_reducible first | exact HB.out | apply below_alloc | apply pw_below_drewN | apply below_drew1) | exact HB.out)⟩⟩
        case round =>
         clear H'
         try clear c1
         try clear p1
         try clear q1
         try clear hx1
         try clear p2
         try clear c3
         try clear c3b0
         try clear c3b1
         try clear c4
         try clear c4b0
         try clear c4b1
         try clear c10
         try clear c10b0
         try clear c10b1
         try clear c12
         try clear c13
         try clear c14
         try clear c14b0
         try clear c15
         try clear c15b0
         try clear p16
         try clear q16
         try clear hx16
         try clear hf16
         try clear hx16_0
         try clear p16
         try clear p2
         try clear q16
         obtain ⟨x5_2, x7_2, rfl, HA, HK2, HO_5, HB⟩ := hrel
         have hl5_2 := (Kd.R_reads' HO_5.out).1
         rw [hl5_2] at HO_5
         (try simp only [hl5_2])
         cases gk with
         | zero => exact absurd HA.out (by simp [truantref03_Reach.l0])
         | succ k2 =>
          have H := HA.out
          clear HA
          simp only [truantref03_Reach.l0] at H
          by_cases c19 : x7_2 < (l0.length : Int)
          ·rw [if_pos c19] at H
           have c19b0 : decide (x7_2 < (l0.length : Int)) = true := decide_eq_true c19
           clear c19
           have H' := Aside0.mk H
           clear H
           go_wp2
           go_loopg [8] k2 (fun kq v8 w' => ∃ (x5_3 : List Bool) (x8_3 : Int), v8 = .int .i64 x8_3 ∧ Aside0 (truantref03_Reach.l1 kq l0 x5_3 x7_2 x8_3 = some r) ∧ Aside0 (kq ≤ k2) ∧ Aside0 (Kd.R Kd.bool 4 w' w.heap.size (fun _ => True) (.slice (some ⟨go16, 0, none⟩) x5_2.length co16) x5_3) ∧ Aside0 (Below w.heap.size w w'))
           case atStart => exact ⟨(x5_2), (0), (by first | rfl | (simp; done) | (simp [*]; done)), H', ⟨Nat.le_refl _⟩, ⟨by (try simp only [hl5_2]); (with_reducible repeat (first | apply Kd.R_alloc | apply Kd.R_drewN | apply Kd.R_drew)); exact HO_5.out⟩, ⟨by repeat (first | (with_reducible first | exact HB.out | apply below_alloc | apply pw_below_drewN | apply below_drew1) | exact HB.out)⟩⟩
           case round =>
            clear H'
            try clear c1
            try clear p1
            try clear q1
            try clear hx1
            try clear p2
            try clear c3
            try clear c3b0
            try clear c3b1
            try clear c4
            try clear c4b0
            try clear c4b1
            try clear c10
            try clear c10b0
            try clear c10b1
            try clear c12
            try clear c13
            try clear c14
            try clear c14b0
            try clear c15
            try clear c15b0
            try clear p16
            try clear q16
            try clear hx16
            try clear hf16
            try clear c19
            try clear c19b0
            try clear hx16_0
            try clear p1
            try clear p16
            try clear p2
            try clear q1
            try clear q16
            obtain ⟨x5_3, x8_3, rfl, HA, HK3, HO_5, HB⟩ := hrel
            have hl5_3 := (Kd.R_reads' HO_5.out).1
            rw [hl5_3] at HO_5
            (try simp only [hl5_3])
            cases gk with
            | zero => exact absurd HA.out (by simp [truantref03_Reach.l1])
            | succ k3 =>
             have H := HA.out
             clear HA
             simp only [truantref03_Reach.l1] at H
             by_cases c20 : x8_3 < (l0.length : Int)
             ·rw [if_pos c20] at H
              have c20b0 : decide (x8_3 < (l0.length : Int)) = true := decide_eq_true c20
              clear c20
              have H' := Aside0.mk H
              clear H
              go_wp2
              go_loopg [9] k3 (fun kq v9 w' => ∃ (x5_4 : List Bool) (x9_4 : Int), v9 = .int .i64 x9_4 ∧ Aside0 (truantref03_Reach.l2 kq l0 x5_4 x7_2 x8_3 x9_4 = some r) ∧ Aside0 (kq ≤ k3) ∧ Aside0 (Kd.R Kd.bool 4 w' w.heap.size (fun _ => True) (.slice (some ⟨go16, 0, none⟩) x5_3.length co16) x5_4) ∧ Aside0 (Below w.heap.size w w'))
              case atStart => exact ⟨(x5_3), (0), (by first | rfl | (simp; done) | (simp [*]; done)), H', ⟨Nat.le_refl _⟩, ⟨by (try simp only [hl5_2]); (try simp only [hl5_3]); (with_reducible repeat (first | apply Kd.R_alloc | apply Kd.R_drewN | apply Kd.R_drew)); exact HO_5.out⟩, ⟨by repeat (first | (with_reducible first | exact HB.out | apply below_alloc | apply pw_below_drewN | apply below_drew1) | exact HB.out)⟩⟩
              case round =>
               clear H'
               try clear c1
               try clear p1
               try clear q1
               try clear hx1
               try clear c2
               try clear p2
               try clear c3
               try clear c3b0
               try clear c3b1
               try clear c4
               try clear c4b0
               try clear c4b1
               try clear c10
               try clear c10b0
               try clear c10b1
               try clear c12
               try clear c13
               try clear c14
               try clear c14b0
               try clear c15
               try clear c15b0
               try clear p16
               try clear q16
               try clear hx16
               try clear hf16
               try clear c19
               try clear c19b0
               try clear c20
               try clear c20b0
               try clear hx16_0
               try clear p1
               try clear p16
               try clear p2
               try clear q1
               try clear q16
               obtain ⟨x5_4, x9_4, rfl, HA, HK4, HO_5, HB⟩ := hrel
               have hl5_4 := (Kd.R_reads' HO_5.out).1
               rw [hl5_4] at HO_5
               (try simp only [hl5_4])
               cases gk with
               | zero => exact absurd HA.out (by simp [truantref03_Reach.l2])
               | succ k4 =>
                have H := HA.out
                clear HA
                simp only [truantref03_Reach.l2] at H
                have HC21 := Aside0.mk H
                clear H
                go_upto_region 13 with (fail)
                go_cut [55] (fun v55 wc => ∃ (kq : Nat) (x55_20 : Bool), v55 = .bool x55_20 ∧ Aside0 (truantref03_Reach.j4 kq l0 x5_4 x7_2 x8_3 x9_4 x55_20 = some r) ∧ Aside0 (kq ≤ k4) ∧ Aside0 (Kd.R Kd.bool 4 wc w.heap.size (fun _ => True) (.slice (some ⟨go16, 0, none⟩) x5_4.length co16) x5_4) ∧ Aside0 (Below w.heap.size w wc))
                case first =>
                 have H := HC21.out
                 clear HC21
                 by_cases c22 : 0 ≤ x8_3
                 ·rw [if_pos c22] at H
                  have c22b0 : decide (0 ≤ x8_3) = true := decide_eq_true c22
                  clear c22
                  (first | rw [c22b0] | (simp only [i64_w, i32_w]; rw [c22b0]) | skip)
                  by_cases c23 : x8_3 < (x5_4.length : Int)
                  ·rw [if_pos c23] at H
                   have c23b0 : decide (x8_3 < (x5_4.length : Int)) = true := decide_eq_true c23
                   clear c23
                   obtain ⟨bq24, hbq24⟩ : ∃ b_ : Bool, b_ = (rdOf false x5_4 x8_3) := ⟨_, rfl⟩
                   replace H : (if bq24 = true then (if x8_3 < (l0.length : Int) then (truantref03_Reach.j4 k4 l0 x5_4 x7_2 x8_3 x9_4 (decide (x9_4 < (((rd_T43 l0 x8_3).f1).length : Int)))) else (none)) else (truantref03_Reach.j4 k4 l0 x5_4 x7_2 x8_3 x9_4 false)) = some r := by rw [← hbq24] at H; exact H
                   have Nbq24 := Aside0.mk hbq24
                   clear hbq24
                   by_cases c25 : bq24 = true
                   ·subst c25
                    have H1 : (if x8_3 < (l0.length : Int) then (truantref03_Reach.j4 k4 l0 x5_4 x7_2 x8_3 x9_4 (decide (x9_4 < (((rd_T43 l0 x8_3).f1).length : Int)))) else (none)) = some r := by rw [if_pos rfl] at H; exact H
                    clear H
                    have H := H1
                    clear H1
                    by_cases c26 : x8_3 < (l0.length : Int)
                    ·rw [if_pos c26] at H
                     have c26b0 : decide (x8_3 < (l0.length : Int)) = true := decide_eq_true c26
                     clear c26
                     have H' := Aside0.mk H
                     clear H
                     have p227 : 0 ≤ (x8_3 : Int) := of_decide_eq_true (by first | (with_reducible assumption) | assumption)
                     have q227 : x8_3 < (x5_4.length : Int) := of_decide_eq_true (by first | (with_reducible assumption) | assumption)
                     obtain ⟨ad227, e227, hx227_0⟩ := Kd.at_bool (Kd.R_reads' HO_5.out).2.2 x8_3 p227 q227
                     (try rw [← Nbq24.out] at hx227_0)
                     obtain rfl : (⟨go16, 0, none⟩ : Addr) = ad227 := (by injection e227)
                     (first | simp only [add_plain] at hx227_0 | simp only [add_at] at hx227_0 | simp only [Addr.add, Nat.zero_add] at hx227_0 | skip)
                     replace p227 := eq_true p227
                     replace q227 := eq_true q227
                     have p228 : 0 ≤ (x8_3 : Int) := of_decide_eq_true (by first | (with_reducible assumption) | assumption)
                     have q228 : x8_3 < (l0.length : Int) := of_decide_eq_true (by first | (with_reducible assumption) | assumption)
                     obtain ⟨ad228, A228_1, c228_1, e228, hx228_0, hx228_1, hl228_1, hi228_1⟩ := at_T43 HR0.out x8_3 p228 q228
                     cases e228
                     replace hx228_0 := (HB.out.cell (World.block_lt_of_cell? w _ hx228_0)).trans hx228_0
                     replace hx228_1 := (HB.out.cell (World.block_lt_of_cell? w _ hx228_1)).trans hx228_1
                     have HR228_1 := Aside0.mk hi228_1
                     have HC228_1 := Aside0.mk hl228_1
                     clear hi228_1 hl228_1
                     replace p228 := eq_true p228
                     replace q228 := eq_true q228
                     go_wp2
                     go_meet
                     case rel => exact ⟨_, (decide (x9_4 < (((rd_T43 l0 x8_3).f1).length : Int))), (by first | rfl | (simp; done) | (simp [*]; done)), H', ⟨by have := HJ5.out; have := HK2.out; have := HK3.out; have := HK4.out; first | omega | exact Nat.le_refl _⟩, ⟨by (try simp only [hl5_2]); (try simp only [hl5_3]); (try simp only [hl5_4]); (with_reducible repeat (first | apply Kd.R_alloc | apply Kd.R_drewN | apply Kd.R_drew)); exact HO_5.out⟩, ⟨by repeat (first | (with_reducible first | exact HB.out | apply below_alloc | apply pw_below_drewN | apply below_drew1) | exact HB.out)⟩⟩
                    ·rw [if_neg c26] at H
                     exact absurd H (by simp)
                   ·replace c25 := Bool.eq_false_iff.mpr c25
                    subst c25
                    have H1 : (truantref03_Reach.j4 k4 l0 x5_4 x7_2 x8_3 x9_4 false) = some r := by rw [if_neg (show ¬ (false = true) by decide)] at H; exact H
                    clear H
                    have H := H1
                    clear H1
                    have H' := Aside0.mk H
                    clear H
                    have p227 : 0 ≤ (x8_3 : Int) := of_decide_eq_true (by first | (with_reducible assumption) | assumption)
                    have q227 : x8_3 < (x5_4.length : Int) := of_decide_eq_true (by first | (with_reducible assumption) | assumption)
                    obtain ⟨ad227, e227, hx227_0⟩ := Kd.at_bool (Kd.R_reads' HO_5.out).2.2 x8_3 p227 q227
                    (try rw [← Nbq24.out] at hx227_0)
                    obtain rfl : (⟨go16, 0, none⟩ : Addr) = ad227 := (by injection e227)
                    (first | simp only [add_plain] at hx227_0 | simp only [add_at] at hx227_0 | simp only [Addr.add, Nat.zero_add] at hx227_0 | skip)
                    replace p227 := eq_true p227
                    replace q227 := eq_true q227
                    go_wp2
                    go_meet
                    case rel => exact ⟨_, (false), (by first | rfl | (simp; done) | (simp [*]; done)), H', ⟨by have := HJ5.out; have := HK2.out; have := HK3.out; have := HK4.out; first | omega | exact Nat.le_refl _⟩, ⟨by (try simp only [hl5_2]); (try simp only [hl5_3]); (try simp only [hl5_4]); (with_reducible repeat (first | apply Kd.R_alloc | apply Kd.R_drewN | apply Kd.R_drew)); exact HO_5.out⟩, ⟨by repeat (first | (with_reducible first | exact HB.out | apply below_alloc | apply pw_below_drewN | apply below_drew1) | exact HB.out)⟩⟩
                  ·rw [if_neg c23] at H
                   exact absurd H (by simp)
                 ·rw [if_neg c22] at H
                  exact absurd H (by simp)
                case rest =>
                 clear HC21
                 try clear c1
                 try clear p1
                 try clear q1
                 try clear hx1
                 try clear c2
                 try clear p2
                 try clear q2
                 try clear hx2
                 try clear c3
                 try clear c3b0
                 try clear c3b1
                 try clear c4
                 try clear c4b0
                 try clear c4b1
                 try clear c10
                 try clear c10b0
                 try clear c10b1
                 try clear c12
                 try clear c13
                 try clear c14
                 try clear c14b0
                 try clear c15
                 try clear c15b0
                 try clear p16
                 try clear q16
                 try clear hx16
                 try clear hf16
                 try clear c19
                 try clear c19b0
                 try clear c20
                 try clear c20b0
                 try clear c22
                 try clear c22b0
                 try clear p22
                 try clear q22
                 try clear hx22
                 try clear c23
                 try clear c23b0
                 try clear q24
                 try clear c25
                 try clear c26
                 try clear c26b0
                 try clear hx16_0
                 try clear hx227_0
                 try clear hx228_0
                 try clear hx228_1
                 try clear p1
                 try clear p16
                 try clear p2
                 try clear p227
                 try clear p228
                 try clear q1
                 try clear q16
                 try clear q227
                 try clear q228
                 obtain ⟨kq, x55_20, rfl, HA, HJ20, HO_5, HB⟩ := hcut
                 cases kq with
                 | zero => exact absurd HA.out (by simp [truantref03_Reach.j4])
                 | succ kj20 =>
                  have H := HA.out
                  clear HA
                  simp only [truantref03_Reach.j4] at H
                  by_cases c27 : x55_20 = true
                  ·subst c27
                   have H1 : (if 0 ≤ x8_3 then (if x8_3 < (l0.length : Int) then (if 0 ≤ x9_4 then (if x9_4 < (((rd_T43 l0 x8_3).f1).length : Int) then ((truantref03_Elem.f kj20 ((rd_T48 ((rd_T43 l0 x8_3).f1) x9_4).f1)).bind fun t231 => (if t231.toList = ([] : List UInt8) then (truantref03_Reach.l2 kj20 l0 x5_4 x7_2 x8_3 (wrap64 (x9_4 + 1))) else ((truantref03_Find.f kj20 l0 t231).bind fun t232 => (if t232 ≥ 0 then ((truantref03_Find.f kj20 l0 t231).bind fun t233 => (if 0 ≤ t233 then (if t233 < (x5_4.length : Int) then (truantref03_Reach.l2 kj20 l0 (x5_4.set (t233 : Int).toNat true) x7_2 x8_3 (wrap64 (x9_4 + 1))) else (none)) else (none))) else (truantref03_Reach.l2 kj20 l0 x5_4 x7_2 x8_3 (wrap64 (x9_4 + 1))))))) else (none)) else (none)) else (none)) else (none)) = some r := by rw [if_pos rfl] at H; exact H
                   clear H
                   have H := H1
                   clear H1
                   by_cases c28 : 0 ≤ x8_3
                   ·rw [if_pos c28] at H
                    have c28b0 : decide (0 ≤ x8_3) = true := decide_eq_true c28
                    clear c28
                    by_cases c29 : x8_3 < (l0.length : Int)
                    ·rw [if_pos c29] at H
                     have c29b0 : decide (x8_3 < (l0.length : Int)) = true := decide_eq_true c29
                     clear c29
                     by_cases c30 : 0 ≤ x9_4
                     ·rw [if_pos c30] at H
                      have c30b0 : decide (0 ≤ x9_4) = true := decide_eq_true c30
                      clear c30
                      by_cases c31 : x9_4 < (((rd_T43 l0 x8_3).f1).length : Int)
                      ·rw [if_pos c31] at H
                       have c31b0 : decide (x9_4 < (((rd_T43 l0 x8_3).f1).length : Int)) = true := decide_eq_true c31
                       clear c31
                       replace H := Option.bind_eq_some_iff.mp H
                       obtain ⟨t231, A320, H⟩ := H
                       replace H : (if t231.toList = ([] : List UInt8) then (truantref03_Reach.l2 kj20 l0 x5_4 x7_2 x8_3 (wrap64 (x9_4 + 1))) else ((truantref03_Find.f kj20 l0 t231).bind fun t232 => (if t232 ≥ 0 then ((truantref03_Find.f kj20 l0 t231).bind fun t233 => (if 0 ≤ t233 then (if t233 < (x5_4.length : Int) then (truantref03_Reach.l2 kj20 l0 (x5_4.set (t233 : Int).toNat true) x7_2 x8_3 (wrap64 (x9_4 + 1))) else (none)) else (none))) else (truantref03_Reach.l2 kj20 l0 x5_4 x7_2 x8_3 (wrap64 (x9_4 + 1)))))) = some r := H
                       have A32 := Aside0.mk A320
                       clear A320
                       by_cases c33 : t231.toList = ([] : List UInt8)
                       ·rw [if_pos c33] at H
                        have c33b0 : (t231.toList == ([] : List UInt8)) = true := beq_iff_eq.mpr c33
                        have c33b1 : (t231.toList != ([] : List UInt8)) = false := bne_eq_false_iff_eq.mpr c33
                        clear c33
                        have H' := Aside0.mk H
                        clear H
                        have p229 : 0 ≤ (x8_3 : Int) := of_decide_eq_true (by first | (with_reducible assumption) | assumption)
                        have q229 : x8_3 < (l0.length : Int) := of_decide_eq_true (by first | (with_reducible assumption) | assumption)
                        obtain ⟨ad229, A229_1, c229_1, e229, hx229_0, hx229_1, hl229_1, hi229_1⟩ := at_T43 HR0.out x8_3 p229 q229
                        cases e229
                        replace hx229_0 := (HB.out.cell (World.block_lt_of_cell? w _ hx229_0)).trans hx229_0
                        replace hx229_1 := (HB.out.cell (World.block_lt_of_cell? w _ hx229_1)).trans hx229_1
                        have HR229_1 := Aside0.mk hi229_1
                        have HC229_1 := Aside0.mk hl229_1
                        clear hi229_1 hl229_1
                        replace p229 := eq_true p229
                        replace q229 := eq_true q229
                        have p230 : 0 ≤ (x9_4 : Int) := of_decide_eq_true (by first | (with_reducible assumption) | assumption)
                        have q230 : x9_4 < (((rd_T43 l0 x8_3).f1).length : Int) := of_decide_eq_true (by first | (with_reducible assumption) | assumption)
                        obtain ⟨ad230, e230, hx230_0, hx230_1⟩ := at_T48 HR229_1.out x9_4 p230 q230
                        cases e230
                        replace hx230_0 := (HB.out.cell (World.block_lt_of_cell? w _ hx230_0)).trans hx230_0
                        replace hx230_1 := (HB.out.cell (World.block_lt_of_cell? w _ hx230_1)).trans hx230_1
                        replace p230 := eq_true p230
                        replace q230 := eq_true q230
                        go_wp2_with (first | ((with_reducible refine gate_callee (f := 14) rfl ?_); refine goesL_ (some 67) rfl rfl Try.func14 (by kernel_rfl) rfl #[.string ((rd_T48 ((rd_T43 l0 x8_3).f1) x9_4).f1)] rfl (by (try simp only [List.map_toArray, List.map_cons, List.map_nil]); first | done | rfl | (simp only [List.length_drop, List.length_take]; rfl)) ?_; (with_reducible refine (truantref03_Elem.calls kj20 ((rd_T48 ((rd_T43 l0 x8_3).f1) x9_4).f1) t231 _ A32.out).mono ?_); rintro e w34 ⟨rfl, hb⟩; refine ⟨_, rfl, ?_⟩; have n0_ := Aside0.mk (Kd.R_below (by (with_reducible repeat (first | apply Kd.R_alloc | apply Kd.R_drewN | apply Kd.R_drew)); exact HO_5.out) hb); have n1_ := Aside0.mk (below_step (by repeat (first | (with_reducible first | exact HB.out | apply below_alloc | apply pw_below_drewN | apply below_drew1) | exact HB.out)) hb); clear HO_5; clear HB; have HO_5 := n0_; have HB := n1_; clear n0_ n1_; (try clear hb); (try clear hb2); (try clear hk); (try clear hi)))
                        (try simp only [← hl5_4])
                        go_roundg kj20
                        case measure => have := HJ5.out; have := HK2.out; have := HK3.out; have := HK4.out; have := HJ20.out; omega
                        case rel => exact ⟨(x5_4), (wrap64 (x9_4 + 1)), (by first | rfl | (simp; done) | (simp [*]; done)), H', ⟨by have := HJ5.out; have := HK2.out; have := HK3.out; have := HK4.out; have := HJ20.out; omega⟩, ⟨by (try simp only [hl5_2]); (try simp only [hl5_3]); (try simp only [hl5_4]); (with_reducible repeat (first | apply Kd.R_alloc | apply Kd.R_drewN | apply Kd.R_drew)); exact HO_5.out⟩, ⟨by repeat (first | (with_reducible first | exact HB.out | apply below_alloc | apply pw_below_drewN | apply below_drew1) | exact HB.out)⟩⟩
                       ·rw [if_neg c33] at H
                        have c33b0 : (t231.toList == ([] : List UInt8)) = false := beq_eq_false_iff_ne.mpr c33
                        have c33b1 : (t231.toList != ([] : List UInt8)) = true := bne_iff_ne.mpr c33
                        replace H := Option.bind_eq_some_iff.mp H
                        obtain ⟨t232, A350, H⟩ := H
                        replace H : (if t232 ≥ 0 then ((truantref03_Find.f kj20 l0 t231).bind fun t233 => (if 0 ≤ t233 then (if t233 < (x5_4.length : Int) then (truantref03_Reach.l2 kj20 l0 (x5_4.set (t233 : Int).toNat true) x7_2 x8_3 (wrap64 (x9_4 + 1))) else (none)) else (none))) else (truantref03_Reach.l2 kj20 l0 x5_4 x7_2 x8_3 (wrap64 (x9_4 + 1)))) = some r := H
                        have A35 := Aside0.mk A350
                        clear A350
                        by_cases c36 : t232 ≥ 0
                        ·rw [if_pos c36] at H
                         have c36b0 : decide (0 ≤ t232) = true := decide_eq_true c36
                         clear c36
                         replace H := Option.bind_eq_some_iff.mp H
                         obtain ⟨t233, A370, H⟩ := H
                         replace H : (if 0 ≤ t233 then (if t233 < (x5_4.length : Int) then (truantref03_Reach.l2 kj20 l0 (x5_4.set (t233 : Int).toNat true) x7_2 x8_3 (wrap64 (x9_4 + 1))) else (none)) else (none)) = some r := H
                         have A37 := Aside0.mk A370
                         clear A370
                         by_cases c38 : 0 ≤ t233
                         ·rw [if_pos c38] at H
                          have c38b0 : decide (0 ≤ t233) = true := decide_eq_true c38
                          clear c38
                          by_cases c39 : t233 < (x5_4.length : Int)
                          ·rw [if_pos c39] at H
                           have c39b0 : decide (t233 < (x5_4.length : Int)) = true := decide_eq_true c39
                           clear c39
                           obtain ⟨y234, hy234⟩ : ∃ y_ : List Bool, y_ = (x5_4.set (t233 : Int).toNat true) := ⟨_, rfl⟩
                           replace H : (truantref03_Reach.l2 kj20 l0 y234 x7_2 x8_3 (wrap64 (x9_4 + 1))) = some r := by first | (rw [hy234]; with_reducible exact H) | (have H2_ := (Option.bind_some _ _).symm.trans H; rw [hy234]; with_reducible exact H2_) | (have H2_ := (Option.bind_some _ _).symm.trans H; with_reducible exact H2_) | with_reducible exact H | (rw [hy234]; exact H) | exact H
                           have Ny234 := Aside0.mk hy234
                           clear hy234
                           have H' := Aside0.mk H
                           clear H
                           have p229 : 0 ≤ (x8_3 : Int) := of_decide_eq_true (by first | (with_reducible assumption) | assumption)
                           have q229 : x8_3 < (l0.length : Int) := of_decide_eq_true (by first | (with_reducible assumption) | assumption)
                           obtain ⟨ad229, A229_1, c229_1, e229, hx229_0, hx229_1, hl229_1, hi229_1⟩ := at_T43 HR0.out x8_3 p229 q229
                           cases e229
                           replace hx229_0 := (HB.out.cell (World.block_lt_of_cell? w _ hx229_0)).trans hx229_0
                           replace hx229_1 := (HB.out.cell (World.block_lt_of_cell? w _ hx229_1)).trans hx229_1
                           have HR229_1 := Aside0.mk hi229_1
                           have HC229_1 := Aside0.mk hl229_1
                           clear hi229_1 hl229_1
                           replace p229 := eq_true p229
                           replace q229 := eq_true q229
                           have p230 : 0 ≤ (x9_4 : Int) := of_decide_eq_true (by first | (with_reducible assumption) | assumption)
                           have q230 : x9_4 < (((rd_T43 l0 x8_3).f1).length : Int) := of_decide_eq_true (by first | (with_reducible assumption) | assumption)
                           obtain ⟨ad230, e230, hx230_0, hx230_1⟩ := at_T48 HR229_1.out x9_4 p230 q230
                           cases e230
                           replace hx230_0 := (HB.out.cell (World.block_lt_of_cell? w _ hx230_0)).trans hx230_0
                           replace hx230_1 := (HB.out.cell (World.block_lt_of_cell? w _ hx230_1)).trans hx230_1
                           replace p230 := eq_true p230
                           replace q230 := eq_true q230
                           go_wp2_with (first | ((with_reducible refine gate_callee (f := 14) rfl ?_); refine goesL_ (some 67) rfl rfl Try.func14 (by kernel_rfl) rfl #[.string ((rd_T48 ((rd_T43 l0 x8_3).f1) x9_4).f1)] rfl (by (try simp only [List.map_toArray, List.map_cons, List.map_nil]); first | done | rfl | (simp only [List.length_drop, List.length_take]; rfl)) ?_; (with_reducible refine (truantref03_Elem.calls kj20 ((rd_T48 ((rd_T43 l0 x8_3).f1) x9_4).f1) t231 _ A32.out).mono ?_); rintro e w41 ⟨rfl, hb⟩; refine ⟨_, rfl, ?_⟩; have n0_ := Aside0.mk (Kd.R_below (by (with_reducible repeat (first | apply Kd.R_alloc | apply Kd.R_drewN | apply Kd.R_drew)); exact HO_5.out) hb); have n1_ := Aside0.mk (below_step (by repeat (first | (with_reducible first | exact HB.out | apply below_alloc | apply pw_below_drewN | apply below_drew1) | exact HB.out)) hb); clear HO_5; clear HB; have HO_5 := n0_; have HB := n1_; clear n0_ n1_; (try clear hb); (try clear hb2); (try clear hk); (try clear hi)) | (go_at_call 13; (with_reducible refine (truantref03_Find.calls kj20 _ _ l0 t231 t232 _ ?side1 ?side2 A35.out).mono ?_); (case side1 => repeat (first | exact (Kd.C_below HR0.out HB.out) | (with_reducible refine Kd.C_alloc ?_ _) | (with_reducible refine Kd.C_drewN ?_ _) | (with_reducible refine Kd.C_drew ?_))); (case side2 => exact HC0.out); rintro e w' ⟨rfl, ⟨nd, rfl⟩⟩; (try (rw [drewN_self w41]; generalize hq_ : World.drewN w41 _ = w41; have n0_ : Aside0 (Kd.R Kd.bool 4 w41 w.heap.size (fun _ => True) (.slice (some ⟨go16, 0, none⟩) x5_4.length co16) x5_4) := ⟨by rw [← hq_]; exact (by (with_reducible repeat (first | apply Kd.R_alloc | apply Kd.R_drewN | apply Kd.R_drew)); exact HO_5.out)⟩; have n1_ : Aside0 (Below w.heap.size w w41) := ⟨by rw [← hq_]; exact (by repeat (first | (with_reducible first | exact HB.out | apply below_alloc | apply pw_below_drewN | apply below_drew1) | exact HB.out))⟩; clear HO_5 HB hq_; have HO_5 := n0_; have HB := n1_; clear n0_ n1_))) | ((with_reducible refine gate_callee (f := 13) rfl ?_); refine goesL_ (some 79) rfl rfl Try.func13 (by kernel_rfl) rfl #[.slice (some ad229) l0.length c0, .string t231] rfl (by (try simp only [List.map_toArray, List.map_cons, List.map_nil]); first | done | rfl | (simp only [List.length_drop, List.length_take]; rfl)) ?_; (with_reducible refine (truantref03_Find.calls kj20 _ _ l0 t231 t233 _ ?side1 ?side2 A37.out).mono ?_); (case side1 => repeat (first | exact (Kd.C_below HR0.out HB.out) | (with_reducible refine Kd.C_alloc ?_ _) | (with_reducible refine Kd.C_drewN ?_ _) | (with_reducible refine Kd.C_drew ?_))); (case side2 => exact HC0.out); rintro e w' ⟨rfl, ⟨nd, rfl⟩⟩; refine ⟨_, rfl, ?_⟩; (try (rw [drewN_self w41]; generalize hq_ : World.drewN w41 _ = w41; have n0_ : Aside0 (Kd.R Kd.bool 4 w41 w.heap.size (fun _ => True) (.slice (some ⟨go16, 0, none⟩) x5_4.length co16) x5_4) := ⟨by rw [← hq_]; exact (by (with_reducible repeat (first | apply Kd.R_alloc | apply Kd.R_drewN | apply Kd.R_drew)); exact HO_5.out)⟩; have n1_ : Aside0 (Below w.heap.size w w41) := ⟨by rw [← hq_]; exact (by repeat (first | (with_reducible first | exact HB.out | apply below_alloc | apply pw_below_drewN | apply below_drew1) | exact HB.out))⟩; clear HO_5 HB hq_; have HO_5 := n0_; have HB := n1_; clear n0_ n1_)); have p40 : 0 ≤ (t233 : Int) := of_decide_eq_true (by first | (with_reducible assumption) | assumption); have q40 : (t233 : Int) < ((x5_4.length : Int) : Int) := of_decide_eq_true (by first | (with_reducible assumption) | assumption); obtain ⟨hx40_0, hf40_0⟩ := Kd.R_celln false HO_5.out (t233 : Int) p40 q40; replace p40 := eq_true p40; replace q40 := eq_true q40; obtain ⟨hy42_, hz42_⟩ := Kd.R_celln false HO_5.out (t233 : Int) (of_decide_eq_true (by first | (with_reducible assumption) | assumption)) (of_decide_eq_true (by first | (with_reducible assumption) | assumption)); have HP42 := Kd.R_putg HO_5.out (t233 : Int) true) | ((with_reducible refine gate_store (t := 4) (p := 80) rfl ?_); refine store_event (t := 4) (p := 80) (v := ?vo_w43) (w1 := (w41.setCell ⟨go16, (t233 : Int).toNat, none⟩ (.bool true))) ?hg ?ho ?hn ?hr ?_; (case ho => rfl); (case hg => rfl); (case hn => rfl); (case hr => first | (go_simp; done) | (go_simp; rfl)); intro w43 hw; have hg : w41.grownBy w43 (some go16) := (by rw [hw]; exact HP42.2); have hp_ : Kd.R Kd.bool 4 w43 w.heap.size (fun _ => True) (.slice (some ⟨go16, 0, none⟩) x5_4.length co16) y234 := (by rw [hw, Ny234.out]; exact HP42.1); clear HP42; have n0_ := Aside0.mk (hp_); have n1_ := Aside0.mk ((by rw [hw]; exact below_set (HB.out) GB16.out : Below w.heap.size w w43)); clear HO_5; clear HB; have HO_5 := n0_; have HB := n1_; clear n0_ n1_; clear hg hw hp_))
                           (try simp only [← hl5_4])
                           go_roundg kj20
                           case measure => have := HJ5.out; have := HK2.out; have := HK3.out; have := HK4.out; have := HJ20.out; omega
                           case rel => exact ⟨(y234), (wrap64 (x9_4 + 1)), (by first | rfl | (simp; done) | (simp [*]; done)), H', ⟨by have := HJ5.out; have := HK2.out; have := HK3.out; have := HK4.out; have := HJ20.out; omega⟩, ⟨by (try simp only [hl5_2]); (try simp only [hl5_3]); (try simp only [hl5_4]); (with_reducible repeat (first | apply Kd.R_alloc | apply Kd.R_drewN | apply Kd.R_drew)); exact HO_5.out⟩, ⟨by repeat (first | (with_reducible first | exact HB.out | apply below_alloc | apply pw_below_drewN | apply below_drew1) | exact HB.out)⟩⟩
                          ·rw [if_neg c39] at H
                           exact absurd H (by simp)
                         ·rw [if_neg c38] at H
                          exact absurd H (by simp)
                        ·rw [if_neg c36] at H
                         have c36b0 : decide (0 ≤ t232) = false := decide_eq_false c36
                         clear c36
                         have H' := Aside0.mk H
                         clear H
                         have p229 : 0 ≤ (x8_3 : Int) := of_decide_eq_true (by first | (with_reducible assumption) | assumption)
                         have q229 : x8_3 < (l0.length : Int) := of_decide_eq_true (by first | (with_reducible assumption) | assumption)
                         obtain ⟨ad229, A229_1, c229_1, e229, hx229_0, hx229_1, hl229_1, hi229_1⟩ := at_T43 HR0.out x8_3 p229 q229
                         cases e229
                         replace hx229_0 := (HB.out.cell (World.block_lt_of_cell? w _ hx229_0)).trans hx229_0
                         replace hx229_1 := (HB.out.cell (World.block_lt_of_cell? w _ hx229_1)).trans hx229_1
                         have HR229_1 := Aside0.mk hi229_1
                         have HC229_1 := Aside0.mk hl229_1
                         clear hi229_1 hl229_1
                         replace p229 := eq_true p229
                         replace q229 := eq_true q229
                         have p230 : 0 ≤ (x9_4 : Int) := of_decide_eq_true (by first | (with_reducible assumption) | assumption)
                         have q230 : x9_4 < (((rd_T43 l0 x8_3).f1).length : Int) := of_decide_eq_true (by first | (with_reducible assumption) | assumption)
                         obtain ⟨ad230, e230, hx230_0, hx230_1⟩ := at_T48 HR229_1.out x9_4 p230 q230
                         cases e230
                         replace hx230_0 := (HB.out.cell (World.block_lt_of_cell? w _ hx230_0)).trans hx230_0
                         replace hx230_1 := (HB.out.cell (World.block_lt_of_cell? w _ hx230_1)).trans hx230_1
                         replace p230 := eq_true p230
                         replace q230 := eq_true q230
                         go_wp2_with (first | ((with_reducible refine gate_callee (f := 14) rfl ?_); refine goesL_ (some 67) rfl rfl Try.func14 (by kernel_rfl) rfl #[.string ((rd_T48 ((rd_T43 l0 x8_3).f1) x9_4).f1)] rfl (by (try simp only [List.map_toArray, List.map_cons, List.map_nil]); first | done | rfl | (simp only [List.length_drop, List.length_take]; rfl)) ?_; (with_reducible refine (truantref03_Elem.calls kj20 ((rd_T48 ((rd_T43 l0 x8_3).f1) x9_4).f1) t231 _ A32.out).mono ?_); rintro e w44 ⟨rfl, hb⟩; refine ⟨_, rfl, ?_⟩; have n0_ := Aside0.mk (Kd.R_below (by (with_reducible repeat (first | apply Kd.R_alloc | apply Kd.R_drewN | apply Kd.R_drew)); exact HO_5.out) hb); have n1_ := Aside0.mk (below_step (by repeat (first | (with_reducible first | exact HB.out | apply below_alloc | apply pw_below_drewN | apply below_drew1) | exact HB.out)) hb); clear HO_5; clear HB; have HO_5 := n0_; have HB := n1_; clear n0_ n1_; (try clear hb); (try clear hb2); (try clear hk); (try clear hi)) | (go_at_call 13; (with_reducible refine (truantref03_Find.calls kj20 _ _ l0 t231 t232 _ ?side1 ?side2 A35.out).mono ?_); (case side1 => repeat (first | exact (Kd.C_below HR0.out HB.out) | (with_reducible refine Kd.C_alloc ?_ _) | (with_reducible refine Kd.C_drewN ?_ _) | (with_reducible refine Kd.C_drew ?_))); (case side2 => exact HC0.out); rintro e w' ⟨rfl, ⟨nd, rfl⟩⟩))
                         (try simp only [← hl5_4])
                         go_roundg kj20
                         case measure => have := HJ5.out; have := HK2.out; have := HK3.out; have := HK4.out; have := HJ20.out; omega
                         case rel => exact ⟨(x5_4), (wrap64 (x9_4 + 1)), (by first | rfl | (simp; done) | (simp [*]; done)), H', ⟨by have := HJ5.out; have := HK2.out; have := HK3.out; have := HK4.out; have := HJ20.out; omega⟩, ⟨by (try simp only [hl5_2]); (try simp only [hl5_3]); (try simp only [hl5_4]); (with_reducible repeat (first | apply Kd.R_alloc | apply Kd.R_drewN | apply Kd.R_drew)); exact HO_5.out⟩, ⟨by repeat (first | (with_reducible first | exact HB.out | apply below_alloc | apply pw_below_drewN | apply below_drew1) | exact HB.out)⟩⟩
                      ·rw [if_neg c31] at H
                       exact absurd H (by simp)
                     ·rw [if_neg c30] at H
                      exact absurd H (by simp)
                    ·rw [if_neg c29] at H
                     exact absurd H (by simp)
                   ·rw [if_neg c28] at H
                    exact absurd H (by simp)
                  ·replace c27 := Bool.eq_false_iff.mpr c27
                   subst c27
                   have H1 : (truantref03_Reach.l1 kj20 l0 x5_4 x7_2 (wrap64 (x8_3 + 1))) = some r := by rw [if_neg (show ¬ (false = true) by decide)] at H; exact H
                   clear H
                   have H := H1
                   clear H1
                   have H' := Aside0.mk H
                   clear H
                   go_wp2
                   (try simp only [← hl5_3, ← hl5_4])
                   go_roundg kj20
                   case measure => have := HJ5.out; have := HK2.out; have := HK3.out; have := HK4.out; have := HJ20.out; omega
                   case rel => exact ⟨(x5_4), (wrap64 (x8_3 + 1)), (by first | rfl | (simp; done) | (simp [*]; done)), H', ⟨by have := HJ5.out; have := HK2.out; have := HK3.out; have := HK4.out; have := HJ20.out; omega⟩, ⟨by (try simp only [hl5_2]); (try simp only [hl5_3]); (try simp only [hl5_4]); (with_reducible repeat (first | apply Kd.R_alloc | apply Kd.R_drewN | apply Kd.R_drew)); exact HO_5.out⟩, ⟨by repeat (first | (with_reducible first | exact HB.out | apply below_alloc | apply pw_below_drewN | apply below_drew1) | exact HB.out)⟩⟩
             ·rw [if_neg c20] at H
              have c20b0 : decide (x8_3 < (l0.length : Int)) = false := decide_eq_false c20
              clear c20
              have H' := Aside0.mk H
              clear H
              go_wp2
              (try simp only [← hl5_2, ← hl5_3])
              go_roundg k3
              case measure => have := HJ5.out; have := HK2.out; have := HK3.out; omega
              case rel => exact ⟨(x5_3), (wrap64 (x7_2 + 1)), (by first | rfl | (simp; done) | (simp [*]; done)), H', ⟨by have := HJ5.out; have := HK2.out; have := HK3.out; omega⟩, ⟨by (try simp only [hl5_2]); (try simp only [hl5_3]); (with_reducible repeat (first | apply Kd.R_alloc | apply Kd.R_drewN | apply Kd.R_drew)); exact HO_5.out⟩, ⟨by repeat (first | (with_reducible first | exact HB.out | apply below_alloc | apply pw_below_drewN | apply below_drew1) | exact HB.out)⟩⟩
          ·rw [if_neg c19] at H
           have c19b0 : decide (x7_2 < (l0.length : Int)) = false := decide_eq_false c19
           clear c19
           obtain rfl := Option.some.inj H
           go_wp2
           go_ret
           exact ⟨_, by first | rfl | (simp [errW_none, errW_some] <;> rfl) | (simp [*, errW_none, errW_some] <;> rfl), by (with_reducible repeat (first | apply Kd.R_alloc | apply Kd.R_drewN | apply Kd.R_drew)); exact HO_5.out, by repeat (first | (with_reducible first | exact HB.out | apply below_alloc | apply pw_below_drewN | apply below_drew1) | exact HB.out)⟩
       ·rw [if_neg c15] at H
        exact absurd H (by simp)
      ·rw [if_neg c14] at H
       exact absurd H (by simp)
  ·rw [if_neg c4] at H
   exact absurd H (by simp)
 ·rw [if_neg c3] at H
  exact absurd H (by simp)

end Go.Proofs.Ythpglaekdadehaa.Q

namespace Go.Proofs.Ythpglaekdadehaa.Q
open Go.RowKit Go.Proofs.YthpglaekdadehaaW.PrintWords Go.Proofs.YthpglaekdadehaaW.PrintLast Go.Proofs.YthpglaekdadehaaW.PrintMore
attribute [local go_sem] max2_int min2_int max_two min_two max_three min_three max_four min_four   -- for this text's walks alone
set_option linter.unusedVariables false
set_option linter.unusedSimpArgs false

/-! ### truantlaw03_KindExact: function 3 -/
def truantlaw03_KindExact.l0 : Nat → List (S43) → List ByteArray → List Bool → Int → Int → Option (Bool)
 | 0, _, _, _, _, _ => none
 | k + 1, x0, x16, x17, x18, x19 => if x19 < (x0.length : Int) then (if 0 ≤ x19 then (if x19 < (x17.length : Int) then (if rdOf false x17 x19 = true then (if x18 ≥ (x16.length : Int) then (none) else (if 0 ≤ x18 then (if x18 < (x16.length : Int) then (if (rdOf ByteArray.empty x16 x18).toList = ((rd_T43 x0 x19).f0).toList then (truantlaw03_KindExact.l0 k x0 x16 x17 (wrap64 (x18 + 1)) (wrap64 (x19 + 1))) else (none)) else (none)) else (none))) else (truantlaw03_KindExact.l0 k x0 x16 x17 x18 (wrap64 (x19 + 1)))) else (none)) else (none)) else (some (x18 == (x16.length : Int)))
def truantlaw03_KindExact.f (k : Nat) (l0 : List (S43)) (a1 : ByteArray) (a2 : ByteArray) : Option (Bool) := (truantlaw03_awake.f k).bind fun t235 => (if t235 = true then ((truantlaw03_great.f k l0).bind fun t236 => (if t236 = true then (some true) else (if (a1.size : Int) > 100 then (some true) else (if (a2.size : Int) > 100 then (some true) else ((kind_Check.f k l0).bind fun bt237 => ((truantref03_Check.f k l0).bind fun bt239 => ((kind_Elem.f k a1).bind fun bt241 => ((kind_Find.f l0 a2).bind fun bt243 => ((truantref03_Find.f k l0 a2).bind fun t245 => (if bt237.1 = bt239.1 then (if bt237.2 = bt239.2 then ((truantref03_Elem.f k a1).bind fun t246 => (if bt241.1.toList = t246.toList then (if (bt241.2 != (bt241.1.toList != ([] : List UInt8))) = true then (none) else (if (bt243.2 != (decide (t245 ≥ 0))) = true then (none) else (if bt243.2 = true then (if bt243.1 = t245 then ((kind_Is.f k l0 a1).bind fun t247 => ((truantref03_Is.f k l0 a1).bind fun t248 => (if (t247 != t248) = true then (none) else ((kind_Pointer.f a2).bind fun t249 => (if 1 + a2.size ≤ 9223372036854775807 then (if t249.toList = ((⟨#[42]⟩ : ByteArray) ++ a2).toList then ((kind_Reach.f k l0 a1).bind fun t250 => ((truantref03_Reach.f k l0 a1).bind fun t253 => (truantlaw03_KindExact.l0 k l0 t250 t253 0 0))) else (none)) else (none)))))) else (none)) else (if bt243.1 = 0 then ((kind_Is.f k l0 a1).bind fun t259 => ((truantref03_Is.f k l0 a1).bind fun t260 => (if (t259 != t260) = true then (none) else ((kind_Pointer.f a2).bind fun t261 => (if 1 + a2.size ≤ 9223372036854775807 then (if t261.toList = ((⟨#[42]⟩ : ByteArray) ++ a2).toList then ((kind_Reach.f k l0 a1).bind fun t262 => ((truantref03_Reach.f k l0 a1).bind fun t265 => (truantlaw03_KindExact.l0 k l0 t262 t265 0 0))) else (none)) else (none)))))) else (none))))) else (none))) else (none)) else (none))))))))))) else (none))
theorem truantlaw03_KindExact.mono_l : ∀ k, (∀ y0 y1 y2 y3 y4, LeO (truantlaw03_KindExact.l0 k y0 y1 y2 y3 y4) (truantlaw03_KindExact.l0 (k + 1) y0 y1 y2 y3 y4))
 | 0 => fun _ _ _ _ _ r h => by simp [truantlaw03_KindExact.l0] at h
 | k + 1 => by
  have ih0 := truantlaw03_KindExact.mono_l k
  ·intro y0 y1 y2 y3 y4
   unfold truantlaw03_KindExact.l0
   repeat' first
   | (with_reducible exact ih0 _ _ _ _ _)
   | (with_reducible exact kind_Check.mono _ _)
   | (with_reducible exact kind_Elem.mono _ _)
   | (with_reducible exact kind_Is.mono _ _ _)
   | (with_reducible exact kind_Reach.mono _ _ _)
   | (with_reducible exact truantlaw03_awake.mono _)
   | (with_reducible exact truantlaw03_great.mono _ _)
   | (with_reducible exact truantref03_Check.mono _ _)
   | (with_reducible exact truantref03_Elem.mono _ _)
   | (with_reducible exact truantref03_Find.mono _ _ _)
   | (with_reducible exact truantref03_Is.mono _ _ _)
   | (with_reducible exact truantref03_Reach.mono _ _ _)
   | (with_reducible exact LeO.refl _)
   | (with_reducible exact LeO.none _)
   | (with_reducible refine LeO.ite ?_ ?_)
   | (with_reducible refine LeO.bind ?_ (fun _ => ?_))
   | exact ih0 _ _ _ _ _
   | exact kind_Check.mono _ _
   | exact kind_Elem.mono _ _
   | exact kind_Is.mono _ _ _
   | exact kind_Reach.mono _ _ _
   | exact truantlaw03_awake.mono _
   | exact truantlaw03_great.mono _ _
   | exact truantref03_Check.mono _ _
   | exact truantref03_Elem.mono _ _
   | exact truantref03_Find.mono _ _ _
   | exact truantref03_Is.mono _ _ _
   | exact truantref03_Reach.mono _ _ _
   | exact LeO.none _
   | refine LeO.ite ?_ ?_
   | refine LeO.bind ?_ (fun _ => ?_)
theorem truantlaw03_KindExact.mono : ∀ a0 a1 a2 k, LeO (truantlaw03_KindExact.f k a0 a1 a2) (truantlaw03_KindExact.f (k + 1) a0 a1 a2) := by
 intro a0 a1 a2 k
 have ih0 := truantlaw03_KindExact.mono_l k
 unfold truantlaw03_KindExact.f
 repeat' first
   | (with_reducible exact ih0 _ _ _ _ _)
   | (with_reducible exact kind_Check.mono _ _)
   | (with_reducible exact kind_Elem.mono _ _)
   | (with_reducible exact kind_Is.mono _ _ _)
   | (with_reducible exact kind_Reach.mono _ _ _)
   | (with_reducible exact truantlaw03_awake.mono _)
   | (with_reducible exact truantlaw03_great.mono _ _)
   | (with_reducible exact truantref03_Check.mono _ _)
   | (with_reducible exact truantref03_Elem.mono _ _)
   | (with_reducible exact truantref03_Find.mono _ _ _)
   | (with_reducible exact truantref03_Is.mono _ _ _)
   | (with_reducible exact truantref03_Reach.mono _ _ _)
   | (with_reducible exact LeO.refl _)
   | (with_reducible exact LeO.none _)
   | (with_reducible refine LeO.ite ?_ ?_)
   | (with_reducible refine LeO.bind ?_ (fun _ => ?_))
   | exact ih0 _ _ _ _ _
   | exact kind_Check.mono _ _
   | exact kind_Elem.mono _ _
   | exact kind_Is.mono _ _ _
   | exact kind_Reach.mono _ _ _
   | exact truantlaw03_awake.mono _
   | exact truantlaw03_great.mono _ _
   | exact truantref03_Check.mono _ _
   | exact truantref03_Elem.mono _ _
   | exact truantref03_Find.mono _ _ _
   | exact truantref03_Is.mono _ _ _
   | exact truantref03_Reach.mono _ _ _
   | exact LeO.none _
   | refine LeO.ite ?_ ?_
   | refine LeO.bind ?_ (fun _ => ?_)
set_option maxHeartbeats 8000000 in
set_option maxRecDepth 100000 in
theorem truantlaw03_KindExact.calls (k : Nat) (A0 : Option Addr) (c0 : Nat) (l0 : List (S43)) (a1 : ByteArray) (a2 : ByteArray) (r : Bool) (w : World) (hr0 : Kd.C k43 w A0 l0.length l0) (hc0 : l0.length ≤ c0) (h : truantlaw03_KindExact.f k l0 a1 a2 = some r) :
  Calls Try.prog 3 #[.slice A0 l0.length c0, .string a1, .string a2] w fun e w' => e = .returned (.bool r) ∧ Below w.heap.size w w' := by
 have HR0 := Aside0.mk hr0
 have HC0 := Aside0.mk hc0
 clear hr0 hc0
 have HB := Aside0.mk (Below.refl w.heap.size w)
 have H : ((truantlaw03_awake.f k).bind fun t235 => (if t235 = true then ((truantlaw03_great.f k l0).bind fun t236 => (if t236 = true then (some true) else (if (a1.size : Int) > 100 then (some true) else (if (a2.size : Int) > 100 then (some true) else ((kind_Check.f k l0).bind fun bt237 => ((truantref03_Check.f k l0).bind fun bt239 => ((kind_Elem.f k a1).bind fun bt241 => ((kind_Find.f l0 a2).bind fun bt243 => ((truantref03_Find.f k l0 a2).bind fun t245 => (if bt237.1 = bt239.1 then (if bt237.2 = bt239.2 then ((truantref03_Elem.f k a1).bind fun t246 => (if bt241.1.toList = t246.toList then (if (bt241.2 != (bt241.1.toList != ([] : List UInt8))) = true then (none) else (if (bt243.2 != (decide (t245 ≥ 0))) = true then (none) else (if bt243.2 = true then (if bt243.1 = t245 then ((kind_Is.f k l0 a1).bind fun t247 => ((truantref03_Is.f k l0 a1).bind fun t248 => (if (t247 != t248) = true then (none) else ((kind_Pointer.f a2).bind fun t249 => (if 1 + a2.size ≤ 9223372036854775807 then (if t249.toList = ((⟨#[42]⟩ : ByteArray) ++ a2).toList then ((kind_Reach.f k l0 a1).bind fun t250 => ((truantref03_Reach.f k l0 a1).bind fun t253 => (truantlaw03_KindExact.l0 k l0 t250 t253 0 0))) else (none)) else (none)))))) else (none)) else (if bt243.1 = 0 then ((kind_Is.f k l0 a1).bind fun t259 => ((truantref03_Is.f k l0 a1).bind fun t260 => (if (t259 != t260) = true then (none) else ((kind_Pointer.f a2).bind fun t261 => (if 1 + a2.size ≤ 9223372036854775807 then (if t261.toList = ((⟨#[42]⟩ : ByteArray) ++ a2).toList then ((kind_Reach.f k l0 a1).bind fun t262 => ((truantref03_Reach.f k l0 a1).bind fun t265 => (truantlaw03_KindExact.l0 k l0 t262 t265 0 0))) else (none)) else (none)))))) else (none))))) else (none))) else (none)) else (none))))))))))) else (none))) = some r := h
 clear h
 replace H := Option.bind_eq_some_iff.mp H
 obtain ⟨t235, A40, H⟩ := H
 replace H : (if t235 = true then ((truantlaw03_great.f k l0).bind fun t236 => (if t236 = true then (some true) else (if (a1.size : Int) > 100 then (some true) else (if (a2.size : Int) > 100 then (some true) else ((kind_Check.f k l0).bind fun bt237 => ((truantref03_Check.f k l0).bind fun bt239 => ((kind_Elem.f k a1).bind fun bt241 => ((kind_Find.f l0 a2).bind fun bt243 => ((truantref03_Find.f k l0 a2).bind fun t245 => (if bt237.1 = bt239.1 then (if bt237.2 = bt239.2 then ((truantref03_Elem.f k a1).bind fun t246 => (if bt241.1.toList = t246.toList then (if (bt241.2 != (bt241.1.toList != ([] : List UInt8))) = true then (none) else (if (bt243.2 != (decide (t245 ≥ 0))) = true then (none) else (if bt243.2 = true then (if bt243.1 = t245 then ((kind_Is.f k l0 a1).bind fun t247 => ((truantref03_Is.f k l0 a1).bind fun t248 => (if (t247 != t248) = true then (none) else ((kind_Pointer.f a2).bind fun t249 => (if 1 + a2.size ≤ 9223372036854775807 then (if t249.toList = ((⟨#[42]⟩ : ByteArray) ++ a2).toList then ((kind_Reach.f k l0 a1).bind fun t250 => ((truantref03_Reach.f k l0 a1).bind fun t253 => (truantlaw03_KindExact.l0 k l0 t250 t253 0 0))) else (none)) else (none)))))) else (none)) else (if bt243.1 = 0 then ((kind_Is.f k l0 a1).bind fun t259 => ((truantref03_Is.f k l0 a1).bind fun t260 => (if (t259 != t260) = true then (none) else ((kind_Pointer.f a2).bind fun t261 => (if 1 + a2.size ≤ 9223372036854775807 then (if t261.toList = ((⟨#[42]⟩ : ByteArray) ++ a2).toList then ((kind_Reach.f k l0 a1).bind fun t262 => ((truantref03_Reach.f k l0 a1).bind fun t265 => (truantlaw03_KindExact.l0 k l0 t262 t265 0 0))) else (none)) else (none)))))) else (none))))) else (none))) else (none)) else (none))))))))))) else (none)) = some r := H
 have A4 := Aside0.mk A40
 clear A40
 by_cases c5 : t235 = true
 ·subst c5
  have H1 : ((truantlaw03_great.f k l0).bind fun t236 => (if t236 = true then (some true) else (if (a1.size : Int) > 100 then (some true) else (if (a2.size : Int) > 100 then (some true) else ((kind_Check.f k l0).bind fun bt237 => ((truantref03_Check.f k l0).bind fun bt239 => ((kind_Elem.f k a1).bind fun bt241 => ((kind_Find.f l0 a2).bind fun bt243 => ((truantref03_Find.f k l0 a2).bind fun t245 => (if bt237.1 = bt239.1 then (if bt237.2 = bt239.2 then ((truantref03_Elem.f k a1).bind fun t246 => (if bt241.1.toList = t246.toList then (if (bt241.2 != (bt241.1.toList != ([] : List UInt8))) = true then (none) else (if (bt243.2 != (decide (t245 ≥ 0))) = true then (none) else (if bt243.2 = true then (if bt243.1 = t245 then ((kind_Is.f k l0 a1).bind fun t247 => ((truantref03_Is.f k l0 a1).bind fun t248 => (if (t247 != t248) = true then (none) else ((kind_Pointer.f a2).bind fun t249 => (if 1 + a2.size ≤ 9223372036854775807 then (if t249.toList = ((⟨#[42]⟩ : ByteArray) ++ a2).toList then ((kind_Reach.f k l0 a1).bind fun t250 => ((truantref03_Reach.f k l0 a1).bind fun t253 => (truantlaw03_KindExact.l0 k l0 t250 t253 0 0))) else (none)) else (none)))))) else (none)) else (if bt243.1 = 0 then ((kind_Is.f k l0 a1).bind fun t259 => ((truantref03_Is.f k l0 a1).bind fun t260 => (if (t259 != t260) = true then (none) else ((kind_Pointer.f a2).bind fun t261 => (if 1 + a2.size ≤ 9223372036854775807 then (if t261.toList = ((⟨#[42]⟩ : ByteArray) ++ a2).toList then ((kind_Reach.f k l0 a1).bind fun t262 => ((truantref03_Reach.f k l0 a1).bind fun t265 => (truantlaw03_KindExact.l0 k l0 t262 t265 0 0))) else (none)) else (none)))))) else (none))))) else (none))) else (none)) else (none))))))))))) = some r := by rw [if_pos rfl] at H; exact H
  clear H
  have H := H1
  clear H1
  replace H := Option.bind_eq_some_iff.mp H
  obtain ⟨t236, A60, H⟩ := H
  replace H : (if t236 = true then (some true) else (if (a1.size : Int) > 100 then (some true) else (if (a2.size : Int) > 100 then (some true) else ((kind_Check.f k l0).bind fun bt237 => ((truantref03_Check.f k l0).bind fun bt239 => ((kind_Elem.f k a1).bind fun bt241 => ((kind_Find.f l0 a2).bind fun bt243 => ((truantref03_Find.f k l0 a2).bind fun t245 => (if bt237.1 = bt239.1 then (if bt237.2 = bt239.2 then ((truantref03_Elem.f k a1).bind fun t246 => (if bt241.1.toList = t246.toList then (if (bt241.2 != (bt241.1.toList != ([] : List UInt8))) = true then (none) else (if (bt243.2 != (decide (t245 ≥ 0))) = true then (none) else (if bt243.2 = true then (if bt243.1 = t245 then ((kind_Is.f k l0 a1).bind fun t247 => ((truantref03_Is.f k l0 a1).bind fun t248 => (if (t247 != t248) = true then (none) else ((kind_Pointer.f a2).bind fun t249 => (if 1 + a2.size ≤ 9223372036854775807 then (if t249.toList = ((⟨#[42]⟩ : ByteArray) ++ a2).toList then ((kind_Reach.f k l0 a1).bind fun t250 => ((truantref03_Reach.f k l0 a1).bind fun t253 => (truantlaw03_KindExact.l0 k l0 t250 t253 0 0))) else (none)) else (none)))))) else (none)) else (if bt243.1 = 0 then ((kind_Is.f k l0 a1).bind fun t259 => ((truantref03_Is.f k l0 a1).bind fun t260 => (if (t259 != t260) = true then (none) else ((kind_Pointer.f a2).bind fun t261 => (if 1 + a2.size ≤ 9223372036854775807 then (if t261.toList = ((⟨#[42]⟩ : ByteArray) ++ a2).toList then ((kind_Reach.f k l0 a1).bind fun t262 => ((truantref03_Reach.f k l0 a1).bind fun t265 => (truantlaw03_KindExact.l0 k l0 t262 t265 0 0))) else (none)) else (none)))))) else (none))))) else (none))) else (none)) else (none)))))))))) = some r := H
  have A6 := Aside0.mk A60
  clear A60
  by_cases c7 : t236 = true
  ·subst c7
   have H1 : (some true) = some r := by rw [if_pos rfl] at H; exact H
   clear H
   have H := H1
   clear H1
   obtain rfl := Option.some.inj H
   go_enter Try.func3, Try.ntmps3
   go_wp2_with (first | (go_at_call 7; (with_reducible refine (truantlaw03_awake.calls k  true _ A4.out).mono ?_); rintro e w8 ⟨rfl, hb⟩; have n0_ := Aside0.mk (below_step (by repeat (first | (with_reducible first | exact HB.out | apply below_alloc | apply pw_below_drewN | apply below_drew1) | exact HB.out)) hb); clear HB; have HB := n0_; clear n0_; (try clear hb); (try clear hb2); (try clear hk); (try clear hi)) | (go_at_call 8; (with_reducible refine (truantlaw03_great.calls k _ _ l0 true _ ?side1 ?side2 A6.out).mono ?_); (case side1 => repeat (first | exact (Kd.C_below HR0.out HB.out) | (with_reducible refine Kd.C_alloc ?_ _) | (with_reducible refine Kd.C_drewN ?_ _) | (with_reducible refine Kd.C_drew ?_))); (case side2 => exact HC0.out); rintro e w' ⟨rfl, ⟨nd, rfl⟩⟩; (try first | exact ⟨rfl, _, World.drewN_drewN _ _ _⟩ | exact ⟨rfl, _, Eq.trans (World.drewN_drewN _ _ _) (congrArg (World.drewN _) (Nat.add_assoc _ _ _))⟩)))
   repeat (go_quiet (first | (go_at_call 7; (with_reducible refine (truantlaw03_awake.calls k  true _ A4.out).mono ?_); rintro e w8 ⟨rfl, hb⟩; have n0_ := Aside0.mk (below_step (by repeat (first | (with_reducible first | exact HB.out | apply below_alloc | apply pw_below_drewN | apply below_drew1) | exact HB.out)) hb); clear HB; have HB := n0_; clear n0_; (try clear hb); (try clear hb2); (try clear hk); (try clear hi)) | (go_at_call 8; (with_reducible refine (truantlaw03_great.calls k _ _ l0 true _ ?side1 ?side2 A6.out).mono ?_); (case side1 => repeat (first | exact (Kd.C_below HR0.out HB.out) | (with_reducible refine Kd.C_alloc ?_ _) | (with_reducible refine Kd.C_drewN ?_ _) | (with_reducible refine Kd.C_drew ?_))); (case side2 => exact HC0.out); rintro e w' ⟨rfl, ⟨nd, rfl⟩⟩; (try first | exact ⟨rfl, _, World.drewN_drewN _ _ _⟩ | exact ⟨rfl, _, Eq.trans (World.drewN_drewN _ _ _) (congrArg (World.drewN _) (Nat.add_assoc _ _ _))⟩))); try go_wp2_with (first | (go_at_call 7; (with_reducible refine (truantlaw03_awake.calls k  true _ A4.out).mono ?_); rintro e w8 ⟨rfl, hb⟩; have n0_ := Aside0.mk (below_step (by repeat (first | (with_reducible first | exact HB.out | apply below_alloc | apply pw_below_drewN | apply below_drew1) | exact HB.out)) hb); clear HB; have HB := n0_; clear n0_; (try clear hb); (try clear hb2); (try clear hk); (try clear hi)) | (go_at_call 8; (with_reducible refine (truantlaw03_great.calls k _ _ l0 true _ ?side1 ?side2 A6.out).mono ?_); (case side1 => repeat (first | exact (Kd.C_below HR0.out HB.out) | (with_reducible refine Kd.C_alloc ?_ _) | (with_reducible refine Kd.C_drewN ?_ _) | (with_reducible refine Kd.C_drew ?_))); (case side2 => exact HC0.out); rintro e w' ⟨rfl, ⟨nd, rfl⟩⟩; (try first | exact ⟨rfl, _, World.drewN_drewN _ _ _⟩ | exact ⟨rfl, _, Eq.trans (World.drewN_drewN _ _ _) (congrArg (World.drewN _) (Nat.add_assoc _ _ _))⟩))))
   go_ret
   exact ⟨by first | rfl | (simp [errW_none, errW_some] <;> rfl) | (simp [*, errW_none, errW_some] <;> rfl), by repeat (first | (with_reducible first | exact HB.out | apply below_alloc | apply pw_below_drewN | apply below_drew1) | exact HB.out)⟩
  ·replace c7 := Bool.eq_false_iff.mpr c7
   subst c7
   have H1 : (if (a1.size : Int) > 100 then (some true) else (if (a2.size : Int) > 100 then (some true) else ((kind_Check.f k l0).bind fun bt237 => ((truantref03_Check.f k l0).bind fun bt239 => ((kind_Elem.f k a1).bind fun bt241 => ((kind_Find.f l0 a2).bind fun bt243 => ((truantref03_Find.f k l0 a2).bind fun t245 => (if bt237.1 = bt239.1 then (if bt237.2 = bt239.2 then ((truantref03_Elem.f k a1).bind fun t246 => (if bt241.1.toList = t246.toList then (if (bt241.2 != (bt241.1.toList != ([] : List UInt8))) = true then (none) else (if (bt243.2 != (decide (t245 ≥ 0))) = true then (none) else (if bt243.2 = true then (if bt243.1 = t245 then ((kind_Is.f k l0 a1).bind fun t247 => ((truantref03_Is.f k l0 a1).bind fun t248 => (if (t247 != t248) = true then (none) else ((kind_Pointer.f a2).bind fun t249 => (if 1 + a2.size ≤ 9223372036854775807 then (if t249.toList = ((⟨#[42]⟩ : ByteArray) ++ a2).toList then ((kind_Reach.f k l0 a1).bind fun t250 => ((truantref03_Reach.f k l0 a1).bind fun t253 => (truantlaw03_KindExact.l0 k l0 t250 t253 0 0))) else (none)) else (none)))))) else (none)) else (if bt243.1 = 0 then ((kind_Is.f k l0 a1).bind fun t259 => ((truantref03_Is.f k l0 a1).bind fun t260 => (if (t259 != t260) = true then (none) else ((kind_Pointer.f a2).bind fun t261 => (if 1 + a2.size ≤ 9223372036854775807 then (if t261.toList = ((⟨#[42]⟩ : ByteArray) ++ a2).toList then ((kind_Reach.f k l0 a1).bind fun t262 => ((truantref03_Reach.f k l0 a1).bind fun t265 => (truantlaw03_KindExact.l0 k l0 t262 t265 0 0))) else (none)) else (none)))))) else (none))))) else (none))) else (none)) else (none))))))))) = some r := by rw [if_neg (show ¬ (false = true) by decide)] at H; exact H
   clear H
   have H := H1
   clear H1
   by_cases c9 : (a1.size : Int) > 100
   ·rw [if_pos c9] at H
    have c9b0 : decide (100 < (a1.size : Int)) = true := decide_eq_true c9
    have c9b1 : decide (100 < a1.size) = true := decide_eq_true (by omega)
    clear c9
    obtain rfl := Option.some.inj H
    go_enter Try.func3, Try.ntmps3
    go_wp2_with (first | (go_at_call 7; (with_reducible refine (truantlaw03_awake.calls k  true _ A4.out).mono ?_); rintro e w10 ⟨rfl, hb⟩; have n0_ := Aside0.mk (below_step (by repeat (first | (with_reducible first | exact HB.out | apply below_alloc | apply pw_below_drewN | apply below_drew1) | exact HB.out)) hb); clear HB; have HB := n0_; clear n0_; (try clear hb); (try clear hb2); (try clear hk); (try clear hi)) | (go_at_call 8; (with_reducible refine (truantlaw03_great.calls k _ _ l0 false _ ?side1 ?side2 A6.out).mono ?_); (case side1 => repeat (first | exact (Kd.C_below HR0.out HB.out) | (with_reducible refine Kd.C_alloc ?_ _) | (with_reducible refine Kd.C_drewN ?_ _) | (with_reducible refine Kd.C_drew ?_))); (case side2 => exact HC0.out); rintro e w' ⟨rfl, ⟨nd, rfl⟩⟩; (try first | exact ⟨rfl, _, World.drewN_drewN _ _ _⟩ | exact ⟨rfl, _, Eq.trans (World.drewN_drewN _ _ _) (congrArg (World.drewN _) (Nat.add_assoc _ _ _))⟩)))
    repeat (go_quiet (first | (go_at_call 7; (with_reducible refine (truantlaw03_awake.calls k  true _ A4.out).mono ?_); rintro e w10 ⟨rfl, hb⟩; have n0_ := Aside0.mk (below_step (by repeat (first | (with_reducible first | exact HB.out | apply below_alloc | apply pw_below_drewN | apply below_drew1) | exact HB.out)) hb); clear HB; have HB := n0_; clear n0_; (try clear hb); (try clear hb2); (try clear hk); (try clear hi)) | (go_at_call 8; (with_reducible refine (truantlaw03_great.calls k _ _ l0 false _ ?side1 ?side2 A6.out).mono ?_); (case side1 => repeat (first | exact (Kd.C_below HR0.out HB.out) | (with_reducible refine Kd.C_alloc ?_ _) | (with_reducible refine Kd.C_drewN ?_ _) | (with_reducible refine Kd.C_drew ?_))); (case side2 => exact HC0.out); rintro e w' ⟨rfl, ⟨nd, rfl⟩⟩; (try first | exact ⟨rfl, _, World.drewN_drewN _ _ _⟩ | exact ⟨rfl, _, Eq.trans (World.drewN_drewN _ _ _) (congrArg (World.drewN _) (Nat.add_assoc _ _ _))⟩))); try go_wp2_with (first | (go_at_call 7; (with_reducible refine (truantlaw03_awake.calls k  true _ A4.out).mono ?_); rintro e w10 ⟨rfl, hb⟩; have n0_ := Aside0.mk (below_step (by repeat (first | (with_reducible first | exact HB.out | apply below_alloc | apply pw_below_drewN | apply below_drew1) | exact HB.out)) hb); clear HB; have HB := n0_; clear n0_; (try clear hb); (try clear hb2); (try clear hk); (try clear hi)) | (go_at_call 8; (with_reducible refine (truantlaw03_great.calls k _ _ l0 false _ ?side1 ?side2 A6.out).mono ?_); (case side1 => repeat (first | exact (Kd.C_below HR0.out HB.out) | (with_reducible refine Kd.C_alloc ?_ _) | (with_reducible refine Kd.C_drewN ?_ _) | (with_reducible refine Kd.C_drew ?_))); (case side2 => exact HC0.out); rintro e w' ⟨rfl, ⟨nd, rfl⟩⟩; (try first | exact ⟨rfl, _, World.drewN_drewN _ _ _⟩ | exact ⟨rfl, _, Eq.trans (World.drewN_drewN _ _ _) (congrArg (World.drewN _) (Nat.add_assoc _ _ _))⟩))))
    go_ret
    exact ⟨by first | rfl | (simp [errW_none, errW_some] <;> rfl) | (simp [*, errW_none, errW_some] <;> rfl), by repeat (first | (with_reducible first | exact HB.out | apply below_alloc | apply pw_below_drewN | apply below_drew1) | exact HB.out)⟩
   ·rw [if_neg c9] at H
    have c9b0 : decide (100 < (a1.size : Int)) = false := decide_eq_false c9
    have c9b1 : decide (100 < a1.size) = false := decide_eq_false (by omega)
    clear c9
    by_cases c11 : (a2.size : Int) > 100
    ·rw [if_pos c11] at H
     have c11b0 : decide (100 < (a2.size : Int)) = true := decide_eq_true c11
     have c11b1 : decide (100 < a2.size) = true := decide_eq_true (by omega)
     clear c11
     obtain rfl := Option.some.inj H
     go_enter Try.func3, Try.ntmps3
     go_wp2_with (first | (go_at_call 7; (with_reducible refine (truantlaw03_awake.calls k  true _ A4.out).mono ?_); rintro e w12 ⟨rfl, hb⟩; have n0_ := Aside0.mk (below_step (by repeat (first | (with_reducible first | exact HB.out | apply below_alloc | apply pw_below_drewN | apply below_drew1) | exact HB.out)) hb); clear HB; have HB := n0_; clear n0_; (try clear hb); (try clear hb2); (try clear hk); (try clear hi)) | (go_at_call 8; (with_reducible refine (truantlaw03_great.calls k _ _ l0 false _ ?side1 ?side2 A6.out).mono ?_); (case side1 => repeat (first | exact (Kd.C_below HR0.out HB.out) | (with_reducible refine Kd.C_alloc ?_ _) | (with_reducible refine Kd.C_drewN ?_ _) | (with_reducible refine Kd.C_drew ?_))); (case side2 => exact HC0.out); rintro e w' ⟨rfl, ⟨nd, rfl⟩⟩; (try first | exact ⟨rfl, _, World.drewN_drewN _ _ _⟩ | exact ⟨rfl, _, Eq.trans (World.drewN_drewN _ _ _) (congrArg (World.drewN _) (Nat.add_assoc _ _ _))⟩)))
     repeat (go_quiet (first | (go_at_call 7; (with_reducible refine (truantlaw03_awake.calls k  true _ A4.out).mono ?_); rintro e w12 ⟨rfl, hb⟩; have n0_ := Aside0.mk (below_step (by repeat (first | (with_reducible first | exact HB.out | apply below_alloc | apply pw_below_drewN | apply below_drew1) | exact HB.out)) hb); clear HB; have HB := n0_; clear n0_; (try clear hb); (try clear hb2); (try clear hk); (try clear hi)) | (go_at_call 8; (with_reducible refine (truantlaw03_great.calls k _ _ l0 false _ ?side1 ?side2 A6.out).mono ?_); (case side1 => repeat (first | exact (Kd.C_below HR0.out HB.out) | (with_reducible refine Kd.C_alloc ?_ _) | (with_reducible refine Kd.C_drewN ?_ _) | (with_reducible refine Kd.C_drew ?_))); (case side2 => exact HC0.out); rintro e w' ⟨rfl, ⟨nd, rfl⟩⟩; (try first | exact ⟨rfl, _, World.drewN_drewN _ _ _⟩ | exact ⟨rfl, _, Eq.trans (World.drewN_drewN _ _ _) (congrArg (World.drewN _) (Nat.add_assoc _ _ _))⟩))); try go_wp2_with (first | (go_at_call 7; (with_reducible refine (truantlaw03_awake.calls k  true _ A4.out).mono ?_); rintro e w12 ⟨rfl, hb⟩; have n0_ := Aside0.mk (below_step (by repeat (first | (with_reducible first | exact HB.out | apply below_alloc | apply pw_below_drewN | apply below_drew1) | exact HB.out)) hb); clear HB; have HB := n0_; clear n0_; (try clear hb); (try clear hb2); (try clear hk); (try clear hi)) | (go_at_call 8; (with_reducible refine (truantlaw03_great.calls k _ _ l0 false _ ?side1 ?side2 A6.out).mono ?_); (case side1 => repeat (first | exact (Kd.C_below HR0.out HB.out) | (with_reducible refine Kd.C_alloc ?_ _) | (with_reducible refine Kd.C_drewN ?_ _) | (with_reducible refine Kd.C_drew ?_))); (case side2 => exact HC0.out); rintro e w' ⟨rfl, ⟨nd, rfl⟩⟩; (try first | exact ⟨rfl, _, World.drewN_drewN _ _ _⟩ | exact ⟨rfl, _, Eq.trans (World.drewN_drewN _ _ _) (congrArg (World.drewN _) (Nat.add_assoc _ _ _))⟩))))
     go_ret
     exact ⟨by first | rfl | (simp [errW_none, errW_some] <;> rfl) | (simp [*, errW_none, errW_some] <;> rfl), by repeat (first | (with_reducible first | exact HB.out | apply below_alloc | apply pw_below_drewN | apply below_drew1) | exact HB.out)⟩
    ·rw [if_neg c11] at H
     have c11b0 : decide (100 < (a2.size : Int)) = false := decide_eq_false c11
     have c11b1 : decide (100 < a2.size) = false := decide_eq_false (by omega)
     clear c11
     replace H := Option.bind_eq_some_iff.mp H
     obtain ⟨⟨t237, t238⟩, A130, H⟩ := H
     replace H : ((truantref03_Check.f k l0).bind fun bt239 => ((kind_Elem.f k a1).bind fun bt241 => ((kind_Find.f l0 a2).bind fun bt243 => ((truantref03_Find.f k l0 a2).bind fun t245 => (if t237 = bt239.1 then (if t238 = bt239.2 then ((truantref03_Elem.f k a1).bind fun t246 => (if bt241.1.toList = t246.toList then (if (bt241.2 != (bt241.1.toList != ([] : List UInt8))) = true then (none) else (if (bt243.2 != (decide (t245 ≥ 0))) = true then (none) else (if bt243.2 = true then (if bt243.1 = t245 then ((kind_Is.f k l0 a1).bind fun t247 => ((truantref03_Is.f k l0 a1).bind fun t248 => (if (t247 != t248) = true then (none) else ((kind_Pointer.f a2).bind fun t249 => (if 1 + a2.size ≤ 9223372036854775807 then (if t249.toList = ((⟨#[42]⟩ : ByteArray) ++ a2).toList then ((kind_Reach.f k l0 a1).bind fun t250 => ((truantref03_Reach.f k l0 a1).bind fun t253 => (truantlaw03_KindExact.l0 k l0 t250 t253 0 0))) else (none)) else (none)))))) else (none)) else (if bt243.1 = 0 then ((kind_Is.f k l0 a1).bind fun t259 => ((truantref03_Is.f k l0 a1).bind fun t260 => (if (t259 != t260) = true then (none) else ((kind_Pointer.f a2).bind fun t261 => (if 1 + a2.size ≤ 9223372036854775807 then (if t261.toList = ((⟨#[42]⟩ : ByteArray) ++ a2).toList then ((kind_Reach.f k l0 a1).bind fun t262 => ((truantref03_Reach.f k l0 a1).bind fun t265 => (truantlaw03_KindExact.l0 k l0 t262 t265 0 0))) else (none)) else (none)))))) else (none))))) else (none))) else (none)) else (none)))))) = some r := H
     have A13 := Aside0.mk A130
     clear A130
     replace H := Option.bind_eq_some_iff.mp H
     obtain ⟨⟨t239, t240⟩, A140, H⟩ := H
     replace H : ((kind_Elem.f k a1).bind fun bt241 => ((kind_Find.f l0 a2).bind fun bt243 => ((truantref03_Find.f k l0 a2).bind fun t245 => (if t237 = t239 then (if t238 = t240 then ((truantref03_Elem.f k a1).bind fun t246 => (if bt241.1.toList = t246.toList then (if (bt241.2 != (bt241.1.toList != ([] : List UInt8))) = true then (none) else (if (bt243.2 != (decide (t245 ≥ 0))) = true then (none) else (if bt243.2 = true then (if bt243.1 = t245 then ((kind_Is.f k l0 a1).bind fun t247 => ((truantref03_Is.f k l0 a1).bind fun t248 => (if (t247 != t248) = true then (none) else ((kind_Pointer.f a2).bind fun t249 => (if 1 + a2.size ≤ 9223372036854775807 then (if t249.toList = ((⟨#[42]⟩ : ByteArray) ++ a2).toList then ((kind_Reach.f k l0 a1).bind fun t250 => ((truantref03_Reach.f k l0 a1).bind fun t253 => (truantlaw03_KindExact.l0 k l0 t250 t253 0 0))) else (none)) else (none)))))) else (none)) else (if bt243.1 = 0 then ((kind_Is.f k l0 a1).bind fun t259 => ((truantref03_Is.f k l0 a1).bind fun t260 => (if (t259 != t260) = true then (none) else ((kind_Pointer.f a2).bind fun t261 => (if 1 + a2.size ≤ 9223372036854775807 then (if t261.toList = ((⟨#[42]⟩ : ByteArray) ++ a2).toList then ((kind_Reach.f k l0 a1).bind fun t262 => ((truantref03_Reach.f k l0 a1).bind fun t265 => (truantlaw03_KindExact.l0 k l0 t262 t265 0 0))) else (none)) else (none)))))) else (none))))) else (none))) else (none)) else (none))))) = some r := H
     have A14 := Aside0.mk A140
     clear A140
     replace H := Option.bind_eq_some_iff.mp H
     obtain ⟨⟨t241, t242⟩, A150, H⟩ := H
     replace H : ((kind_Find.f l0 a2).bind fun bt243 => ((truantref03_Find.f k l0 a2).bind fun t245 => (if t237 = t239 then (if t238 = t240 then ((truantref03_Elem.f k a1).bind fun t246 => (if t241.toList = t246.toList then (if (t242 != (t241.toList != ([] : List UInt8))) = true then (none) else (if (bt243.2 != (decide (t245 ≥ 0))) = true then (none) else (if bt243.2 = true then (if bt243.1 = t245 then ((kind_Is.f k l0 a1).bind fun t247 => ((truantref03_Is.f k l0 a1).bind fun t248 => (if (t247 != t248) = true then (none) else ((kind_Pointer.f a2).bind fun t249 => (if 1 + a2.size ≤ 9223372036854775807 then (if t249.toList = ((⟨#[42]⟩ : ByteArray) ++ a2).toList then ((kind_Reach.f k l0 a1).bind fun t250 => ((truantref03_Reach.f k l0 a1).bind fun t253 => (truantlaw03_KindExact.l0 k l0 t250 t253 0 0))) else (none)) else (none)))))) else (none)) else (if bt243.1 = 0 then ((kind_Is.f k l0 a1).bind fun t259 => ((truantref03_Is.f k l0 a1).bind fun t260 => (if (t259 != t260) = true then (none) else ((kind_Pointer.f a2).bind fun t261 => (if 1 + a2.size ≤ 9223372036854775807 then (if t261.toList = ((⟨#[42]⟩ : ByteArray) ++ a2).toList then ((kind_Reach.f k l0 a1).bind fun t262 => ((truantref03_Reach.f k l0 a1).bind fun t265 => (truantlaw03_KindExact.l0 k l0 t262 t265 0 0))) else (none)) else (none)))))) else (none))))) else (none))) else (none)) else (none)))) = some r := H
     have A15 := Aside0.mk A150
     clear A150
     replace H := Option.bind_eq_some_iff.mp H
     obtain ⟨⟨t243, t244⟩, A160, H⟩ := H
     replace H : ((truantref03_Find.f k l0 a2).bind fun t245 => (if t237 = t239 then (if t238 = t240 then ((truantref03_Elem.f k a1).bind fun t246 => (if t241.toList = t246.toList then (if (t242 != (t241.toList != ([] : List UInt8))) = true then (none) else (if (t244 != (decide (t245 ≥ 0))) = true then (none) else (if t244 = true then (if t243 = t245 then ((kind_Is.f k l0 a1).bind fun t247 => ((truantref03_Is.f k l0 a1).bind fun t248 => (if (t247 != t248) = true then (none) else ((kind_Pointer.f a2).bind fun t249 => (if 1 + a2.size ≤ 9223372036854775807 then (if t249.toList = ((⟨#[42]⟩ : ByteArray) ++ a2).toList then ((kind_Reach.f k l0 a1).bind fun t250 => ((truantref03_Reach.f k l0 a1).bind fun t253 => (truantlaw03_KindExact.l0 k l0 t250 t253 0 0))) else (none)) else (none)))))) else (none)) else (if t243 = 0 then ((kind_Is.f k l0 a1).bind fun t259 => ((truantref03_Is.f k l0 a1).bind fun t260 => (if (t259 != t260) = true then (none) else ((kind_Pointer.f a2).bind fun t261 => (if 1 + a2.size ≤ 9223372036854775807 then (if t261.toList = ((⟨#[42]⟩ : ByteArray) ++ a2).toList then ((kind_Reach.f k l0 a1).bind fun t262 => ((truantref03_Reach.f k l0 a1).bind fun t265 => (truantlaw03_KindExact.l0 k l0 t262 t265 0 0))) else (none)) else (none)))))) else (none))))) else (none))) else (none)) else (none))) = some r := H
     have A16 := Aside0.mk A160
     clear A160
     replace H := Option.bind_eq_some_iff.mp H
     obtain ⟨t245, A170, H⟩ := H
     replace H : (if t237 = t239 then (if t238 = t240 then ((truantref03_Elem.f k a1).bind fun t246 => (if t241.toList = t246.toList then (if (t242 != (t241.toList != ([] : List UInt8))) = true then (none) else (if (t244 != (decide (t245 ≥ 0))) = true then (none) else (if t244 = true then (if t243 = t245 then ((kind_Is.f k l0 a1).bind fun t247 => ((truantref03_Is.f k l0 a1).bind fun t248 => (if (t247 != t248) = true then (none) else ((kind_Pointer.f a2).bind fun t249 => (if 1 + a2.size ≤ 9223372036854775807 then (if t249.toList = ((⟨#[42]⟩ : ByteArray) ++ a2).toList then ((kind_Reach.f k l0 a1).bind fun t250 => ((truantref03_Reach.f k l0 a1).bind fun t253 => (truantlaw03_KindExact.l0 k l0 t250 t253 0 0))) else (none)) else (none)))))) else (none)) else (if t243 = 0 then ((kind_Is.f k l0 a1).bind fun t259 => ((truantref03_Is.f k l0 a1).bind fun t260 => (if (t259 != t260) = true then (none) else ((kind_Pointer.f a2).bind fun t261 => (if 1 + a2.size ≤ 9223372036854775807 then (if t261.toList = ((⟨#[42]⟩ : ByteArray) ++ a2).toList then ((kind_Reach.f k l0 a1).bind fun t262 => ((truantref03_Reach.f k l0 a1).bind fun t265 => (truantlaw03_KindExact.l0 k l0 t262 t265 0 0))) else (none)) else (none)))))) else (none))))) else (none))) else (none)) else (none)) = some r := H
     have A17 := Aside0.mk A170
     clear A170
     by_cases c18 : t237 = t239
     ·rw [if_pos c18] at H
      have c18b0 : (t237 == t239) = true := beq_iff_eq.mpr c18
      have c18b1 : (t237 != t239) = false := bne_eq_false_iff_eq.mpr c18
      clear c18
      by_cases c19 : t238 = t240
      ·rw [if_pos c19] at H
       have c19b0 : (t238 == t240) = true := beq_iff_eq.mpr c19
       have c19b1 : (t238 != t240) = false := bne_eq_false_iff_eq.mpr c19
       clear c19
       replace H := Option.bind_eq_some_iff.mp H
       obtain ⟨t246, A200, H⟩ := H
       replace H : (if t241.toList = t246.toList then (if (t242 != (t241.toList != ([] : List UInt8))) = true then (none) else (if (t244 != (decide (t245 ≥ 0))) = true then (none) else (if t244 = true then (if t243 = t245 then ((kind_Is.f k l0 a1).bind fun t247 => ((truantref03_Is.f k l0 a1).bind fun t248 => (if (t247 != t248) = true then (none) else ((kind_Pointer.f a2).bind fun t249 => (if 1 + a2.size ≤ 9223372036854775807 then (if t249.toList = ((⟨#[42]⟩ : ByteArray) ++ a2).toList then ((kind_Reach.f k l0 a1).bind fun t250 => ((truantref03_Reach.f k l0 a1).bind fun t253 => (truantlaw03_KindExact.l0 k l0 t250 t253 0 0))) else (none)) else (none)))))) else (none)) else (if t243 = 0 then ((kind_Is.f k l0 a1).bind fun t259 => ((truantref03_Is.f k l0 a1).bind fun t260 => (if (t259 != t260) = true then (none) else ((kind_Pointer.f a2).bind fun t261 => (if 1 + a2.size ≤ 9223372036854775807 then (if t261.toList = ((⟨#[42]⟩ : ByteArray) ++ a2).toList then ((kind_Reach.f k l0 a1).bind fun t262 => ((truantref03_Reach.f k l0 a1).bind fun t265 => (truantlaw03_KindExact.l0 k l0 t262 t265 0 0))) else (none)) else (none)))))) else (none))))) else (none)) = some r := H
       have A20 := Aside0.mk A200
       clear A200
       by_cases c21 : t241.toList = t246.toList
       ·rw [if_pos c21] at H
        have c21b0 : (t241.toList == t246.toList) = true := beq_iff_eq.mpr c21
        have c21b1 : (t241.toList != t246.toList) = false := bne_eq_false_iff_eq.mpr c21
        clear c21
        by_cases c22 : (t242 != (t241.toList != ([] : List UInt8))) = true
        ·rw [if_pos c22] at H
         exact absurd H (by simp)
        ·rw [if_neg c22] at H
         have c22b0 : (t242 != (t241.toList != ([] : List UInt8))) = false := by simpa using c22
         (try (have c22b1 : decide (t242 = (t241.toList != ([] : List UInt8))) = true := by simpa using c22))
         (try (have c22b2 : (t242 == (t241.toList != ([] : List UInt8))) = true := by simpa using c22))
         (try (have c22b3 : (t242 != (!t241.toList.isEmpty)) = false := by simpa using c22))
         (try (have c22b4 : (!t241.toList.isEmpty) = t242 := by have e_ : (t241.toList != ([] : List UInt8)) = (!t241.toList.isEmpty) := (by cases t241.toList <;> rfl); have h_ := c22; rw [← e_]; generalize (t241.toList != ([] : List UInt8)) = b_ at h_ ⊢; cases t242 <;> cases b_ <;> simp_all))
         clear c22
         by_cases c23 : (t244 != (decide (t245 ≥ 0))) = true
         ·rw [if_pos c23] at H
          exact absurd H (by simp)
         ·rw [if_neg c23] at H
          have c23b0 : (t244 != (decide (t245 ≥ 0))) = false := by simpa using c23
          (try (have c23b1 : decide (t244 = (decide (t245 ≥ 0))) = true := by simpa using c23))
          (try (have c23b2 : (t244 == (decide (t245 ≥ 0))) = true := by simpa using c23))
          (try (have c23b3 : (t244 != (decide (0 ≤ t245))) = false := by simpa using c23))
          clear c23
          by_cases c24 : t244 = true
          ·subst c24
           have H1 : (if t243 = t245 then ((kind_Is.f k l0 a1).bind fun t247 => ((truantref03_Is.f k l0 a1).bind fun t248 => (if (t247 != t248) = true then (none) else ((kind_Pointer.f a2).bind fun t249 => (if 1 + a2.size ≤ 9223372036854775807 then (if t249.toList = ((⟨#[42]⟩ : ByteArray) ++ a2).toList then ((kind_Reach.f k l0 a1).bind fun t250 => ((truantref03_Reach.f k l0 a1).bind fun t253 => (truantlaw03_KindExact.l0 k l0 t250 t253 0 0))) else (none)) else (none)))))) else (none)) = some r := by rw [if_pos rfl] at H; exact H
           clear H
           have H := H1
           clear H1
           by_cases c25 : t243 = t245
           ·rw [if_pos c25] at H
            have c25b0 : (t243 == t245) = true := beq_iff_eq.mpr c25
            have c25b1 : (t243 != t245) = false := bne_eq_false_iff_eq.mpr c25
            clear c25
            replace H := Option.bind_eq_some_iff.mp H
            obtain ⟨t247, A260, H⟩ := H
            replace H : ((truantref03_Is.f k l0 a1).bind fun t248 => (if (t247 != t248) = true then (none) else ((kind_Pointer.f a2).bind fun t249 => (if 1 + a2.size ≤ 9223372036854775807 then (if t249.toList = ((⟨#[42]⟩ : ByteArray) ++ a2).toList then ((kind_Reach.f k l0 a1).bind fun t250 => ((truantref03_Reach.f k l0 a1).bind fun t253 => (truantlaw03_KindExact.l0 k l0 t250 t253 0 0))) else (none)) else (none))))) = some r := H
            have A26 := Aside0.mk A260
            clear A260
            replace H := Option.bind_eq_some_iff.mp H
            obtain ⟨t248, A270, H⟩ := H
            replace H : (if (t247 != t248) = true then (none) else ((kind_Pointer.f a2).bind fun t249 => (if 1 + a2.size ≤ 9223372036854775807 then (if t249.toList = ((⟨#[42]⟩ : ByteArray) ++ a2).toList then ((kind_Reach.f k l0 a1).bind fun t250 => ((truantref03_Reach.f k l0 a1).bind fun t253 => (truantlaw03_KindExact.l0 k l0 t250 t253 0 0))) else (none)) else (none)))) = some r := H
            have A27 := Aside0.mk A270
            clear A270
            by_cases c28 : (t247 != t248) = true
            ·rw [if_pos c28] at H
             exact absurd H (by simp)
            ·rw [if_neg c28] at H
             have c28b0 : (t247 != t248) = false := by simpa using c28
             (try (have c28b1 : decide (t247 = t248) = true := by simpa using c28))
             (try (have c28b2 : (t247 == t248) = true := by simpa using c28))
             clear c28
             replace H := Option.bind_eq_some_iff.mp H
             obtain ⟨t249, A290, H⟩ := H
             replace H : (if 1 + a2.size ≤ 9223372036854775807 then (if t249.toList = ((⟨#[42]⟩ : ByteArray) ++ a2).toList then ((kind_Reach.f k l0 a1).bind fun t250 => ((truantref03_Reach.f k l0 a1).bind fun t253 => (truantlaw03_KindExact.l0 k l0 t250 t253 0 0))) else (none)) else (none)) = some r := H
             have A29 := Aside0.mk A290
             clear A290
             by_cases c30 : 1 + a2.size ≤ 9223372036854775807
             ·rw [if_pos c30] at H
              have c30b0 := eq_true c30
              have c30b1 : decide (1 + a2.size ≤ 9223372036854775807) = true := decide_eq_true c30
              try have c30b2 : (9223372036854775807 < 1 + a2.size) = False := eq_false (Nat.not_lt.2 c30)
              by_cases c31 : t249.toList = ((⟨#[42]⟩ : ByteArray) ++ a2).toList
              ·rw [if_pos c31] at H
               have c31b0 : (t249.toList == ((⟨#[42]⟩ : ByteArray) ++ a2).toList) = true := beq_iff_eq.mpr c31
               have c31b1 : (t249.toList != ((⟨#[42]⟩ : ByteArray) ++ a2).toList) = false := bne_eq_false_iff_eq.mpr c31
               clear c31
               replace H := Option.bind_eq_some_iff.mp H
               obtain ⟨t250, A320, H⟩ := H
               replace H : ((truantref03_Reach.f k l0 a1).bind fun t253 => (truantlaw03_KindExact.l0 k l0 t250 t253 0 0)) = some r := H
               have A32 := Aside0.mk A320
               clear A320
               replace H := Option.bind_eq_some_iff.mp H
               obtain ⟨t253, A330, H⟩ := H
               replace H : (truantlaw03_KindExact.l0 k l0 t250 t253 0 0) = some r := H
               have A33 := Aside0.mk A330
               clear A330
               have H' := Aside0.mk H
               clear H
               go_enter Try.func3, Try.ntmps3
               go_wp2_with (first | (go_at_call 7; (with_reducible refine (truantlaw03_awake.calls k  true _ A4.out).mono ?_); rintro e w34 ⟨rfl, hb⟩; have n0_ := Aside0.mk (below_step (by repeat (first | (with_reducible first | exact HB.out | apply below_alloc | apply pw_below_drewN | apply below_drew1) | exact HB.out)) hb); clear HB; have HB := n0_; clear n0_; (try clear hb); (try clear hb2); (try clear hk); (try clear hi)) | (go_at_call 8; (with_reducible refine (truantlaw03_great.calls k _ _ l0 false _ ?side1 ?side2 A6.out).mono ?_); (case side1 => repeat (first | exact (Kd.C_below HR0.out HB.out) | (with_reducible refine Kd.C_alloc ?_ _) | (with_reducible refine Kd.C_drewN ?_ _) | (with_reducible refine Kd.C_drew ?_))); (case side2 => exact HC0.out); rintro e w' ⟨rfl, ⟨nd, rfl⟩⟩; (try first | exact ⟨rfl, _, World.drewN_drewN _ _ _⟩ | exact ⟨rfl, _, Eq.trans (World.drewN_drewN _ _ _) (congrArg (World.drewN _) (Nat.add_assoc _ _ _))⟩)) | (go_at_call 9; (with_reducible refine (kind_Check.calls k _ _ l0 t237 t238 _ ?side1 ?side2 A13.out).mono ?_); (case side1 => repeat (first | exact (Kd.C_below HR0.out (by repeat (first | (with_reducible first | exact HB.out | apply below_alloc | apply pw_below_drewN | apply below_drew1) | exact HB.out))) | (with_reducible refine Kd.C_alloc ?_ _) | (with_reducible refine Kd.C_drewN ?_ _) | (with_reducible refine Kd.C_drew ?_))); (case side2 => exact HC0.out); rintro e w35 ⟨rfl, hb⟩; have n0_ := Aside0.mk (below_step (by repeat (first | (with_reducible first | exact HB.out | apply below_alloc | apply pw_below_drewN | apply below_drew1) | exact HB.out)) hb); clear HB; have HB := n0_; clear n0_; (try clear hb); (try clear hb2); (try clear hk); (try clear hi)) | (go_at_call 10; (with_reducible refine (truantref03_Check.calls k _ _ l0 t239 t240 _ ?side1 ?side2 A14.out).mono ?_); (case side1 => repeat (first | exact (Kd.C_below HR0.out HB.out) | (with_reducible refine Kd.C_alloc ?_ _) | (with_reducible refine Kd.C_drewN ?_ _) | (with_reducible refine Kd.C_drew ?_))); (case side2 => exact HC0.out); rintro e w36 ⟨rfl, hb⟩; have n0_ := Aside0.mk (below_step (by repeat (first | (with_reducible first | exact HB.out | apply below_alloc | apply pw_below_drewN | apply below_drew1) | exact HB.out)) hb); clear HB; have HB := n0_; clear n0_; (try clear hb); (try clear hb2); (try clear hk); (try clear hi)) | (go_at_call 11; (with_reducible refine (kind_Elem.calls k a1 t241 t242 _ A15.out).mono ?_); rintro e w37 ⟨rfl, hb⟩; have n0_ := Aside0.mk (below_step (by repeat (first | (with_reducible first | exact HB.out | apply below_alloc | apply pw_below_drewN | apply below_drew1) | exact HB.out)) hb); clear HB; have HB := n0_; clear n0_; (try clear hb); (try clear hb2); (try clear hk); (try clear hi)) | (go_at_call 12; (with_reducible refine (kind_Find.calls _ _ l0 a2 t243 true _ ?side1 ?side2 A16.out).mono ?_); (case side1 => repeat (first | exact (Kd.C_below HR0.out HB.out) | (with_reducible refine Kd.C_alloc ?_ _) | (with_reducible refine Kd.C_drewN ?_ _) | (with_reducible refine Kd.C_drew ?_))); (case side2 => exact HC0.out); rintro e w38 ⟨rfl, hb⟩; have n0_ := Aside0.mk (below_step (by repeat (first | (with_reducible first | exact HB.out | apply below_alloc | apply pw_below_drewN | apply below_drew1) | exact HB.out)) hb); clear HB; have HB := n0_; clear n0_; (try clear hb); (try clear hb2); (try clear hk); (try clear hi)) | (go_at_call 13; (with_reducible refine (truantref03_Find.calls k _ _ l0 a2 t245 _ ?side1 ?side2 A17.out).mono ?_); (case side1 => repeat (first | exact (Kd.C_below HR0.out HB.out) | (with_reducible refine Kd.C_alloc ?_ _) | (with_reducible refine Kd.C_drewN ?_ _) | (with_reducible refine Kd.C_drew ?_))); (case side2 => exact HC0.out); rintro e w' ⟨rfl, ⟨nd, rfl⟩⟩; (try first | exact ⟨rfl, _, World.drewN_drewN _ _ _⟩ | exact ⟨rfl, _, Eq.trans (World.drewN_drewN _ _ _) (congrArg (World.drewN _) (Nat.add_assoc _ _ _))⟩)) | (go_at_call 14; (with_reducible refine (truantref03_Elem.calls k a1 t246 _ A20.out).mono ?_); rintro e w39 ⟨rfl, hb⟩; have n0_ := Aside0.mk (below_step (by repeat (first | (with_reducible first | exact HB.out | apply below_alloc | apply pw_below_drewN | apply below_drew1) | exact HB.out)) hb); clear HB; have HB := n0_; clear n0_; (try clear hb); (try clear hb2); (try clear hk); (try clear hi)) | (go_at_call 15; (with_reducible refine (kind_Is.calls k _ _ l0 a1 t247 _ ?side1 ?side2 A26.out).mono ?_); (case side1 => repeat (first | exact (Kd.C_below HR0.out HB.out) | (with_reducible refine Kd.C_alloc ?_ _) | (with_reducible refine Kd.C_drewN ?_ _) | (with_reducible refine Kd.C_drew ?_))); (case side2 => exact HC0.out); rintro e w40 ⟨rfl, hb⟩; have n0_ := Aside0.mk (below_step (by repeat (first | (with_reducible first | exact HB.out | apply below_alloc | apply pw_below_drewN | apply below_drew1) | exact HB.out)) hb); clear HB; have HB := n0_; clear n0_; (try clear hb); (try clear hb2); (try clear hk); (try clear hi)) | (go_at_call 16; (with_reducible refine (truantref03_Is.calls k _ _ l0 a1 t248 _ ?side1 ?side2 A27.out).mono ?_); (case side1 => repeat (first | exact (Kd.C_below HR0.out HB.out) | (with_reducible refine Kd.C_alloc ?_ _) | (with_reducible refine Kd.C_drewN ?_ _) | (with_reducible refine Kd.C_drew ?_))); (case side2 => exact HC0.out); rintro e w' ⟨rfl, ⟨nd, rfl⟩⟩; (try first | exact ⟨rfl, _, World.drewN_drewN _ _ _⟩ | exact ⟨rfl, _, Eq.trans (World.drewN_drewN _ _ _) (congrArg (World.drewN _) (Nat.add_assoc _ _ _))⟩)) | (go_at_call 17; (with_reducible refine (kind_Pointer.calls a2 t249 _ A29.out).mono ?_); rintro e w' ⟨rfl, ⟨nd, rfl⟩⟩; (try first | exact ⟨rfl, _, World.drewN_drewN _ _ _⟩ | exact ⟨rfl, _, Eq.trans (World.drewN_drewN _ _ _) (congrArg (World.drewN _) (Nat.add_assoc _ _ _))⟩)) | (go_at_call 18; (with_reducible refine (kind_Reach.calls k _ _ l0 a1 t250 _ ?side1 ?side2 A32.out).mono ?_); (case side1 => repeat (first | exact (Kd.C_below HR0.out (by repeat (first | (with_reducible first | exact HB.out | apply below_alloc | apply pw_below_drewN | apply below_drew1) | exact HB.out))) | (with_reducible refine Kd.C_alloc ?_ _) | (with_reducible refine Kd.C_drewN ?_ _) | (with_reducible refine Kd.C_drew ?_))); (case side2 => exact HC0.out); rintro e w41 ⟨v251, rfl, ho0, hb⟩; have n0_ := Aside0.mk (Kd.R_lower ho0 (below_size (by repeat (first | (with_reducible first | exact HB.out | apply below_alloc | apply pw_below_drewN | apply below_drew1) | exact HB.out)))); have n1_ := Aside0.mk (below_step (by repeat (first | (with_reducible first | exact HB.out | apply below_alloc | apply pw_below_drewN | apply below_drew1) | exact HB.out)) hb); clear HB; have HO252 := n0_; have HB := n1_; clear n0_ n1_; (try clear hb); (try clear hb2); (try clear hk); (try clear hi); (try clear ho0)) | (go_at_call 19; (with_reducible refine (truantref03_Reach.calls k _ _ l0 a1 t253 _ ?side1 ?side2 A33.out).mono ?_); (case side1 => repeat (first | exact (Kd.C_below HR0.out HB.out) | (with_reducible refine Kd.C_alloc ?_ _) | (with_reducible refine Kd.C_drewN ?_ _) | (with_reducible refine Kd.C_drew ?_))); (case side2 => exact HC0.out); rintro e w42 ⟨v254, rfl, ho0, hb⟩; have n0_ := Aside0.mk (Kd.R_below (by (with_reducible repeat (first | apply Kd.R_alloc | apply Kd.R_drewN | apply Kd.R_drew)); exact HO252.out) hb); have n1_ := Aside0.mk (Kd.R_lower ho0 (below_size (by repeat (first | (with_reducible first | exact HB.out | apply below_alloc | apply pw_below_drewN | apply below_drew1) | exact HB.out)))); have n2_ := Aside0.mk (below_step (by repeat (first | (with_reducible first | exact HB.out | apply below_alloc | apply pw_below_drewN | apply below_drew1) | exact HB.out)) hb); clear HO252; clear HB; have HO252 := n0_; have HO255 := n1_; have HB := n2_; clear n0_ n1_ n2_; (try clear hb); (try clear hb2); (try clear hk); (try clear hi); (try clear ho0)))
               repeat (go_quiet (first | (go_at_call 7; (with_reducible refine (truantlaw03_awake.calls k  true _ A4.out).mono ?_); rintro e w34 ⟨rfl, hb⟩; have n0_ := Aside0.mk (below_step (by repeat (first | (with_reducible first | exact HB.out | apply below_alloc | apply pw_below_drewN | apply below_drew1) | exact HB.out)) hb); clear HB; have HB := n0_; clear n0_; (try clear hb); (try clear hb2); (try clear hk); (try clear hi)) | (go_at_call 8; (with_reducible refine (truantlaw03_great.calls k _ _ l0 false _ ?side1 ?side2 A6.out).mono ?_); (case side1 => repeat (first | exact (Kd.C_below HR0.out HB.out) | (with_reducible refine Kd.C_alloc ?_ _) | (with_reducible refine Kd.C_drewN ?_ _) | (with_reducible refine Kd.C_drew ?_))); (case side2 => exact HC0.out); rintro e w' ⟨rfl, ⟨nd, rfl⟩⟩; (try first | exact ⟨rfl, _, World.drewN_drewN _ _ _⟩ | exact ⟨rfl, _, Eq.trans (World.drewN_drewN _ _ _) (congrArg (World.drewN _) (Nat.add_assoc _ _ _))⟩)) | (go_at_call 9; (with_reducible refine (kind_Check.calls k _ _ l0 t237 t238 _ ?side1 ?side2 A13.out).mono ?_); (case side1 => repeat (first | exact (Kd.C_below HR0.out (by repeat (first | (with_reducible first | exact HB.out | apply below_alloc | apply pw_below_drewN | apply below_drew1) | exact HB.out))) | (with_reducible refine Kd.C_alloc ?_ _) | (with_reducible refine Kd.C_drewN ?_ _) | (with_reducible refine Kd.C_drew ?_))); (case side2 => exact HC0.out); rintro e w35 ⟨rfl, hb⟩; have n0_ := Aside0.mk (below_step (by repeat (first | (with_reducible first | exact HB.out | apply below_alloc | apply pw_below_drewN | apply below_drew1) | exact HB.out)) hb); clear HB; have HB := n0_; clear n0_; (try clear hb); (try clear hb2); (try clear hk); (try clear hi)) | (go_at_call 10; (with_reducible refine (truantref03_Check.calls k _ _ l0 t239 t240 _ ?side1 ?side2 A14.out).mono ?_); (case side1 => repeat (first | exact (Kd.C_below HR0.out HB.out) | (with_reducible refine Kd.C_alloc ?_ _) | (with_reducible refine Kd.C_drewN ?_ _) | (with_reducible refine Kd.C_drew ?_))); (case side2 => exact HC0.out); rintro e w36 ⟨rfl, hb⟩; have n0_ := Aside0.mk (below_step (by repeat (first | (with_reducible first | exact HB.out | apply below_alloc | apply pw_below_drewN | apply below_drew1) | exact HB.out)) hb); clear HB; have HB := n0_; clear n0_; (try clear hb); (try clear hb2); (try clear hk); (try clear hi)) | (go_at_call 11; (with_reducible refine (kind_Elem.calls k a1 t241 t242 _ A15.out).mono ?_); rintro e w37 ⟨rfl, hb⟩; have n0_ := Aside0.mk (below_step (by repeat (first | (with_reducible first | exact HB.out | apply below_alloc | apply pw_below_drewN | apply below_drew1) | exact HB.out)) hb); clear HB; have HB := n0_; clear n0_; (try clear hb); (try clear hb2); (try clear hk); (try clear hi)) | (go_at_call 12; (with_reducible refine (kind_Find.calls _ _ l0 a2 t243 true _ ?side1 ?side2 A16.out).mono ?_); (case side1 => repeat (first | exact (Kd.C_below HR0.out HB.out) | (with_reducible refine Kd.C_alloc ?_ _) | (with_reducible refine Kd.C_drewN ?_ _) | (with_reducible refine Kd.C_drew ?_))); (case side2 => exact HC0.out); rintro e w38 ⟨rfl, hb⟩; have n0_ := Aside0.mk (below_step (by repeat (first | (with_reducible first | exact HB.out | apply below_alloc | apply pw_below_drewN | apply below_drew1) | exact HB.out)) hb); clear HB; have HB := n0_; clear n0_; (try clear hb); (try clear hb2); (try clear hk); (try clear hi)) | (go_at_call 13; (with_reducible refine (truantref03_Find.calls k _ _ l0 a2 t245 _ ?side1 ?side2 A17.out).mono ?_); (case side1 => repeat (first | exact (Kd.C_below HR0.out HB.out) | (with_reducible refine Kd.C_alloc ?_ _) | (with_reducible refine Kd.C_drewN ?_ _) | (with_reducible refine Kd.C_drew ?_))); (case side2 => exact HC0.out); rintro e w' ⟨rfl, ⟨nd, rfl⟩⟩; (try first | exact ⟨rfl, _, World.drewN_drewN _ _ _⟩ | exact ⟨rfl, _, Eq.trans (World.drewN_drewN _ _ _) (congrArg (World.drewN _) (Nat.add_assoc _ _ _))⟩)) | (go_at_call 14; (with_reducible refine (truantref03_Elem.calls k a1 t246 _ A20.out).mono ?_); rintro e w39 ⟨rfl, hb⟩; have n0_ := Aside0.mk (below_step (by repeat (first | (with_reducible first | exact HB.out | apply below_alloc | apply pw_below_drewN | apply below_drew1) | exact HB.out)) hb); clear HB; have HB := n0_; clear n0_; (try clear hb); (try clear hb2); (try clear hk); (try clear hi)) | (go_at_call 15; (with_reducible refine (kind_Is.calls k _ _ l0 a1 t247 _ ?side1 ?side2 A26.out).mono ?_); (case side1 => repeat (first | exact (Kd.C_below HR0.out HB.out) | (with_reducible refine Kd.C_alloc ?_ _) | (with_reducible refine Kd.C_drewN ?_ _) | (with_reducible refine Kd.C_drew ?_))); (case side2 => exact HC0.out); rintro e w40 ⟨rfl, hb⟩; have n0_ := Aside0.mk (below_step (by repeat (first | (with_reducible first | exact HB.out | apply below_alloc | apply pw_below_drewN | apply below_drew1) | exact HB.out)) hb); clear HB; have HB := n0_; clear n0_; (try clear hb); (try clear hb2); (try clear hk); (try clear hi)) | (go_at_call 16; (with_reducible refine (truantref03_Is.calls k _ _ l0 a1 t248 _ ?side1 ?side2 A27.out).mono ?_); (case side1 => repeat (first | exact (Kd.C_below HR0.out HB.out) | (with_reducible refine Kd.C_alloc ?_ _) | (with_reducible refine Kd.C_drewN ?_ _) | (with_reducible refine Kd.C_drew ?_))); (case side2 => exact HC0.out); rintro e w' ⟨rfl, ⟨nd, rfl⟩⟩; (try first | exact ⟨rfl, _, World.drewN_drewN _ _ _⟩ | exact ⟨rfl, _, Eq.trans (World.drewN_drewN _ _ _) (congrArg (World.drewN _) (Nat.add_assoc _ _ _))⟩)) | (go_at_call 17; (with_reducible refine (kind_Pointer.calls a2 t249 _ A29.out).mono ?_); rintro e w' ⟨rfl, ⟨nd, rfl⟩⟩; (try first | exact ⟨rfl, _, World.drewN_drewN _ _ _⟩ | exact ⟨rfl, _, Eq.trans (World.drewN_drewN _ _ _) (congrArg (World.drewN _) (Nat.add_assoc _ _ _))⟩)) | (go_at_call 18; (with_reducible refine (kind_Reach.calls k _ _ l0 a1 t250 _ ?side1 ?side2 A32.out).mono ?_); (case side1 => repeat (first | exact (Kd.C_below HR0.out (by repeat (first | (with_reducible first | exact HB.out | apply below_alloc | apply pw_below_drewN | apply below_drew1) | exact HB.out))) | (with_reducible refine Kd.C_alloc ?_ _) | (with_reducible refine Kd.C_drewN ?_ _) | (with_reducible refine Kd.C_drew ?_))); (case side2 => exact HC0.out); rintro e w41 ⟨v251, rfl, ho0, hb⟩; have n0_ := Aside0.mk (Kd.R_lower ho0 (below_size (by repeat (first | (with_reducible first | exact HB.out | apply below_alloc | apply pw_below_drewN | apply below_drew1) | exact HB.out)))); have n1_ := Aside0.mk (below_step (by repeat (first | (with_reducible first | exact HB.out | apply below_alloc | apply pw_below_drewN | apply below_drew1) | exact HB.out)) hb); clear HB; have HO252 := n0_; have HB := n1_; clear n0_ n1_; (try clear hb); (try clear hb2); (try clear hk); (try clear hi); (try clear ho0)) | (go_at_call 19; (with_reducible refine (truantref03_Reach.calls k _ _ l0 a1 t253 _ ?side1 ?side2 A33.out).mono ?_); (case side1 => repeat (first | exact (Kd.C_below HR0.out HB.out) | (with_reducible refine Kd.C_alloc ?_ _) | (with_reducible refine Kd.C_drewN ?_ _) | (with_reducible refine Kd.C_drew ?_))); (case side2 => exact HC0.out); rintro e w42 ⟨v254, rfl, ho0, hb⟩; have n0_ := Aside0.mk (Kd.R_below (by (with_reducible repeat (first | apply Kd.R_alloc | apply Kd.R_drewN | apply Kd.R_drew)); exact HO252.out) hb); have n1_ := Aside0.mk (Kd.R_lower ho0 (below_size (by repeat (first | (with_reducible first | exact HB.out | apply below_alloc | apply pw_below_drewN | apply below_drew1) | exact HB.out)))); have n2_ := Aside0.mk (below_step (by repeat (first | (with_reducible first | exact HB.out | apply below_alloc | apply pw_below_drewN | apply below_drew1) | exact HB.out)) hb); clear HO252; clear HB; have HO252 := n0_; have HO255 := n1_; have HB := n2_; clear n0_ n1_ n2_; (try clear hb); (try clear hb2); (try clear hk); (try clear hi); (try clear ho0))); try go_wp2_with (first | (go_at_call 7; (with_reducible refine (truantlaw03_awake.calls k  true _ A4.out).mono ?_); rintro e w34 ⟨rfl, hb⟩; have n0_ := Aside0.mk (below_step (by repeat (first | (with_reducible first | exact HB.out | apply below_alloc | apply pw_below_drewN | apply below_drew1) | exact HB.out)) hb); clear HB; have HB := n0_; clear n0_; (try clear hb); (try clear hb2); (try clear hk); (try clear hi)) | (go_at_call 8; (with_reducible refine (truantlaw03_great.calls k _ _ l0 false _ ?side1 ?side2 A6.out).mono ?_); (case side1 => repeat (first | exact (Kd.C_below HR0.out HB.out) | (with_reducible refine Kd.C_alloc ?_ _) | (with_reducible refine Kd.C_drewN ?_ _) | (with_reducible refine Kd.C_drew ?_))); (case side2 => exact HC0.out); rintro e w' ⟨rfl, ⟨nd, rfl⟩⟩; (try first | exact ⟨rfl, _, World.drewN_drewN _ _ _⟩ | exact ⟨rfl, _, Eq.trans (World.drewN_drewN _ _ _) (congrArg (World.drewN _) (Nat.add_assoc _ _ _))⟩)) | (go_at_call 9; (with_reducible refine (kind_Check.calls k _ _ l0 t237 t238 _ ?side1 ?side2 A13.out).mono ?_); (case side1 => repeat (first | exact (Kd.C_below HR0.out (by repeat (first | (with_reducible first | exact HB.out | apply below_alloc | apply pw_below_drewN | apply below_drew1) | exact HB.out))) | (with_reducible refine Kd.C_alloc ?_ _) | (with_reducible refine Kd.C_drewN ?_ _) | (with_reducible refine Kd.C_drew ?_))); (case side2 => exact HC0.out); rintro e w35 ⟨rfl, hb⟩; have n0_ := Aside0.mk (below_step (by repeat (first | (with_reducible first | exact HB.out | apply below_alloc | apply pw_below_drewN | apply below_drew1) | exact HB.out)) hb); clear HB; have HB := n0_; clear n0_; (try clear hb); (try clear hb2); (try clear hk); (try clear hi)) | (go_at_call 10; (with_reducible refine (truantref03_Check.calls k _ _ l0 t239 t240 _ ?side1 ?side2 A14.out).mono ?_); (case side1 => repeat (first | exact (Kd.C_below HR0.out HB.out) | (with_reducible refine Kd.C_alloc ?_ _) | (with_reducible refine Kd.C_drewN ?_ _) | (with_reducible refine Kd.C_drew ?_))); (case side2 => exact HC0.out); rintro e w36 ⟨rfl, hb⟩; have n0_ := Aside0.mk (below_step (by repeat (first | (with_reducible first | exact HB.out | apply below_alloc | apply pw_below_drewN | apply below_drew1) | exact HB.out)) hb); clear HB; have HB := n0_; clear n0_; (try clear hb); (try clear hb2); (try clear hk); (try clear hi)) | (go_at_call 11; (with_reducible refine (kind_Elem.calls k a1 t241 t242 _ A15.out).mono ?_); rintro e w37 ⟨rfl, hb⟩; have n0_ := Aside0.mk (below_step (by repeat (first | (with_reducible first | exact HB.out | apply below_alloc | apply pw_below_drewN | apply below_drew1) | exact HB.out)) hb); clear HB; have HB := n0_; clear n0_; (try clear hb); (try clear hb2); (try clear hk); (try clear hi)) | (go_at_call 12; (with_reducible refine (kind_Find.calls _ _ l0 a2 t243 true _ ?side1 ?side2 A16.out).mono ?_); (case side1 => repeat (first | exact (Kd.C_below HR0.out HB.out) | (with_reducible refine Kd.C_alloc ?_ _) | (with_reducible refine Kd.C_drewN ?_ _) | (with_reducible refine Kd.C_drew ?_))); (case side2 => exact HC0.out); rintro e w38 ⟨rfl, hb⟩; have n0_ := Aside0.mk (below_step (by repeat (first | (with_reducible first | exact HB.out | apply below_alloc | apply pw_below_drewN | apply below_drew1) | exact HB.out)) hb); clear HB; have HB := n0_; clear n0_; (try clear hb); (try clear hb2); (try clear hk); (try clear hi)) | (go_at_call 13; (with_reducible refine (truantref03_Find.calls k _ _ l0 a2 t245 _ ?side1 ?side2 A17.out).mono ?_); (case side1 => repeat (first | exact (Kd.C_below HR0.out HB.out) | (with_reducible refine Kd.C_alloc ?_ _) | (with_reducible refine Kd.C_drewN ?_ _) | (with_reducible refine Kd.C_drew ?_))); (case side2 => exact HC0.out); rintro e w' ⟨rfl, ⟨nd, rfl⟩⟩; (try first | exact ⟨rfl, _, World.drewN_drewN _ _ _⟩ | exact ⟨rfl, _, Eq.trans (World.drewN_drewN _ _ _) (congrArg (World.drewN _) (Nat.add_assoc _ _ _))⟩)) | (go_at_call 14; (with_reducible refine (truantref03_Elem.calls k a1 t246 _ A20.out).mono ?_); rintro e w39 ⟨rfl, hb⟩; have n0_ := Aside0.mk (below_step (by repeat (first | (with_reducible first | exact HB.out | apply below_alloc | apply pw_below_drewN | apply below_drew1) | exact HB.out)) hb); clear HB; have HB := n0_; clear n0_; (try clear hb); (try clear hb2); (try clear hk); (try clear hi)) | (go_at_call 15; (with_reducible refine (kind_Is.calls k _ _ l0 a1 t247 _ ?side1 ?side2 A26.out).mono ?_); (case side1 => repeat (first | exact (Kd.C_below HR0.out HB.out) | (with_reducible refine Kd.C_alloc ?_ _) | (with_reducible refine Kd.C_drewN ?_ _) | (with_reducible refine Kd.C_drew ?_))); (case side2 => exact HC0.out); rintro e w40 ⟨rfl, hb⟩; have n0_ := Aside0.mk (below_step (by repeat (first | (with_reducible first | exact HB.out | apply below_alloc | apply pw_below_drewN | apply below_drew1) | exact HB.out)) hb); clear HB; have HB := n0_; clear n0_; (try clear hb); (try clear hb2); (try clear hk); (try clear hi)) | (go_at_call 16; (with_reducible refine (truantref03_Is.calls k _ _ l0 a1 t248 _ ?side1 ?side2 A27.out).mono ?_); (case side1 => repeat (first | exact (Kd.C_below HR0.out HB.out) | (with_reducible refine Kd.C_alloc ?_ _) | (with_reducible refine Kd.C_drewN ?_ _) | (with_reducible refine Kd.C_drew ?_))); (case side2 => exact HC0.out); rintro e w' ⟨rfl, ⟨nd, rfl⟩⟩; (try first | exact ⟨rfl, _, World.drewN_drewN _ _ _⟩ | exact ⟨rfl, _, Eq.trans (World.drewN_drewN _ _ _) (congrArg (World.drewN _) (Nat.add_assoc _ _ _))⟩)) | (go_at_call 17; (with_reducible refine (kind_Pointer.calls a2 t249 _ A29.out).mono ?_); rintro e w' ⟨rfl, ⟨nd, rfl⟩⟩; (try first | exact ⟨rfl, _, World.drewN_drewN _ _ _⟩ | exact ⟨rfl, _, Eq.trans (World.drewN_drewN _ _ _) (congrArg (World.drewN _) (Nat.add_assoc _ _ _))⟩)) | (go_at_call 18; (with_reducible refine (kind_Reach.calls k _ _ l0 a1 t250 _ ?side1 ?side2 A32.out).mono ?_); (case side1 => repeat (first | exact (Kd.C_below HR0.out (by repeat (first | (with_reducible first | exact HB.out | apply below_alloc | apply pw_below_drewN | apply below_drew1) | exact HB.out))) | (with_reducible refine Kd.C_alloc ?_ _) | (with_reducible refine Kd.C_drewN ?_ _) | (with_reducible refine Kd.C_drew ?_))); (case side2 => exact HC0.out); rintro e w41 ⟨v251, rfl, ho0, hb⟩; have n0_ := Aside0.mk (Kd.R_lower ho0 (below_size (by repeat (first | (with_reducible first | exact HB.out | apply below_alloc | apply pw_below_drewN | apply below_drew1) | exact HB.out)))); have n1_ := Aside0.mk (below_step (by repeat (first | (with_reducible first | exact HB.out | apply below_alloc | apply pw_below_drewN | apply below_drew1) | exact HB.out)) hb); clear HB; have HO252 := n0_; have HB := n1_; clear n0_ n1_; (try clear hb); (try clear hb2); (try clear hk); (try clear hi); (try clear ho0)) | (go_at_call 19; (with_reducible refine (truantref03_Reach.calls k _ _ l0 a1 t253 _ ?side1 ?side2 A33.out).mono ?_); (case side1 => repeat (first | exact (Kd.C_below HR0.out HB.out) | (with_reducible refine Kd.C_alloc ?_ _) | (with_reducible refine Kd.C_drewN ?_ _) | (with_reducible refine Kd.C_drew ?_))); (case side2 => exact HC0.out); rintro e w42 ⟨v254, rfl, ho0, hb⟩; have n0_ := Aside0.mk (Kd.R_below (by (with_reducible repeat (first | apply Kd.R_alloc | apply Kd.R_drewN | apply Kd.R_drew)); exact HO252.out) hb); have n1_ := Aside0.mk (Kd.R_lower ho0 (below_size (by repeat (first | (with_reducible first | exact HB.out | apply below_alloc | apply pw_below_drewN | apply below_drew1) | exact HB.out)))); have n2_ := Aside0.mk (below_step (by repeat (first | (with_reducible first | exact HB.out | apply below_alloc | apply pw_below_drewN | apply below_drew1) | exact HB.out)) hb); clear HO252; clear HB; have HO252 := n0_; have HO255 := n1_; have HB := n2_; clear n0_ n1_ n2_; (try clear hb); (try clear hb2); (try clear hk); (try clear hi); (try clear ho0))))
               go_loopg [18, 19] k (fun kq v18 v19 w' => ∃ (x18_1 : Int) (x19_1 : Int), v18 = .int .i64 x18_1 ∧ v19 = .int .i64 x19_1 ∧ Aside0 (truantlaw03_KindExact.l0 kq l0 t250 t253 x18_1 x19_1 = some r) ∧ Aside0 (kq ≤ k) ∧ Aside0 (Kd.R Kd.string 9 w' w.heap.size (fun _ => True) v251 t250) ∧ Aside0 (Kd.R Kd.bool 4 w' w.heap.size (fun _ => True) v254 t253) ∧ Aside0 (Below w.heap.size w w'))
               case atStart => exact ⟨(0), (0), (by first | rfl | (simp; done) | (simp [*]; done)), (by first | rfl | (simp; done) | (simp [*]; done)), H', ⟨Nat.le_refl _⟩, ⟨by (with_reducible repeat (first | apply Kd.R_alloc | apply Kd.R_drewN | apply Kd.R_drew)); exact HO252.out⟩, ⟨by (with_reducible repeat (first | apply Kd.R_alloc | apply Kd.R_drewN | apply Kd.R_drew)); exact HO255.out⟩, ⟨by repeat (first | (with_reducible first | exact HB.out | apply below_alloc | apply pw_below_drewN | apply below_drew1) | exact HB.out)⟩⟩
               case round =>
                clear H'
                try clear c1
                try clear c2
                try clear p2
                try clear c3
                try clear c5
                try clear c7
                try clear c9
                try clear c9b0
                try clear c9b1
                try clear c11
                try clear c11b0
                try clear c11b1
                try clear c18
                try clear c18b0
                try clear c18b1
                try clear c19
                try clear c19b0
                try clear c19b1
                try clear c21
                try clear c21b0
                try clear c21b1
                try clear c22
                try clear c22b0
                try clear c22b1
                try clear c22b2
                try clear c23
                try clear c23b0
                try clear c23b1
                try clear c23b2
                try clear c24
                try clear c25
                try clear c25b0
                try clear c25b1
                try clear c28
                try clear c28b0
                try clear c28b1
                try clear c28b2
                try clear c30
                try clear c30b0
                try clear c30b1
                try clear c30b2
                try clear c31
                try clear c31b0
                try clear c31b1
                obtain ⟨x18_1, x19_1, rfl, rfl, HA, HK1, HO_16, HO_17, HB⟩ := hrel
                cases gk with
                | zero => exact absurd HA.out (by simp [truantlaw03_KindExact.l0])
                | succ k1 =>
                 have H := HA.out
                 clear HA
                 simp only [truantlaw03_KindExact.l0] at H
                 by_cases c43 : x19_1 < (l0.length : Int)
                 ·rw [if_pos c43] at H
                  have c43b0 : decide (x19_1 < (l0.length : Int)) = true := decide_eq_true c43
                  clear c43
                  by_cases c44 : 0 ≤ x19_1
                  ·rw [if_pos c44] at H
                   have c44b0 : decide (0 ≤ x19_1) = true := decide_eq_true c44
                   clear c44
                   by_cases c45 : x19_1 < (t253.length : Int)
                   ·rw [if_pos c45] at H
                    have c45b0 : decide (x19_1 < (t253.length : Int)) = true := decide_eq_true c45
                    clear c45
                    obtain ⟨bq46, hbq46⟩ : ∃ b_ : Bool, b_ = (rdOf false t253 x19_1) := ⟨_, rfl⟩
                    replace H : (if bq46 = true then (if x18_1 ≥ (t250.length : Int) then (none) else (if 0 ≤ x18_1 then (if x18_1 < (t250.length : Int) then (if (rdOf ByteArray.empty t250 x18_1).toList = ((rd_T43 l0 x19_1).f0).toList then (truantlaw03_KindExact.l0 k1 l0 t250 t253 (wrap64 (x18_1 + 1)) (wrap64 (x19_1 + 1))) else (none)) else (none)) else (none))) else (truantlaw03_KindExact.l0 k1 l0 t250 t253 x18_1 (wrap64 (x19_1 + 1)))) = some r := by rw [← hbq46] at H; exact H
                    have Nbq46 := Aside0.mk hbq46
                    clear hbq46
                    by_cases c47 : bq46 = true
                    ·subst c47
                     have H1 : (if x18_1 ≥ (t250.length : Int) then (none) else (if 0 ≤ x18_1 then (if x18_1 < (t250.length : Int) then (if (rdOf ByteArray.empty t250 x18_1).toList = ((rd_T43 l0 x19_1).f0).toList then (truantlaw03_KindExact.l0 k1 l0 t250 t253 (wrap64 (x18_1 + 1)) (wrap64 (x19_1 + 1))) else (none)) else (none)) else (none))) = some r := by rw [if_pos rfl] at H; exact H
                     clear H
                     have H := H1
                     clear H1
                     by_cases c48 : x18_1 ≥ (t250.length : Int)
                     ·rw [if_pos c48] at H
                      exact absurd H (by simp)
                     ·rw [if_neg c48] at H
                      have c48b0 : decide ((t250.length : Int) ≤ x18_1) = false := decide_eq_false c48
                      clear c48
                      by_cases c49 : 0 ≤ x18_1
                      ·rw [if_pos c49] at H
                       have c49b0 : decide (0 ≤ x18_1) = true := decide_eq_true c49
                       clear c49
                       by_cases c50 : x18_1 < (t250.length : Int)
                       ·rw [if_pos c50] at H
                        have c50b0 : decide (x18_1 < (t250.length : Int)) = true := decide_eq_true c50
                        clear c50
                        by_cases c51 : (rdOf ByteArray.empty t250 x18_1).toList = ((rd_T43 l0 x19_1).f0).toList
                        ·rw [if_pos c51] at H
                         have c51b0 : ((rdOf ByteArray.empty t250 x18_1).toList == ((rd_T43 l0 x19_1).f0).toList) = true := beq_iff_eq.mpr c51
                         have c51b1 : ((rdOf ByteArray.empty t250 x18_1).toList != ((rd_T43 l0 x19_1).f0).toList) = false := bne_eq_false_iff_eq.mpr c51
                         clear c51
                         have H' := Aside0.mk H
                         clear H
                         obtain ⟨Ao52, co52, eo52⟩ := Kd.R_slice HO_17.out
                         subst eo52
                         have p256 : 0 ≤ (x19_1 : Int) := of_decide_eq_true (by first | (with_reducible assumption) | assumption)
                         have q256 : x19_1 < (t253.length : Int) := of_decide_eq_true (by first | (with_reducible assumption) | assumption)
                         obtain ⟨ad256, e256, hx256_0⟩ := Kd.at_bool (Kd.R_reads' HO_17.out).2.2 x19_1 p256 q256
                         (try rw [← Nbq46.out] at hx256_0)
                         cases e256
                         replace p256 := eq_true p256
                         replace q256 := eq_true q256
                         obtain ⟨Ao53, co53, eo53⟩ := Kd.R_slice HO_16.out
                         subst eo53
                         have p257 : 0 ≤ (x18_1 : Int) := of_decide_eq_true (by first | (with_reducible assumption) | assumption)
                         have q257 : x18_1 < (t250.length : Int) := of_decide_eq_true (by first | (with_reducible assumption) | assumption)
                         obtain ⟨ad257, e257, hx257_0⟩ := Kd.at_string (Kd.R_reads' HO_16.out).2.2 x18_1 p257 q257
                         cases e257
                         replace p257 := eq_true p257
                         replace q257 := eq_true q257
                         have p258 : 0 ≤ (x19_1 : Int) := of_decide_eq_true (by first | (with_reducible assumption) | assumption)
                         have q258 : x19_1 < (l0.length : Int) := of_decide_eq_true (by first | (with_reducible assumption) | assumption)
                         obtain ⟨ad258, A258_1, c258_1, e258, hx258_0, hx258_1, hl258_1, hi258_1⟩ := at_T43 HR0.out x19_1 p258 q258
                         cases e258
                         replace hx258_0 := (HB.out.cell (World.block_lt_of_cell? w _ hx258_0)).trans hx258_0
                         replace hx258_1 := (HB.out.cell (World.block_lt_of_cell? w _ hx258_1)).trans hx258_1
                         have HR258_1 := Aside0.mk hi258_1
                         have HC258_1 := Aside0.mk hl258_1
                         clear hi258_1 hl258_1
                         replace p258 := eq_true p258
                         replace q258 := eq_true q258
                         go_wp2
                         repeat (go_quiet (fail); try go_wp2)
                         go_roundg k1
                         case measure => have := HK1.out; omega
                         case rel => exact ⟨(wrap64 (x18_1 + 1)), (wrap64 (x19_1 + 1)), (by first | rfl | (simp; done) | (simp [*]; done)), (by first | rfl | (simp; done) | (simp [*]; done)), H', ⟨by have := HK1.out; omega⟩, ⟨by (with_reducible repeat (first | apply Kd.R_alloc | apply Kd.R_drewN | apply Kd.R_drew)); exact HO_16.out⟩, ⟨by (with_reducible repeat (first | apply Kd.R_alloc | apply Kd.R_drewN | apply Kd.R_drew)); exact HO_17.out⟩, ⟨by repeat (first | (with_reducible first | exact HB.out | apply below_alloc | apply pw_below_drewN | apply below_drew1) | exact HB.out)⟩⟩
                        ·rw [if_neg c51] at H
                         exact absurd H (by simp)
                       ·rw [if_neg c50] at H
                        exact absurd H (by simp)
                      ·rw [if_neg c49] at H
                       exact absurd H (by simp)
                    ·replace c47 := Bool.eq_false_iff.mpr c47
                     subst c47
                     have H1 : (truantlaw03_KindExact.l0 k1 l0 t250 t253 x18_1 (wrap64 (x19_1 + 1))) = some r := by rw [if_neg (show ¬ (false = true) by decide)] at H; exact H
                     clear H
                     have H := H1
                     clear H1
                     have H' := Aside0.mk H
                     clear H
                     obtain ⟨Ao54, co54, eo54⟩ := Kd.R_slice HO_17.out
                     subst eo54
                     have p256 : 0 ≤ (x19_1 : Int) := of_decide_eq_true (by first | (with_reducible assumption) | assumption)
                     have q256 : x19_1 < (t253.length : Int) := of_decide_eq_true (by first | (with_reducible assumption) | assumption)
                     obtain ⟨ad256, e256, hx256_0⟩ := Kd.at_bool (Kd.R_reads' HO_17.out).2.2 x19_1 p256 q256
                     (try rw [← Nbq46.out] at hx256_0)
                     cases e256
                     replace p256 := eq_true p256
                     replace q256 := eq_true q256
                     go_wp2
                     repeat (go_quiet (fail); try go_wp2)
                     go_roundg k1
                     case measure => have := HK1.out; omega
                     case rel => exact ⟨(x18_1), (wrap64 (x19_1 + 1)), (by first | rfl | (simp; done) | (simp [*]; done)), (by first | rfl | (simp; done) | (simp [*]; done)), H', ⟨by have := HK1.out; omega⟩, ⟨by (with_reducible repeat (first | apply Kd.R_alloc | apply Kd.R_drewN | apply Kd.R_drew)); exact HO_16.out⟩, ⟨by (with_reducible repeat (first | apply Kd.R_alloc | apply Kd.R_drewN | apply Kd.R_drew)); exact HO_17.out⟩, ⟨by repeat (first | (with_reducible first | exact HB.out | apply below_alloc | apply pw_below_drewN | apply below_drew1) | exact HB.out)⟩⟩
                   ·rw [if_neg c45] at H
                    exact absurd H (by simp)
                  ·rw [if_neg c44] at H
                   exact absurd H (by simp)
                 ·rw [if_neg c43] at H
                  have c43b0 : decide (x19_1 < (l0.length : Int)) = false := decide_eq_false c43
                  clear c43
                  obtain rfl := Option.some.inj H
                  obtain ⟨Ao55, co55, eo55⟩ := Kd.R_slice HO_16.out
                  subst eo55
                  go_wp2
                  repeat (go_quiet (fail); try go_wp2)
                  go_ret
                  exact ⟨by first | rfl | (simp [errW_none, errW_some] <;> rfl) | (simp [*, errW_none, errW_some] <;> rfl), by repeat (first | (with_reducible first | exact HB.out | apply below_alloc | apply pw_below_drewN | apply below_drew1) | exact HB.out)⟩
              ·rw [if_neg c31] at H
               exact absurd H (by simp)
             ·rw [if_neg c30] at H
              exact absurd H (by simp)
           ·rw [if_neg c25] at H
            exact absurd H (by simp)
          ·replace c24 := Bool.eq_false_iff.mpr c24
           subst c24
           have H1 : (if t243 = 0 then ((kind_Is.f k l0 a1).bind fun t259 => ((truantref03_Is.f k l0 a1).bind fun t260 => (if (t259 != t260) = true then (none) else ((kind_Pointer.f a2).bind fun t261 => (if 1 + a2.size ≤ 9223372036854775807 then (if t261.toList = ((⟨#[42]⟩ : ByteArray) ++ a2).toList then ((kind_Reach.f k l0 a1).bind fun t262 => ((truantref03_Reach.f k l0 a1).bind fun t265 => (truantlaw03_KindExact.l0 k l0 t262 t265 0 0))) else (none)) else (none)))))) else (none)) = some r := by rw [if_neg (show ¬ (false = true) by decide)] at H; exact H
           clear H
           have H := H1
           clear H1
           by_cases c56 : t243 = 0
           ·rw [if_pos c56] at H
            have c56b0 : (t243 == 0) = true := beq_iff_eq.mpr c56
            have c56b1 : (t243 != 0) = false := bne_eq_false_iff_eq.mpr c56
            clear c56
            replace H := Option.bind_eq_some_iff.mp H
            obtain ⟨t259, A570, H⟩ := H
            replace H : ((truantref03_Is.f k l0 a1).bind fun t260 => (if (t259 != t260) = true then (none) else ((kind_Pointer.f a2).bind fun t261 => (if 1 + a2.size ≤ 9223372036854775807 then (if t261.toList = ((⟨#[42]⟩ : ByteArray) ++ a2).toList then ((kind_Reach.f k l0 a1).bind fun t262 => ((truantref03_Reach.f k l0 a1).bind fun t265 => (truantlaw03_KindExact.l0 k l0 t262 t265 0 0))) else (none)) else (none))))) = some r := H
            have A57 := Aside0.mk A570
            clear A570
            replace H := Option.bind_eq_some_iff.mp H
            obtain ⟨t260, A580, H⟩ := H
            replace H : (if (t259 != t260) = true then (none) else ((kind_Pointer.f a2).bind fun t261 => (if 1 + a2.size ≤ 9223372036854775807 then (if t261.toList = ((⟨#[42]⟩ : ByteArray) ++ a2).toList then ((kind_Reach.f k l0 a1).bind fun t262 => ((truantref03_Reach.f k l0 a1).bind fun t265 => (truantlaw03_KindExact.l0 k l0 t262 t265 0 0))) else (none)) else (none)))) = some r := H
            have A58 := Aside0.mk A580
            clear A580
            by_cases c59 : (t259 != t260) = true
            ·rw [if_pos c59] at H
             exact absurd H (by simp)
            ·rw [if_neg c59] at H
             have c59b0 : (t259 != t260) = false := by simpa using c59
             (try (have c59b1 : decide (t259 = t260) = true := by simpa using c59))
             (try (have c59b2 : (t259 == t260) = true := by simpa using c59))
             clear c59
             replace H := Option.bind_eq_some_iff.mp H
             obtain ⟨t261, A600, H⟩ := H
             replace H : (if 1 + a2.size ≤ 9223372036854775807 then (if t261.toList = ((⟨#[42]⟩ : ByteArray) ++ a2).toList then ((kind_Reach.f k l0 a1).bind fun t262 => ((truantref03_Reach.f k l0 a1).bind fun t265 => (truantlaw03_KindExact.l0 k l0 t262 t265 0 0))) else (none)) else (none)) = some r := H
             have A60 := Aside0.mk A600
             clear A600
             by_cases c61 : 1 + a2.size ≤ 9223372036854775807
             ·rw [if_pos c61] at H
              have c61b0 := eq_true c61
              have c61b1 : decide (1 + a2.size ≤ 9223372036854775807) = true := decide_eq_true c61
              try have c61b2 : (9223372036854775807 < 1 + a2.size) = False := eq_false (Nat.not_lt.2 c61)
              by_cases c62 : t261.toList = ((⟨#[42]⟩ : ByteArray) ++ a2).toList
              ·rw [if_pos c62] at H
               have c62b0 : (t261.toList == ((⟨#[42]⟩ : ByteArray) ++ a2).toList) = true := beq_iff_eq.mpr c62
               have c62b1 : (t261.toList != ((⟨#[42]⟩ : ByteArray) ++ a2).toList) = false := bne_eq_false_iff_eq.mpr c62
               clear c62
               replace H := Option.bind_eq_some_iff.mp H
               obtain ⟨t262, A630, H⟩ := H
               replace H : ((truantref03_Reach.f k l0 a1).bind fun t265 => (truantlaw03_KindExact.l0 k l0 t262 t265 0 0)) = some r := H
               have A63 := Aside0.mk A630
               clear A630
               replace H := Option.bind_eq_some_iff.mp H
               obtain ⟨t265, A640, H⟩ := H
               replace H : (truantlaw03_KindExact.l0 k l0 t262 t265 0 0) = some r := H
               have A64 := Aside0.mk A640
               clear A640
               have H' := Aside0.mk H
               clear H
               go_enter Try.func3, Try.ntmps3
               go_wp2_with (first | (go_at_call 7; (with_reducible refine (truantlaw03_awake.calls k  true _ A4.out).mono ?_); rintro e w65 ⟨rfl, hb⟩; have n0_ := Aside0.mk (below_step (by repeat (first | (with_reducible first | exact HB.out | apply below_alloc | apply pw_below_drewN | apply below_drew1) | exact HB.out)) hb); clear HB; have HB := n0_; clear n0_; (try clear hb); (try clear hb2); (try clear hk); (try clear hi)) | (go_at_call 8; (with_reducible refine (truantlaw03_great.calls k _ _ l0 false _ ?side1 ?side2 A6.out).mono ?_); (case side1 => repeat (first | exact (Kd.C_below HR0.out HB.out) | (with_reducible refine Kd.C_alloc ?_ _) | (with_reducible refine Kd.C_drewN ?_ _) | (with_reducible refine Kd.C_drew ?_))); (case side2 => exact HC0.out); rintro e w' ⟨rfl, ⟨nd, rfl⟩⟩; (try first | exact ⟨rfl, _, World.drewN_drewN _ _ _⟩ | exact ⟨rfl, _, Eq.trans (World.drewN_drewN _ _ _) (congrArg (World.drewN _) (Nat.add_assoc _ _ _))⟩)) | (go_at_call 9; (with_reducible refine (kind_Check.calls k _ _ l0 t237 t238 _ ?side1 ?side2 A13.out).mono ?_); (case side1 => repeat (first | exact (Kd.C_below HR0.out (by repeat (first | (with_reducible first | exact HB.out | apply below_alloc | apply pw_below_drewN | apply below_drew1) | exact HB.out))) | (with_reducible refine Kd.C_alloc ?_ _) | (with_reducible refine Kd.C_drewN ?_ _) | (with_reducible refine Kd.C_drew ?_))); (case side2 => exact HC0.out); rintro e w66 ⟨rfl, hb⟩; have n0_ := Aside0.mk (below_step (by repeat (first | (with_reducible first | exact HB.out | apply below_alloc | apply pw_below_drewN | apply below_drew1) | exact HB.out)) hb); clear HB; have HB := n0_; clear n0_; (try clear hb); (try clear hb2); (try clear hk); (try clear hi)) | (go_at_call 10; (with_reducible refine (truantref03_Check.calls k _ _ l0 t239 t240 _ ?side1 ?side2 A14.out).mono ?_); (case side1 => repeat (first | exact (Kd.C_below HR0.out HB.out) | (with_reducible refine Kd.C_alloc ?_ _) | (with_reducible refine Kd.C_drewN ?_ _) | (with_reducible refine Kd.C_drew ?_))); (case side2 => exact HC0.out); rintro e w67 ⟨rfl, hb⟩; have n0_ := Aside0.mk (below_step (by repeat (first | (with_reducible first | exact HB.out | apply below_alloc | apply pw_below_drewN | apply below_drew1) | exact HB.out)) hb); clear HB; have HB := n0_; clear n0_; (try clear hb); (try clear hb2); (try clear hk); (try clear hi)) | (go_at_call 11; (with_reducible refine (kind_Elem.calls k a1 t241 t242 _ A15.out).mono ?_); rintro e w68 ⟨rfl, hb⟩; have n0_ := Aside0.mk (below_step (by repeat (first | (with_reducible first | exact HB.out | apply below_alloc | apply pw_below_drewN | apply below_drew1) | exact HB.out)) hb); clear HB; have HB := n0_; clear n0_; (try clear hb); (try clear hb2); (try clear hk); (try clear hi)) | (go_at_call 12; (with_reducible refine (kind_Find.calls _ _ l0 a2 t243 false _ ?side1 ?side2 A16.out).mono ?_); (case side1 => repeat (first | exact (Kd.C_below HR0.out HB.out) | (with_reducible refine Kd.C_alloc ?_ _) | (with_reducible refine Kd.C_drewN ?_ _) | (with_reducible refine Kd.C_drew ?_))); (case side2 => exact HC0.out); rintro e w69 ⟨rfl, hb⟩; have n0_ := Aside0.mk (below_step (by repeat (first | (with_reducible first | exact HB.out | apply below_alloc | apply pw_below_drewN | apply below_drew1) | exact HB.out)) hb); clear HB; have HB := n0_; clear n0_; (try clear hb); (try clear hb2); (try clear hk); (try clear hi)) | (go_at_call 13; (with_reducible refine (truantref03_Find.calls k _ _ l0 a2 t245 _ ?side1 ?side2 A17.out).mono ?_); (case side1 => repeat (first | exact (Kd.C_below HR0.out HB.out) | (with_reducible refine Kd.C_alloc ?_ _) | (with_reducible refine Kd.C_drewN ?_ _) | (with_reducible refine Kd.C_drew ?_))); (case side2 => exact HC0.out); rintro e w' ⟨rfl, ⟨nd, rfl⟩⟩; (try first | exact ⟨rfl, _, World.drewN_drewN _ _ _⟩ | exact ⟨rfl, _, Eq.trans (World.drewN_drewN _ _ _) (congrArg (World.drewN _) (Nat.add_assoc _ _ _))⟩)) | (go_at_call 14; (with_reducible refine (truantref03_Elem.calls k a1 t246 _ A20.out).mono ?_); rintro e w70 ⟨rfl, hb⟩; have n0_ := Aside0.mk (below_step (by repeat (first | (with_reducible first | exact HB.out | apply below_alloc | apply pw_below_drewN | apply below_drew1) | exact HB.out)) hb); clear HB; have HB := n0_; clear n0_; (try clear hb); (try clear hb2); (try clear hk); (try clear hi)) | (go_at_call 15; (with_reducible refine (kind_Is.calls k _ _ l0 a1 t259 _ ?side1 ?side2 A57.out).mono ?_); (case side1 => repeat (first | exact (Kd.C_below HR0.out HB.out) | (with_reducible refine Kd.C_alloc ?_ _) | (with_reducible refine Kd.C_drewN ?_ _) | (with_reducible refine Kd.C_drew ?_))); (case side2 => exact HC0.out); rintro e w71 ⟨rfl, hb⟩; have n0_ := Aside0.mk (below_step (by repeat (first | (with_reducible first | exact HB.out | apply below_alloc | apply pw_below_drewN | apply below_drew1) | exact HB.out)) hb); clear HB; have HB := n0_; clear n0_; (try clear hb); (try clear hb2); (try clear hk); (try clear hi)) | (go_at_call 16; (with_reducible refine (truantref03_Is.calls k _ _ l0 a1 t260 _ ?side1 ?side2 A58.out).mono ?_); (case side1 => repeat (first | exact (Kd.C_below HR0.out HB.out) | (with_reducible refine Kd.C_alloc ?_ _) | (with_reducible refine Kd.C_drewN ?_ _) | (with_reducible refine Kd.C_drew ?_))); (case side2 => exact HC0.out); rintro e w' ⟨rfl, ⟨nd, rfl⟩⟩; (try first | exact ⟨rfl, _, World.drewN_drewN _ _ _⟩ | exact ⟨rfl, _, Eq.trans (World.drewN_drewN _ _ _) (congrArg (World.drewN _) (Nat.add_assoc _ _ _))⟩)) | (go_at_call 17; (with_reducible refine (kind_Pointer.calls a2 t261 _ A60.out).mono ?_); rintro e w' ⟨rfl, ⟨nd, rfl⟩⟩; (try first | exact ⟨rfl, _, World.drewN_drewN _ _ _⟩ | exact ⟨rfl, _, Eq.trans (World.drewN_drewN _ _ _) (congrArg (World.drewN _) (Nat.add_assoc _ _ _))⟩)) | (go_at_call 18; (with_reducible refine (kind_Reach.calls k _ _ l0 a1 t262 _ ?side1 ?side2 A63.out).mono ?_); (case side1 => repeat (first | exact (Kd.C_below HR0.out (by repeat (first | (with_reducible first | exact HB.out | apply below_alloc | apply pw_below_drewN | apply below_drew1) | exact HB.out))) | (with_reducible refine Kd.C_alloc ?_ _) | (with_reducible refine Kd.C_drewN ?_ _) | (with_reducible refine Kd.C_drew ?_))); (case side2 => exact HC0.out); rintro e w72 ⟨v263, rfl, ho0, hb⟩; have n0_ := Aside0.mk (Kd.R_lower ho0 (below_size (by repeat (first | (with_reducible first | exact HB.out | apply below_alloc | apply pw_below_drewN | apply below_drew1) | exact HB.out)))); have n1_ := Aside0.mk (below_step (by repeat (first | (with_reducible first | exact HB.out | apply below_alloc | apply pw_below_drewN | apply below_drew1) | exact HB.out)) hb); clear HB; have HO264 := n0_; have HB := n1_; clear n0_ n1_; (try clear hb); (try clear hb2); (try clear hk); (try clear hi); (try clear ho0)) | (go_at_call 19; (with_reducible refine (truantref03_Reach.calls k _ _ l0 a1 t265 _ ?side1 ?side2 A64.out).mono ?_); (case side1 => repeat (first | exact (Kd.C_below HR0.out HB.out) | (with_reducible refine Kd.C_alloc ?_ _) | (with_reducible refine Kd.C_drewN ?_ _) | (with_reducible refine Kd.C_drew ?_))); (case side2 => exact HC0.out); rintro e w73 ⟨v266, rfl, ho0, hb⟩; have n0_ := Aside0.mk (Kd.R_below (by (with_reducible repeat (first | apply Kd.R_alloc | apply Kd.R_drewN | apply Kd.R_drew)); exact HO264.out) hb); have n1_ := Aside0.mk (Kd.R_lower ho0 (below_size (by repeat (first | (with_reducible first | exact HB.out | apply below_alloc | apply pw_below_drewN | apply below_drew1) | exact HB.out)))); have n2_ := Aside0.mk (below_step (by repeat (first | (with_reducible first | exact HB.out | apply below_alloc | apply pw_below_drewN | apply below_drew1) | exact HB.out)) hb); clear HO264; clear HB; have HO264 := n0_; have HO267 := n1_; have HB := n2_; clear n0_ n1_ n2_; (try clear hb); (try clear hb2); (try clear hk); (try clear hi); (try clear ho0)))
               repeat (go_quiet (first | (go_at_call 7; (with_reducible refine (truantlaw03_awake.calls k  true _ A4.out).mono ?_); rintro e w65 ⟨rfl, hb⟩; have n0_ := Aside0.mk (below_step (by repeat (first | (with_reducible first | exact HB.out | apply below_alloc | apply pw_below_drewN | apply below_drew1) | exact HB.out)) hb); clear HB; have HB := n0_; clear n0_; (try clear hb); (try clear hb2); (try clear hk); (try clear hi)) | (go_at_call 8; (with_reducible refine (truantlaw03_great.calls k _ _ l0 false _ ?side1 ?side2 A6.out).mono ?_); (case side1 => repeat (first | exact (Kd.C_below HR0.out HB.out) | (with_reducible refine Kd.C_alloc ?_ _) | (with_reducible refine Kd.C_drewN ?_ _) | (with_reducible refine Kd.C_drew ?_))); (case side2 => exact HC0.out); rintro e w' ⟨rfl, ⟨nd, rfl⟩⟩; (try first | exact ⟨rfl, _, World.drewN_drewN _ _ _⟩ | exact ⟨rfl, _, Eq.trans (World.drewN_drewN _ _ _) (congrArg (World.drewN _) (Nat.add_assoc _ _ _))⟩)) | (go_at_call 9; (with_reducible refine (kind_Check.calls k _ _ l0 t237 t238 _ ?side1 ?side2 A13.out).mono ?_); (case side1 => repeat (first | exact (Kd.C_below HR0.out (by repeat (first | (with_reducible first | exact HB.out | apply below_alloc | apply pw_below_drewN | apply below_drew1) | exact HB.out))) | (with_reducible refine Kd.C_alloc ?_ _) | (with_reducible refine Kd.C_drewN ?_ _) | (with_reducible refine Kd.C_drew ?_))); (case side2 => exact HC0.out); rintro e w66 ⟨rfl, hb⟩; have n0_ := Aside0.mk (below_step (by repeat (first | (with_reducible first | exact HB.out | apply below_alloc | apply pw_below_drewN | apply below_drew1) | exact HB.out)) hb); clear HB; have HB := n0_; clear n0_; (try clear hb); (try clear hb2); (try clear hk); (try clear hi)) | (go_at_call 10; (with_reducible refine (truantref03_Check.calls k _ _ l0 t239 t240 _ ?side1 ?side2 A14.out).mono ?_); (case side1 => repeat (first | exact (Kd.C_below HR0.out HB.out) | (with_reducible refine Kd.C_alloc ?_ _) | (with_reducible refine Kd.C_drewN ?_ _) | (with_reducible refine Kd.C_drew ?_))); (case side2 => exact HC0.out); rintro e w67 ⟨rfl, hb⟩; have n0_ := Aside0.mk (below_step (by repeat (first | (with_reducible first | exact HB.out | apply below_alloc | apply pw_below_drewN | apply below_drew1) | exact HB.out)) hb); clear HB; have HB := n0_; clear n0_; (try clear hb); (try clear hb2); (try clear hk); (try clear hi)) | (go_at_call 11; (with_reducible refine (kind_Elem.calls k a1 t241 t242 _ A15.out).mono ?_); rintro e w68 ⟨rfl, hb⟩; have n0_ := Aside0.mk (below_step (by repeat (first | (with_reducible first | exact HB.out | apply below_alloc | apply pw_below_drewN | apply below_drew1) | exact HB.out)) hb); clear HB; have HB := n0_; clear n0_; (try clear hb); (try clear hb2); (try clear hk); (try clear hi)) | (go_at_call 12; (with_reducible refine (kind_Find.calls _ _ l0 a2 t243 false _ ?side1 ?side2 A16.out).mono ?_); (case side1 => repeat (first | exact (Kd.C_below HR0.out HB.out) | (with_reducible refine Kd.C_alloc ?_ _) | (with_reducible refine Kd.C_drewN ?_ _) | (with_reducible refine Kd.C_drew ?_))); (case side2 => exact HC0.out); rintro e w69 ⟨rfl, hb⟩; have n0_ := Aside0.mk (below_step (by repeat (first | (with_reducible first | exact HB.out | apply below_alloc | apply pw_below_drewN | apply below_drew1) | exact HB.out)) hb); clear HB; have HB := n0_; clear n0_; (try clear hb); (try clear hb2); (try clear hk); (try clear hi)) | (go_at_call 13; (with_reducible refine (truantref03_Find.calls k _ _ l0 a2 t245 _ ?side1 ?side2 A17.out).mono ?_); (case side1 => repeat (first | exact (Kd.C_below HR0.out HB.out) | (with_reducible refine Kd.C_alloc ?_ _) | (with_reducible refine Kd.C_drewN ?_ _) | (with_reducible refine Kd.C_drew ?_))); (case side2 => exact HC0.out); rintro e w' ⟨rfl, ⟨nd, rfl⟩⟩; (try first | exact ⟨rfl, _, World.drewN_drewN _ _ _⟩ | exact ⟨rfl, _, Eq.trans (World.drewN_drewN _ _ _) (congrArg (World.drewN _) (Nat.add_assoc _ _ _))⟩)) | (go_at_call 14; (with_reducible refine (truantref03_Elem.calls k a1 t246 _ A20.out).mono ?_); rintro e w70 ⟨rfl, hb⟩; have n0_ := Aside0.mk (below_step (by repeat (first | (with_reducible first | exact HB.out | apply below_alloc | apply pw_below_drewN | apply below_drew1) | exact HB.out)) hb); clear HB; have HB := n0_; clear n0_; (try clear hb); (try clear hb2); (try clear hk); (try clear hi)) | (go_at_call 15; (with_reducible refine (kind_Is.calls k _ _ l0 a1 t259 _ ?side1 ?side2 A57.out).mono ?_); (case side1 => repeat (first | exact (Kd.C_below HR0.out HB.out) | (with_reducible refine Kd.C_alloc ?_ _) | (with_reducible refine Kd.C_drewN ?_ _) | (with_reducible refine Kd.C_drew ?_))); (case side2 => exact HC0.out); rintro e w71 ⟨rfl, hb⟩; have n0_ := Aside0.mk (below_step (by repeat (first | (with_reducible first | exact HB.out | apply below_alloc | apply pw_below_drewN | apply below_drew1) | exact HB.out)) hb); clear HB; have HB := n0_; clear n0_; (try clear hb); (try clear hb2); (try clear hk); (try clear hi)) | (go_at_call 16; (with_reducible refine (truantref03_Is.calls k _ _ l0 a1 t260 _ ?side1 ?side2 A58.out).mono ?_); (case side1 => repeat (first | exact (Kd.C_below HR0.out HB.out) | (with_reducible refine Kd.C_alloc ?_ _) | (with_reducible refine Kd.C_drewN ?_ _) | (with_reducible refine Kd.C_drew ?_))); (case side2 => exact HC0.out); rintro e w' ⟨rfl, ⟨nd, rfl⟩⟩; (try first | exact ⟨rfl, _, World.drewN_drewN _ _ _⟩ | exact ⟨rfl, _, Eq.trans (World.drewN_drewN _ _ _) (congrArg (World.drewN _) (Nat.add_assoc _ _ _))⟩)) | (go_at_call 17; (with_reducible refine (kind_Pointer.calls a2 t261 _ A60.out).mono ?_); rintro e w' ⟨rfl, ⟨nd, rfl⟩⟩; (try first | exact ⟨rfl, _, World.drewN_drewN _ _ _⟩ | exact ⟨rfl, _, Eq.trans (World.drewN_drewN _ _ _) (congrArg (World.drewN _) (Nat.add_assoc _ _ _))⟩)) | (go_at_call 18; (with_reducible refine (kind_Reach.calls k _ _ l0 a1 t262 _ ?side1 ?side2 A63.out).mono ?_); (case side1 => repeat (first | exact (Kd.C_below HR0.out (by repeat (first | (with_reducible first | exact HB.out | apply below_alloc | apply pw_below_drewN | apply below_drew1) | exact HB.out))) | (with_reducible refine Kd.C_alloc ?_ _) | (with_reducible refine Kd.C_drewN ?_ _) | (with_reducible refine Kd.C_drew ?_))); (case side2 => exact HC0.out); rintro e w72 ⟨v263, rfl, ho0, hb⟩; have n0_ := Aside0.mk (Kd.R_lower ho0 (below_size (by repeat (first | (with_reducible first | exact HB.out | apply below_alloc | apply pw_below_drewN | apply below_drew1) | exact HB.out)))); have n1_ := Aside0.mk (below_step (by repeat (first | (with_reducible first | exact HB.out | apply below_alloc | apply pw_below_drewN | apply below_drew1) | exact HB.out)) hb); clear HB; have HO264 := n0_; have HB := n1_; clear n0_ n1_; (try clear hb); (try clear hb2); (try clear hk); (try clear hi); (try clear ho0)) | (go_at_call 19; (with_reducible refine (truantref03_Reach.calls k _ _ l0 a1 t265 _ ?side1 ?side2 A64.out).mono ?_); (case side1 => repeat (first | exact (Kd.C_below HR0.out HB.out) | (with_reducible refine Kd.C_alloc ?_ _) | (with_reducible refine Kd.C_drewN ?_ _) | (with_reducible refine Kd.C_drew ?_))); (case side2 => exact HC0.out); rintro e w73 ⟨v266, rfl, ho0, hb⟩; have n0_ := Aside0.mk (Kd.R_below (by (with_reducible repeat (first | apply Kd.R_alloc | apply Kd.R_drewN | apply Kd.R_drew)); exact HO264.out) hb); have n1_ := Aside0.mk (Kd.R_lower ho0 (below_size (by repeat (first | (with_reducible first | exact HB.out | apply below_alloc | apply pw_below_drewN | apply below_drew1) | exact HB.out)))); have n2_ := Aside0.mk (below_step (by repeat (first | (with_reducible first | exact HB.out | apply below_alloc | apply pw_below_drewN | apply below_drew1) | exact HB.out)) hb); clear HO264; clear HB; have HO264 := n0_; have HO267 := n1_; have HB := n2_; clear n0_ n1_ n2_; (try clear hb); (try clear hb2); (try clear hk); (try clear hi); (try clear ho0))); try go_wp2_with (first | (go_at_call 7; (with_reducible refine (truantlaw03_awake.calls k  true _ A4.out).mono ?_); rintro e w65 ⟨rfl, hb⟩; have n0_ := Aside0.mk (below_step (by repeat (first | (with_reducible first | exact HB.out | apply below_alloc | apply pw_below_drewN | apply below_drew1) | exact HB.out)) hb); clear HB; have HB := n0_; clear n0_; (try clear hb); (try clear hb2); (try clear hk); (try clear hi)) | (go_at_call 8; (with_reducible refine (truantlaw03_great.calls k _ _ l0 false _ ?side1 ?side2 A6.out).mono ?_); (case side1 => repeat (first | exact (Kd.C_below HR0.out HB.out) | (with_reducible refine Kd.C_alloc ?_ _) | (with_reducible refine Kd.C_drewN ?_ _) | (with_reducible refine Kd.C_drew ?_))); (case side2 => exact HC0.out); rintro e w' ⟨rfl, ⟨nd, rfl⟩⟩; (try first | exact ⟨rfl, _, World.drewN_drewN _ _ _⟩ | exact ⟨rfl, _, Eq.trans (World.drewN_drewN _ _ _) (congrArg (World.drewN _) (Nat.add_assoc _ _ _))⟩)) | (go_at_call 9; (with_reducible refine (kind_Check.calls k _ _ l0 t237 t238 _ ?side1 ?side2 A13.out).mono ?_); (case side1 => repeat (first | exact (Kd.C_below HR0.out (by repeat (first | (with_reducible first | exact HB.out | apply below_alloc | apply pw_below_drewN | apply below_drew1) | exact HB.out))) | (with_reducible refine Kd.C_alloc ?_ _) | (with_reducible refine Kd.C_drewN ?_ _) | (with_reducible refine Kd.C_drew ?_))); (case side2 => exact HC0.out); rintro e w66 ⟨rfl, hb⟩; have n0_ := Aside0.mk (below_step (by repeat (first | (with_reducible first | exact HB.out | apply below_alloc | apply pw_below_drewN | apply below_drew1) | exact HB.out)) hb); clear HB; have HB := n0_; clear n0_; (try clear hb); (try clear hb2); (try clear hk); (try clear hi)) | (go_at_call 10; (with_reducible refine (truantref03_Check.calls k _ _ l0 t239 t240 _ ?side1 ?side2 A14.out).mono ?_); (case side1 => repeat (first | exact (Kd.C_below HR0.out HB.out) | (with_reducible refine Kd.C_alloc ?_ _) | (with_reducible refine Kd.C_drewN ?_ _) | (with_reducible refine Kd.C_drew ?_))); (case side2 => exact HC0.out); rintro e w67 ⟨rfl, hb⟩; have n0_ := Aside0.mk (below_step (by repeat (first | (with_reducible first | exact HB.out | apply below_alloc | apply pw_below_drewN | apply below_drew1) | exact HB.out)) hb); clear HB; have HB := n0_; clear n0_; (try clear hb); (try clear hb2); (try clear hk); (try clear hi)) | (go_at_call 11; (with_reducible refine (kind_Elem.calls k a1 t241 t242 _ A15.out).mono ?_); rintro e w68 ⟨rfl, hb⟩; have n0_ := Aside0.mk (below_step (by repeat (first | (with_reducible first | exact HB.out | apply below_alloc | apply pw_below_drewN | apply below_drew1) | exact HB.out)) hb); clear HB; have HB := n0_; clear n0_; (try clear hb); (try clear hb2); (try clear hk); (try clear hi)) | (go_at_call 12; (with_reducible refine (kind_Find.calls _ _ l0 a2 t243 false _ ?side1 ?side2 A16.out).mono ?_); (case side1 => repeat (first | exact (Kd.C_below HR0.out HB.out) | (with_reducible refine Kd.C_alloc ?_ _) | (with_reducible refine Kd.C_drewN ?_ _) | (with_reducible refine Kd.C_drew ?_))); (case side2 => exact HC0.out); rintro e w69 ⟨rfl, hb⟩; have n0_ := Aside0.mk (below_step (by repeat (first | (with_reducible first | exact HB.out | apply below_alloc | apply pw_below_drewN | apply below_drew1) | exact HB.out)) hb); clear HB; have HB := n0_; clear n0_; (try clear hb); (try clear hb2); (try clear hk); (try clear hi)) | (go_at_call 13; (with_reducible refine (truantref03_Find.calls k _ _ l0 a2 t245 _ ?side1 ?side2 A17.out).mono ?_); (case side1 => repeat (first | exact (Kd.C_below HR0.out HB.out) | (with_reducible refine Kd.C_alloc ?_ _) | (with_reducible refine Kd.C_drewN ?_ _) | (with_reducible refine Kd.C_drew ?_))); (case side2 => exact HC0.out); rintro e w' ⟨rfl, ⟨nd, rfl⟩⟩; (try first | exact ⟨rfl, _, World.drewN_drewN _ _ _⟩ | exact ⟨rfl, _, Eq.trans (World.drewN_drewN _ _ _) (congrArg (World.drewN _) (Nat.add_assoc _ _ _))⟩)) | (go_at_call 14; (with_reducible refine (truantref03_Elem.calls k a1 t246 _ A20.out).mono ?_); rintro e w70 ⟨rfl, hb⟩; have n0_ := Aside0.mk (below_step (by repeat (first | (with_reducible first | exact HB.out | apply below_alloc | apply pw_below_drewN | apply below_drew1) | exact HB.out)) hb); clear HB; have HB := n0_; clear n0_; (try clear hb); (try clear hb2); (try clear hk); (try clear hi)) | (go_at_call 15; (with_reducible refine (kind_Is.calls k _ _ l0 a1 t259 _ ?side1 ?side2 A57.out).mono ?_); (case side1 => repeat (first | exact (Kd.C_below HR0.out HB.out) | (with_reducible refine Kd.C_alloc ?_ _) | (with_reducible refine Kd.C_drewN ?_ _) | (with_reducible refine Kd.C_drew ?_))); (case side2 => exact HC0.out); rintro e w71 ⟨rfl, hb⟩; have n0_ := Aside0.mk (below_step (by repeat (first | (with_reducible first | exact HB.out | apply below_alloc | apply pw_below_drewN | apply below_drew1) | exact HB.out)) hb); clear HB; have HB := n0_; clear n0_; (try clear hb); (try clear hb2); (try clear hk); (try clear hi)) | (go_at_call 16; (with_reducible refine (truantref03_Is.calls k _ _ l0 a1 t260 _ ?side1 ?side2 A58.out).mono ?_); (case side1 => repeat (first | exact (Kd.C_below HR0.out HB.out) | (with_reducible refine Kd.C_alloc ?_ _) | (with_reducible refine Kd.C_drewN ?_ _) | (with_reducible refine Kd.C_drew ?_))); (case side2 => exact HC0.out); rintro e w' ⟨rfl, ⟨nd, rfl⟩⟩; (try first | exact ⟨rfl, _, World.drewN_drewN _ _ _⟩ | exact ⟨rfl, _, Eq.trans (World.drewN_drewN _ _ _) (congrArg (World.drewN _) (Nat.add_assoc _ _ _))⟩)) | (go_at_call 17; (with_reducible refine (kind_Pointer.calls a2 t261 _ A60.out).mono ?_); rintro e w' ⟨rfl, ⟨nd, rfl⟩⟩; (try first | exact ⟨rfl, _, World.drewN_drewN _ _ _⟩ | exact ⟨rfl, _, Eq.trans (World.drewN_drewN _ _ _) (congrArg (World.drewN _) (Nat.add_assoc _ _ _))⟩)) | (go_at_call 18; (with_reducible refine (kind_Reach.calls k _ _ l0 a1 t262 _ ?side1 ?side2 A63.out).mono ?_); (case side1 => repeat (first | exact (Kd.C_below HR0.out (by repeat (first | (with_reducible first | exact HB.out | apply below_alloc | apply pw_below_drewN | apply below_drew1) | exact HB.out))) | (with_reducible refine Kd.C_alloc ?_ _) | (with_reducible refine Kd.C_drewN ?_ _) | (with_reducible refine Kd.C_drew ?_))); (case side2 => exact HC0.out); rintro e w72 ⟨v263, rfl, ho0, hb⟩; have n0_ := Aside0.mk (Kd.R_lower ho0 (below_size (by repeat (first | (with_reducible first | exact HB.out | apply below_alloc | apply pw_below_drewN | apply below_drew1) | exact HB.out)))); have n1_ := Aside0.mk (below_step (by repeat (first | (with_reducible first | exact HB.out | apply below_alloc | apply pw_below_drewN | apply below_drew1) | exact HB.out)) hb); clear HB; have HO264 := n0_; have HB := n1_; clear n0_ n1_; (try clear hb); (try clear hb2); (try clear hk); (try clear hi); (try clear ho0)) | (go_at_call 19; (with_reducible refine (truantref03_Reach.calls k _ _ l0 a1 t265 _ ?side1 ?side2 A64.out).mono ?_); (case side1 => repeat (first | exact (Kd.C_below HR0.out HB.out) | (with_reducible refine Kd.C_alloc ?_ _) | (with_reducible refine Kd.C_drewN ?_ _) | (with_reducible refine Kd.C_drew ?_))); (case side2 => exact HC0.out); rintro e w73 ⟨v266, rfl, ho0, hb⟩; have n0_ := Aside0.mk (Kd.R_below (by (with_reducible repeat (first | apply Kd.R_alloc | apply Kd.R_drewN | apply Kd.R_drew)); exact HO264.out) hb); have n1_ := Aside0.mk (Kd.R_lower ho0 (below_size (by repeat (first | (with_reducible first | exact HB.out | apply below_alloc | apply pw_below_drewN | apply below_drew1) | exact HB.out)))); have n2_ := Aside0.mk (below_step (by repeat (first | (with_reducible first | exact HB.out | apply below_alloc | apply pw_below_drewN | apply below_drew1) | exact HB.out)) hb); clear HO264; clear HB; have HO264 := n0_; have HO267 := n1_; have HB := n2_; clear n0_ n1_ n2_; (try clear hb); (try clear hb2); (try clear hk); (try clear hi); (try clear ho0))))
               go_loopg [18, 19] k (fun kq v18 v19 w' => ∃ (x18_1 : Int) (x19_1 : Int), v18 = .int .i64 x18_1 ∧ v19 = .int .i64 x19_1 ∧ Aside0 (truantlaw03_KindExact.l0 kq l0 t262 t265 x18_1 x19_1 = some r) ∧ Aside0 (kq ≤ k) ∧ Aside0 (Kd.R Kd.string 9 w' w.heap.size (fun _ => True) v263 t262) ∧ Aside0 (Kd.R Kd.bool 4 w' w.heap.size (fun _ => True) v266 t265) ∧ Aside0 (Below w.heap.size w w'))
               case atStart => exact ⟨(0), (0), (by first | rfl | (simp; done) | (simp [*]; done)), (by first | rfl | (simp; done) | (simp [*]; done)), H', ⟨Nat.le_refl _⟩, ⟨by (with_reducible repeat (first | apply Kd.R_alloc | apply Kd.R_drewN | apply Kd.R_drew)); exact HO264.out⟩, ⟨by (with_reducible repeat (first | apply Kd.R_alloc | apply Kd.R_drewN | apply Kd.R_drew)); exact HO267.out⟩, ⟨by repeat (first | (with_reducible first | exact HB.out | apply below_alloc | apply pw_below_drewN | apply below_drew1) | exact HB.out)⟩⟩
               case round =>
                clear H'
                try clear c1
                try clear c2
                try clear p2
                try clear q2
                try clear hx2
                try clear c3
                try clear c4
                try clear q4
                try clear c5
                try clear c6
                try clear p6
                try clear c7
                try clear c9
                try clear c9b0
                try clear c9b1
                try clear c11
                try clear c11b0
                try clear c11b1
                try clear c18
                try clear c18b0
                try clear c18b1
                try clear c19
                try clear c19b0
                try clear c19b1
                try clear c21
                try clear c21b0
                try clear c21b1
                try clear c22
                try clear c22b0
                try clear c22b1
                try clear c22b2
                try clear c23
                try clear c23b0
                try clear c23b1
                try clear c23b2
                try clear c24
                try clear c25
                try clear c25b0
                try clear c25b1
                try clear p25
                try clear q25
                try clear hx25
                try clear c28
                try clear c28b0
                try clear c28b1
                try clear c28b2
                try clear c30
                try clear c30b0
                try clear c30b1
                try clear c30b2
                try clear c31
                try clear c31b0
                try clear c31b1
                try clear c43
                try clear c43b0
                try clear c44
                try clear c44b0
                try clear c45
                try clear c45b0
                try clear q46
                try clear c47
                try clear c48
                try clear c48b0
                try clear c49
                try clear c49b0
                try clear c50
                try clear c50b0
                try clear c51
                try clear c51b0
                try clear c51b1
                try clear c56
                try clear c56b0
                try clear c56b1
                try clear c59
                try clear c59b0
                try clear c59b1
                try clear c59b2
                try clear c61
                try clear c61b0
                try clear c61b1
                try clear c61b2
                try clear c62
                try clear c62b0
                try clear c62b1
                try clear p64
                try clear hx256_0
                try clear hx257_0
                try clear hx258_0
                try clear hx258_1
                try clear p2
                try clear p256
                try clear p257
                try clear p258
                try clear q256
                try clear q257
                try clear q258
                obtain ⟨x18_1, x19_1, rfl, rfl, HA, HK1, HO_16, HO_17, HB⟩ := hrel
                cases gk with
                | zero => exact absurd HA.out (by simp [truantlaw03_KindExact.l0])
                | succ k1 =>
                 have H := HA.out
                 clear HA
                 simp only [truantlaw03_KindExact.l0] at H
                 by_cases c74 : x19_1 < (l0.length : Int)
                 ·rw [if_pos c74] at H
                  have c74b0 : decide (x19_1 < (l0.length : Int)) = true := decide_eq_true c74
                  clear c74
                  by_cases c75 : 0 ≤ x19_1
                  ·rw [if_pos c75] at H
                   have c75b0 : decide (0 ≤ x19_1) = true := decide_eq_true c75
                   clear c75
                   by_cases c76 : x19_1 < (t265.length : Int)
                   ·rw [if_pos c76] at H
                    have c76b0 : decide (x19_1 < (t265.length : Int)) = true := decide_eq_true c76
                    clear c76
                    obtain ⟨bq77, hbq77⟩ : ∃ b_ : Bool, b_ = (rdOf false t265 x19_1) := ⟨_, rfl⟩
                    replace H : (if bq77 = true then (if x18_1 ≥ (t262.length : Int) then (none) else (if 0 ≤ x18_1 then (if x18_1 < (t262.length : Int) then (if (rdOf ByteArray.empty t262 x18_1).toList = ((rd_T43 l0 x19_1).f0).toList then (truantlaw03_KindExact.l0 k1 l0 t262 t265 (wrap64 (x18_1 + 1)) (wrap64 (x19_1 + 1))) else (none)) else (none)) else (none))) else (truantlaw03_KindExact.l0 k1 l0 t262 t265 x18_1 (wrap64 (x19_1 + 1)))) = some r := by rw [← hbq77] at H; exact H
                    have Nbq77 := Aside0.mk hbq77
                    clear hbq77
                    by_cases c78 : bq77 = true
                    ·subst c78
                     have H1 : (if x18_1 ≥ (t262.length : Int) then (none) else (if 0 ≤ x18_1 then (if x18_1 < (t262.length : Int) then (if (rdOf ByteArray.empty t262 x18_1).toList = ((rd_T43 l0 x19_1).f0).toList then (truantlaw03_KindExact.l0 k1 l0 t262 t265 (wrap64 (x18_1 + 1)) (wrap64 (x19_1 + 1))) else (none)) else (none)) else (none))) = some r := by rw [if_pos rfl] at H; exact H
                     clear H
                     have H := H1
                     clear H1
                     by_cases c79 : x18_1 ≥ (t262.length : Int)
                     ·rw [if_pos c79] at H
                      exact absurd H (by simp)
                     ·rw [if_neg c79] at H
                      have c79b0 : decide ((t262.length : Int) ≤ x18_1) = false := decide_eq_false c79
                      clear c79
                      by_cases c80 : 0 ≤ x18_1
                      ·rw [if_pos c80] at H
                       have c80b0 : decide (0 ≤ x18_1) = true := decide_eq_true c80
                       clear c80
                       by_cases c81 : x18_1 < (t262.length : Int)
                       ·rw [if_pos c81] at H
                        have c81b0 : decide (x18_1 < (t262.length : Int)) = true := decide_eq_true c81
                        clear c81
                        by_cases c82 : (rdOf ByteArray.empty t262 x18_1).toList = ((rd_T43 l0 x19_1).f0).toList
                        ·rw [if_pos c82] at H
                         have c82b0 : ((rdOf ByteArray.empty t262 x18_1).toList == ((rd_T43 l0 x19_1).f0).toList) = true := beq_iff_eq.mpr c82
                         have c82b1 : ((rdOf ByteArray.empty t262 x18_1).toList != ((rd_T43 l0 x19_1).f0).toList) = false := bne_eq_false_iff_eq.mpr c82
                         clear c82
                         have H' := Aside0.mk H
                         clear H
                         obtain ⟨Ao83, co83, eo83⟩ := Kd.R_slice HO_17.out
                         subst eo83
                         have p256 : 0 ≤ (x19_1 : Int) := of_decide_eq_true (by first | (with_reducible assumption) | assumption)
                         have q256 : x19_1 < (t265.length : Int) := of_decide_eq_true (by first | (with_reducible assumption) | assumption)
                         obtain ⟨ad256, e256, hx256_0⟩ := Kd.at_bool (Kd.R_reads' HO_17.out).2.2 x19_1 p256 q256
                         (try rw [← Nbq77.out] at hx256_0)
                         cases e256
                         replace p256 := eq_true p256
                         replace q256 := eq_true q256
                         obtain ⟨Ao84, co84, eo84⟩ := Kd.R_slice HO_16.out
                         subst eo84
                         have p257 : 0 ≤ (x18_1 : Int) := of_decide_eq_true (by first | (with_reducible assumption) | assumption)
                         have q257 : x18_1 < (t262.length : Int) := of_decide_eq_true (by first | (with_reducible assumption) | assumption)
                         obtain ⟨ad257, e257, hx257_0⟩ := Kd.at_string (Kd.R_reads' HO_16.out).2.2 x18_1 p257 q257
                         cases e257
                         replace p257 := eq_true p257
                         replace q257 := eq_true q257
                         have p258 : 0 ≤ (x19_1 : Int) := of_decide_eq_true (by first | (with_reducible assumption) | assumption)
                         have q258 : x19_1 < (l0.length : Int) := of_decide_eq_true (by first | (with_reducible assumption) | assumption)
                         obtain ⟨ad258, A258_1, c258_1, e258, hx258_0, hx258_1, hl258_1, hi258_1⟩ := at_T43 HR0.out x19_1 p258 q258
                         cases e258
                         replace hx258_0 := (HB.out.cell (World.block_lt_of_cell? w _ hx258_0)).trans hx258_0
                         replace hx258_1 := (HB.out.cell (World.block_lt_of_cell? w _ hx258_1)).trans hx258_1
                         have HR258_1 := Aside0.mk hi258_1
                         have HC258_1 := Aside0.mk hl258_1
                         clear hi258_1 hl258_1
                         replace p258 := eq_true p258
                         replace q258 := eq_true q258
                         go_wp2
                         repeat (go_quiet (fail); try go_wp2)
                         go_roundg k1
                         case measure => have := HK1.out; omega
                         case rel => exact ⟨(wrap64 (x18_1 + 1)), (wrap64 (x19_1 + 1)), (by first | rfl | (simp; done) | (simp [*]; done)), (by first | rfl | (simp; done) | (simp [*]; done)), H', ⟨by have := HK1.out; omega⟩, ⟨by (with_reducible repeat (first | apply Kd.R_alloc | apply Kd.R_drewN | apply Kd.R_drew)); exact HO_16.out⟩, ⟨by (with_reducible repeat (first | apply Kd.R_alloc | apply Kd.R_drewN | apply Kd.R_drew)); exact HO_17.out⟩, ⟨by repeat (first | (with_reducible first | exact HB.out | apply below_alloc | apply pw_below_drewN | apply below_drew1) | exact HB.out)⟩⟩
                        ·rw [if_neg c82] at H
                         exact absurd H (by simp)
                       ·rw [if_neg c81] at H
                        exact absurd H (by simp)
                      ·rw [if_neg c80] at H
                       exact absurd H (by simp)
                    ·replace c78 := Bool.eq_false_iff.mpr c78
                     subst c78
                     have H1 : (truantlaw03_KindExact.l0 k1 l0 t262 t265 x18_1 (wrap64 (x19_1 + 1))) = some r := by rw [if_neg (show ¬ (false = true) by decide)] at H; exact H
                     clear H
                     have H := H1
                     clear H1
                     have H' := Aside0.mk H
                     clear H
                     obtain ⟨Ao85, co85, eo85⟩ := Kd.R_slice HO_17.out
                     subst eo85
                     have p256 : 0 ≤ (x19_1 : Int) := of_decide_eq_true (by first | (with_reducible assumption) | assumption)
                     have q256 : x19_1 < (t265.length : Int) := of_decide_eq_true (by first | (with_reducible assumption) | assumption)
                     obtain ⟨ad256, e256, hx256_0⟩ := Kd.at_bool (Kd.R_reads' HO_17.out).2.2 x19_1 p256 q256
                     (try rw [← Nbq77.out] at hx256_0)
                     cases e256
                     replace p256 := eq_true p256
                     replace q256 := eq_true q256
                     go_wp2
                     repeat (go_quiet (fail); try go_wp2)
                     go_roundg k1
                     case measure => have := HK1.out; omega
                     case rel => exact ⟨(x18_1), (wrap64 (x19_1 + 1)), (by first | rfl | (simp; done) | (simp [*]; done)), (by first | rfl | (simp; done) | (simp [*]; done)), H', ⟨by have := HK1.out; omega⟩, ⟨by (with_reducible repeat (first | apply Kd.R_alloc | apply Kd.R_drewN | apply Kd.R_drew)); exact HO_16.out⟩, ⟨by (with_reducible repeat (first | apply Kd.R_alloc | apply Kd.R_drewN | apply Kd.R_drew)); exact HO_17.out⟩, ⟨by repeat (first | (with_reducible first | exact HB.out | apply below_alloc | apply pw_below_drewN | apply below_drew1) | exact HB.out)⟩⟩
                   ·rw [if_neg c76] at H
                    exact absurd H (by simp)
                  ·rw [if_neg c75] at H
                   exact absurd H (by simp)
                 ·rw [if_neg c74] at H
                  have c74b0 : decide (x19_1 < (l0.length : Int)) = false := decide_eq_false c74
                  clear c74
                  obtain rfl := Option.some.inj H
                  obtain ⟨Ao86, co86, eo86⟩ := Kd.R_slice HO_16.out
                  subst eo86
                  go_wp2
                  repeat (go_quiet (fail); try go_wp2)
                  go_ret
                  exact ⟨by first | rfl | (simp [errW_none, errW_some] <;> rfl) | (simp [*, errW_none, errW_some] <;> rfl), by repeat (first | (with_reducible first | exact HB.out | apply below_alloc | apply pw_below_drewN | apply below_drew1) | exact HB.out)⟩
              ·rw [if_neg c62] at H
               exact absurd H (by simp)
             ·rw [if_neg c61] at H
              exact absurd H (by simp)
           ·rw [if_neg c56] at H
            exact absurd H (by simp)
       ·rw [if_neg c21] at H
        exact absurd H (by simp)
      ·rw [if_neg c19] at H
       exact absurd H (by simp)
     ·rw [if_neg c18] at H
      exact absurd H (by simp)
 ·replace c5 := Bool.eq_false_iff.mpr c5
  subst c5
  have H1 : (none) = some r := by rw [if_neg (show ¬ (false = true) by decide)] at H; exact H
  clear H
  have H := H1
  clear H1
  exact absurd H (by simp)

end Go.Proofs.Ythpglaekdadehaa.Q

/- How an argument of a type reads: out of the form's reading comes the value that the printed walks take. -/
namespace Go.Proofs.Ythpglaekdadehaa.Q
open Go.RowKit Go.Proofs.YthpglaekdadehaaW.PrintWords Go.Proofs.YthpglaekdadehaaW.PrintLast Go.Proofs.YthpglaekdadehaaW.PrintMore
set_option linter.unusedVariables false
set_option linter.unusedSimpArgs false
/-- What reads at type t reads as a value of kind K, of which Q holds. -/
structure Opens {α : Type} (P : Program) (t : TypeId) (K : Kd α) (Q : α → Prop) : Prop where
 out : ∀ {H : Type} {enc : TypeId × Value → H} {W : World} {base : Nat} {sp : Nat → Bool} {held : Bool} {fuel : Nat} {cs : List Value} {x : DataW H × List MemPlace},
  (∀ n ∈ x.1.weights P t, n ≤ reachBytes) → DataW.trod enc P W base sp held fuel t cs = some x → ∃ y, K.K W y cs ∧ Q y
section
variable {P : Program}
theorem opens_string {t : TypeId} (ht : P.underlying t = some .string) : Opens P t Kd.string (fun s => s.size ≤ 140737488351232) := by
 constructor
 intro H enc W base sp held fuel cs x hw h
 obtain ⟨s, rfl, rfl, hs⟩ : ∃ s : ByteArray, cs = [.string s] ∧ x = (.lit (.string s.data.toList), []) ∧ s.size ≤ maxLen := by
  cases fuel with
  | zero => simp [DataW.trod] at h
  | succ n =>
   unfold DataW.trod at h
   rw [ht] at h
   split at h <;> simp_all
 refine ⟨s, rfl, ?_⟩
 have := hw s.data.toList.length (by simp [DataW.weights])
 rw [Array.length_toList] at this
 exact this
theorem opens_int {t : TypeId} {q : IntKind} (ht : P.underlying t = some (.int q)) : Opens P t (Kd.int q) (fun n => (Lit.int q n).wf = true) := by
 constructor
 intro H enc W base sp held fuel cs x hw h
 obtain ⟨n, rfl, hs⟩ : ∃ n : Int, cs = [.int q n] ∧ (Lit.int q n).wf = true := by
  cases fuel with
  | zero => simp [DataW.trod] at h
  | succ n =>
   unfold DataW.trod at h
   rw [ht] at h
   split at h <;> simp_all
 exact ⟨n, rfl, hs⟩
theorem opens_bool {t : TypeId} (ht : P.underlying t = some .bool) : Opens P t Kd.bool (fun _ => True) := by
 constructor
 intro H enc W base sp held fuel cs x hw h
 obtain ⟨b, rfl⟩ : ∃ b : Bool, cs = [.bool b] := by
  cases fuel with
  | zero => simp [DataW.trod] at h
  | succ n =>
   unfold DataW.trod at h
   rw [ht] at h
   split at h <;> simp_all
 exact ⟨b, rfl, trivial⟩
theorem weights_all {H : Type} {e : TypeId} : ∀ {ds : List (DataW H)} {d : DataW H}, d ∈ ds → ∀ n ∈ d.weights P e, n ∈ DataW.weightsAll P e ds
 | d0 :: ds, d, hd, n, hn => by
  simp only [DataW.weightsAll, List.mem_append]
  rcases List.mem_cons.mp hd with rfl | h
  ·exact .inl hn
  ·exact .inr (weights_all h n hn)
theorem choose_list {α : Type} {p : Nat → α → Prop} : ∀ {n : Nat}, (∀ i, i < n → ∃ y, p i y) → ∃ ys : List α, ys.length = n ∧ ∀ i y, ys[i]? = some y → p i y
 | 0, _ => ⟨[], rfl, fun i y h => by simp at h⟩
 | n + 1, h => by
  obtain ⟨ys, hl, hy⟩ := choose_list (n := n) (fun i hi => h i (by omega))
  obtain ⟨y, hp⟩ := h n (by omega)
  refine ⟨ys ++ [y], by simp [hl], fun i z hz => ?_⟩
  by_cases hi : i < n
  ·rw [List.getElem?_append_left (by omega)] at hz
   exact hy i z hz
  ·have := (List.getElem?_eq_some_iff.mp hz).1
   simp at this
   have e : i = n := by omega
   subst e
   rw [List.getElem?_append_right (by omega)] at hz
   simp [hl] at hz
   subst hz
   exact hp
theorem opens_slice {α : Type} {t e : TypeId} {K : Kd α} {Q : α → Prop} (he : Opens P e K Q) (ht : P.underlying t = some (.slice e)) (hc : P.cellsOf e = K.sz) (bytes : Nat) (hb : P.bytesOf e = bytes) :
  Opens P t (Kd.slice e K) (fun l => l.length * bytes ≤ 140737488351232 ∧ ∀ x ∈ l, Q x) := by
 constructor
 intro H enc W base sp held fuel cs x hw h
 rcases Deep.open_slice ht h with ⟨rfl, rfl⟩ | ⟨a, len, cap, m, n, D, Pl, rfl, _, hl, hm, hmm, rfl, hel⟩
 ·exact ⟨[], ⟨none, 0, rfl, Nat.le_refl _, Kd.C_nil K W⟩, by simp, by simp⟩
 ·have hlm : len ≤ m := by rw [hmm]; split <;> omega
  have hw' : ∀ i, i < len → ∀ k ∈ (D i).weights P e, k ≤ reachBytes := fun i hi k hk => hw k (by
   simp only [DataW.weights, ht, List.mem_cons, List.mem_append]
   exact .inr (.inl (weights_all (List.mem_map.mpr ⟨i, by simpa using hi, rfl⟩) k hk)))
  obtain ⟨ys, hys, hY⟩ := choose_list (n := len) (p := fun i y => (∃ c, c.length = K.sz ∧ K.K W y c ∧ ∀ j u, c[j]? = some u → W.cell? (a.add (i * K.sz + j)) = some u) ∧ Q y) (fun i hi => by
   obtain ⟨c, h1, h2⟩ := hel i (by omega)
   obtain ⟨y, hy, hq⟩ := he.out (hw' i hi) h2
   obtain ⟨_, h3, h4⟩ := World.cells?_some h1
   rw [hc] at h3 h4
   refine ⟨y, ⟨c, h3, hy, fun j u hu => ?_⟩, hq⟩
   have hj : j < K.sz := by
    have := (List.getElem?_eq_some_iff.mp hu).1
    omega
   have h5 := h4 j hj
   rw [Addr.add_add] at h5
   rw [h5, hu])
  have hlen : len ≤ maxLen := by omega
  refine ⟨ys, ⟨some a, cap, by rw [hys], by omega, rfl, by rw [hys]; unfold maxLen at hlen; omega, fun _ => ⟨a, rfl, fun j p hj => (hY j p hj).1⟩⟩, ?_, ?_⟩
  ·have := hw ((((List.range len).map D).length + ((List.range (m - len)).map fun j => D (len + j)).length) * P.bytesOf e) (by simp [DataW.weights, ht])
   rw [hb] at this
   simp only [List.length_map, List.length_range] at this
   have h2 : len * bytes ≤ (len + (m - len)) * bytes := Nat.mul_le_mul_right _ (by omega)
   rw [hys]
   unfold reachBytes at this
   omega
  ·intro x hx
   obtain ⟨i, hi, rfl⟩ := List.mem_iff_getElem.mp hx
   exact (hY i _ (List.getElem?_eq_getElem hi)).2
/-- The fields from one on. -/
structure OpensF {α : Type} (P : Program) (fs : List Field) (off : Nat) (K : Kd α) (Q : α → Prop) : Prop where
 out : ∀ {H : Type} {enc : TypeId × Value → H} {W : World} {base : Nat} {sp : Nat → Bool} {held : Bool} {fuel : Nat} {cs : List Value} {xs : List (DataW H × List MemPlace)},
  cs.length = off + K.sz → (∀ n ∈ DataW.weightsEach P (fs.map (·.type)) (xs.map (·.1)), n ≤ reachBytes) → (fs.mapM fun f => DataW.trod enc P W base sp held fuel f.type ((cs.drop f.offset).take (P.cellsOf f.type))) = some xs → ∃ y, K.K W y (cs.drop off) ∧ Q y
theorem opensF_last {α : Type} {f : Field} {off t : Nat} {K : Kd α} {Q : α → Prop} (h : Opens P t K Q) (h0 : f.type = t) (hc : P.cellsOf t = K.sz) (ho : f.offset = off) : OpensF P [f] off K Q := by
 constructor
 intro H enc W base sp held fuel cs xs hl hw hm
 subst h0
 simp only [List.mapM_cons, List.mapM_nil, Option.pure_def, Option.bind_eq_bind, Option.bind_some] at hm
 obtain ⟨x, hx, hm⟩ := Option.bind_eq_some_iff.mp hm
 obtain rfl := Option.some.inj hm
 rw [hc, ho, List.take_of_length_le (by rw [List.length_drop]; omega)] at hx
 exact h.out (fun n hn => hw n (by simp [DataW.weightsEach, hn])) hx
theorem opensF_cons {α β : Type} {f : Field} {fs : List Field} {off t : Nat} {K : Kd α} {K1 : Kd β} {Q : α → Prop} {Q1 : β → Prop} (h : Opens P t K Q) (h0 : f.type = t) (hc : P.cellsOf t = K.sz) (ho : f.offset = off) (h1 : OpensF P fs (off + K.sz) K1 Q1) :
  OpensF P (f :: fs) off (Kd.pair K K1) (fun p => Q p.1 ∧ Q1 p.2) := by
 constructor
 intro H enc W base sp held fuel cs xs hl hw hm
 subst h0
 have hl : cs.length = off + (K.sz + K1.sz) := hl
 rw [List.mapM_cons] at hm
 simp only [Option.pure_def, Option.bind_eq_bind] at hm
 obtain ⟨x, hx, hm⟩ := Option.bind_eq_some_iff.mp hm
 obtain ⟨xs', hxs, hm⟩ := Option.bind_eq_some_iff.mp hm
 obtain rfl := Option.some.inj hm
 rw [hc, ho] at hx
 obtain ⟨y, hy, hq⟩ := h.out (fun n hn => hw n (by simp only [List.map_cons, DataW.weightsEach, List.mem_append]; exact .inl hn)) hx
 obtain ⟨z, hz, hq1⟩ := h1.out (by omega) (fun n hn => hw n (by simp only [List.map_cons, DataW.weightsEach, List.mem_append]; exact .inr hn)) hxs
 refine ⟨(y, z), ⟨(cs.drop off).take K.sz, cs.drop (off + K.sz), ?_, hy, hz⟩, hq, hq1⟩
 rw [← List.drop_drop, List.take_append_drop]
theorem opens_struct {α β : Type} {t : TypeId} {fs : Array Field} {K : Kd α} {Q : α → Prop} (ht : P.underlying t = some (.struct fs)) (h : OpensF P fs.toList 0 K Q) (hc : P.cellsOf t = K.sz) (g : β → α) (g' : α → β) (hg : ∀ y, g (g' y) = y) : Opens P t (Kd.iso K g) (fun x => Q (g x)) := by
 constructor
 intro H enc W base sp held fuel cs x hw hm
 cases fuel with
 | zero => simp [DataW.trod] at hm
 | succ n =>
  unfold DataW.trod at hm
  rw [ht] at hm
  simp only at hm
  split at hm
  ·rename_i hl
   obtain ⟨xs, hxs, rfl⟩ := Option.map_eq_some_iff.mp hm
   obtain ⟨y, hy, hq⟩ := h.out (cs := cs) (xs := xs) (by rw [hl, hc]; omega) (fun n hn => hw n (by simp only [DataW.weights, ht]; exact hn)) hxs
   exact ⟨g' y, by show K.K W (g (g' y)) cs; rw [hg]; simpa using hy, by show Q (g (g' y)); rw [hg]; exact hq⟩
  ·cases hm
theorem opens_struct' {α β : Type} {t : TypeId} {fs : Array Field} {K : Kd α} {Q : α → Prop} {k : Kd β} {WF : β → Prop} (g' : α → β) (g : β → α) (ht : P.underlying t = some (.struct fs)) (h : OpensF P fs.toList 0 K Q) (hc : P.cellsOf t = K.sz) (hk : k = Kd.iso K g) (hg : ∀ y, g (g' y) = y) (hQ : ∀ x, Q (g x) → WF x) : Opens P t k WF := by
 subst hk
 constructor
 intro H enc W base sp held fuel cs x hw hm
 obtain ⟨y, h1, h2⟩ := (opens_struct ht h hc g g' hg).out hw hm
 exact ⟨y, h1, hQ y h2⟩
end
/-- What came in, as a row that is shared. -/
theorem came_V {α : Type} {d : Kd α} {e : Nat} {w : World} {A : Option Addr} {c : Nat} {xs : List α} (hd : Kd.Heap d) (h : d.C w A xs.length xs) (hc : xs.length ≤ c) : Kd.V d e w w.heap.size (fun k_ => k_ < w.heap.size) (.slice A xs.length c) xs :=
 Kd.V_mk hc (fun W' hW => hd.C (fun k hk => hW k hk hk) h)
end Go.Proofs.Ythpglaekdadehaa.Q

namespace Go.Proofs.Ythpglaekdadehaa.Q
open Go.RowKit Go.Proofs.YthpglaekdadehaaW.PrintWords Go.Proofs.YthpglaekdadehaaW.PrintLast Go.Proofs.YthpglaekdadehaaW.PrintMore
set_option linter.unusedVariables false
set_option linter.unusedSimpArgs false

def WF48 (x : S48) : Prop := ((fun s : ByteArray => s.size ≤ 140737488351232) x.f0) ∧ ((fun s : ByteArray => s.size ≤ 140737488351232) x.f1)
theorem opens48 : Opens Try.prog 48 k48 WF48 :=
 opens_struct' (fun p : (ByteArray) × (ByteArray) => (⟨p.1, p.2⟩ : S48)) (fun x : S48 => (x.f0, x.f1)) Try.underlying48 (opensF_cons (opens_string Try.underlying9) rfl (by kernel_rfl) rfl (opensF_last (opens_string Try.underlying9) rfl (by kernel_rfl) rfl)) (by kernel_rfl) rfl (fun _ => rfl) (fun _ h => h)
def WF43 (x : S43) : Prop := ((fun s : ByteArray => s.size ≤ 140737488351232) x.f0) ∧ ((fun l : List (S48) => l.length * 32 ≤ 140737488351232 ∧ ∀ x ∈ l, WF48 x) x.f1)
theorem opens43 : Opens Try.prog 43 k43 WF43 :=
 opens_struct' (fun p : (ByteArray) × (List (S48)) => (⟨p.1, p.2⟩ : S43)) (fun x : S43 => (x.f0, x.f1)) Try.underlying43 (opensF_cons (opens_string Try.underlying9) rfl (by kernel_rfl) rfl (opensF_last (opens_slice opens48 Try.underlying41 (by kernel_rfl) 32 (by kernel_rfl)) rfl (by kernel_rfl) rfl)) (by kernel_rfl) rfl (fun _ => rfl) (fun _ h => h)
theorem k48_heapQ : Kd.Heap k48 := Kd.heap_iso _ (Kd.heap_pair Kd.heap_string Kd.heap_string)
theorem k43_heapQ : Kd.Heap k43 := Kd.heap_iso _ (Kd.heap_pair Kd.heap_string (Kd.heap_slice 48 k48_heapQ))
end Go.Proofs.Ythpglaekdadehaa.Q

namespace Go.Proofs.Ythpglaekdadehaa.Q
open Go.RowKit Go.Proofs.YthpglaekdadehaaW.PrintWords Go.Proofs.YthpglaekdadehaaW.PrintLast Go.Proofs.YthpglaekdadehaaW.PrintMore
set_option linter.unusedVariables false
set_option linter.unusedSimpArgs false
def KindExact.Pure : Prop := ∀ (l0 : List (S43)) (a1 : ByteArray) (a2 : ByteArray), (fun l : List (S43) => l.length * 40 ≤ 140737488351232 ∧ ∀ x ∈ l, WF43 x) l0 → (fun s : ByteArray => s.size ≤ 140737488351232) a1 → (fun s : ByteArray => s.size ≤ 140737488351232) a2 → ∃ k, truantlaw03_KindExact.f k l0 a1 a2 = some true
end Go.Proofs.Ythpglaekdadehaa.Q

/- Small words on 'from some number of rounds on'. -/

namespace Go.Proofs.Ythpglaekdadehaa.Q
open Go.RowKit Go.Proofs.YthpglaekdadehaaW.PrintWords Go.Proofs.YthpglaekdadehaaW.PrintLast Go.Proofs.YthpglaekdadehaaW.PrintMore
set_option linter.unusedVariables false
set_option linter.unusedSimpArgs false
section
variable {α : Type}
theorem Ev.pos {c : Prop} [Decidable c] {A B : Nat → Option α} {r : α} (h : c) (k : Ev A r) : Ev (fun n => if c then A n else B n) r := Ev.congr (fun n => if_pos h) k
theorem Ev.neg {c : Prop} [Decidable c] {A B : Nat → Option α} {r : α} (h : ¬ c) (k : Ev B r) : Ev (fun n => if c then A n else B n) r := Ev.congr (fun n => if_neg h) k
theorem Ev.one {β : Type} {a : Option β} {b : β} {f : Nat → β → Option α} {r : α} (h : a = some b) (k : Ev (fun n => f n b) r) : Ev (fun n => a.bind (f n)) r := Ev.congr (fun n => by rw [h]; rfl) k
theorem Ev.eq {g : Nat → Option α} {r r' : α} (k : Ev g r) (h : r = r') : Ev g r' := h ▸ k
theorem Ev.det {g : Nat → Option α} {r r' : α} (k : Ev g r) (h : Ev g r') : r = r' := by
 obtain ⟨K, k⟩ := k
 obtain ⟨K', h⟩ := h
 have h1 := k (max K K') (by omega)
 have h2 := h (max K K') (by omega)
 rw [h1] at h2
 exact Option.some.inj h2
theorem Ev.at_ {g : Nat → Option α} {r r' : α} {k : Nat} (hg : ∀ k, LeO (g k) (g (k + 1))) (h : g k = some r) (h' : Ev g r') : r = r' := Ev.det (Ev.of hg h) h'
theorem getD_succ {β : Type} (l : List β) (z : β) (x : β) (i : Nat) : (x :: l).getD (i + 1) z = l.getD i z := rfl
end
end Go.Proofs.Ythpglaekdadehaa.Q

namespace Go.Proofs.Ythpglaekdadehaa.Q
open Go.RowKit Go.Proofs.YthpglaekdadehaaW.PrintWords Go.Proofs.YthpglaekdadehaaW.PrintLast Go.Proofs.YthpglaekdadehaaW.PrintMore
attribute [local go_sem] max2_int min2_int max_two min_two max_three min_three max_four min_four   -- for this text's walks alone
set_option linter.unusedVariables false
set_option linter.unusedSimpArgs false

attribute [local go_sem high] eqA48
/-! ### truantref03_Same: function 23 -/
mutual
def truantref03_Same.l0 : Nat → List (S43) → List (S43) → Int → Option (Bool)
 | 0, _, _, _ => none
 | k + 1, x0, x1, x5 => if x5 < (x0.length : Int) then (if 0 ≤ x5 then (if x5 < (x1.length : Int) then (if ((rd_T43 x0 x5).f0).toList = ((rd_T43 x1 x5).f0).toList then (truantref03_Same.j1 k x0 x1 x5 ((((rd_T43 x0 x5).f1).length : Int) != (((rd_T43 x1 x5).f1).length : Int))) else (truantref03_Same.j1 k x0 x1 x5 true)) else (none)) else (none)) else (some true)
def truantref03_Same.j1 : Nat → List (S43) → List (S43) → Int → Bool → Option (Bool)
 | 0, _, _, _, _ => none
 | k + 1, x0, x1, x5, x43 => if x43 = true then (some false) else (truantref03_Same.l1 k x0 x1 x5 0)
def truantref03_Same.l1 : Nat → List (S43) → List (S43) → Int → Int → Option (Bool)
 | 0, _, _, _, _ => none
 | k + 1, x0, x1, x5, x6 => if 0 ≤ x5 then (if x5 < (x0.length : Int) then (if x6 < (((rd_T43 x0 x5).f1).length : Int) then (if 0 ≤ x6 then (if x5 < (x1.length : Int) then (if x6 < (((rd_T43 x1 x5).f1).length : Int) then (if (!((((rd_T48 ((rd_T43 x0 x5).f1) x6).f0).toList) == (((rd_T48 ((rd_T43 x1 x5).f1) x6).f0).toList)) || (!((((rd_T48 ((rd_T43 x0 x5).f1) x6).f1).toList) == (((rd_T48 ((rd_T43 x1 x5).f1) x6).f1).toList)))) = true then (some false) else (truantref03_Same.l1 k x0 x1 x5 (wrap64 (x6 + 1)))) else (none)) else (none)) else (none)) else (truantref03_Same.l0 k x0 x1 (wrap64 (x5 + 1)))) else (none)) else (none)
end
def truantref03_Same.f (k : Nat) (l0 : List (S43)) (l1 : List (S43)) : Option (Bool) := if (l0.length : Int) = (l1.length : Int) then (truantref03_Same.l0 k l0 l1 0) else (some false)
theorem truantref03_Same.mono_l : ∀ k, (∀ y0 y1 y2, LeO (truantref03_Same.l0 k y0 y1 y2) (truantref03_Same.l0 (k + 1) y0 y1 y2)) ∧ (∀ y0 y1 y2 y3, LeO (truantref03_Same.j1 k y0 y1 y2 y3) (truantref03_Same.j1 (k + 1) y0 y1 y2 y3)) ∧ (∀ y0 y1 y2 y3, LeO (truantref03_Same.l1 k y0 y1 y2 y3) (truantref03_Same.l1 (k + 1) y0 y1 y2 y3))
 | 0 => ⟨fun _ _ _ r h => by simp [truantref03_Same.l0] at h, fun _ _ _ _ r h => by simp [truantref03_Same.j1] at h, fun _ _ _ _ r h => by simp [truantref03_Same.l1] at h⟩
 | k + 1 => by
  obtain ⟨ih0, ih1, ih2⟩ := truantref03_Same.mono_l k
  refine ⟨?_, ?_, ?_⟩
  ·intro y0 y1 y2
   unfold truantref03_Same.l0
   repeat' first
   | (with_reducible exact ih0 _ _ _)
   | (with_reducible exact ih1 _ _ _ _)
   | (with_reducible exact ih2 _ _ _ _)
   | (with_reducible exact LeO.refl _)
   | (with_reducible exact LeO.none _)
   | (with_reducible refine LeO.ite ?_ ?_)
   | (with_reducible refine LeO.bind ?_ (fun _ => ?_))
   | exact ih0 _ _ _
   | exact ih1 _ _ _ _
   | exact ih2 _ _ _ _
   | exact LeO.none _
   | refine LeO.ite ?_ ?_
   | refine LeO.bind ?_ (fun _ => ?_)
  ·intro y0 y1 y2 y3
   unfold truantref03_Same.j1
   repeat' first
   | (with_reducible exact ih0 _ _ _)
   | (with_reducible exact ih1 _ _ _ _)
   | (with_reducible exact ih2 _ _ _ _)
   | (with_reducible exact LeO.refl _)
   | (with_reducible exact LeO.none _)
   | (with_reducible refine LeO.ite ?_ ?_)
   | (with_reducible refine LeO.bind ?_ (fun _ => ?_))
   | exact ih0 _ _ _
   | exact ih1 _ _ _ _
   | exact ih2 _ _ _ _
   | exact LeO.none _
   | refine LeO.ite ?_ ?_
   | refine LeO.bind ?_ (fun _ => ?_)
  ·intro y0 y1 y2 y3
   unfold truantref03_Same.l1
   repeat' first
   | (with_reducible exact ih0 _ _ _)
   | (with_reducible exact ih1 _ _ _ _)
   | (with_reducible exact ih2 _ _ _ _)
   | (with_reducible exact LeO.refl _)
   | (with_reducible exact LeO.none _)
   | (with_reducible refine LeO.ite ?_ ?_)
   | (with_reducible refine LeO.bind ?_ (fun _ => ?_))
   | exact ih0 _ _ _
   | exact ih1 _ _ _ _
   | exact ih2 _ _ _ _
   | exact LeO.none _
   | refine LeO.ite ?_ ?_
   | refine LeO.bind ?_ (fun _ => ?_)
theorem truantref03_Same.mono : ∀ a0 a1 k, LeO (truantref03_Same.f k a0 a1) (truantref03_Same.f (k + 1) a0 a1) := by
 intro a0 a1 k
 obtain ⟨ih0, ih1, ih2⟩ := truantref03_Same.mono_l k
 unfold truantref03_Same.f
 repeat' first
   | (with_reducible exact ih0 _ _ _)
   | (with_reducible exact ih1 _ _ _ _)
   | (with_reducible exact ih2 _ _ _ _)
   | (with_reducible exact LeO.refl _)
   | (with_reducible exact LeO.none _)
   | (with_reducible refine LeO.ite ?_ ?_)
   | (with_reducible refine LeO.bind ?_ (fun _ => ?_))
   | exact ih0 _ _ _
   | exact ih1 _ _ _ _
   | exact ih2 _ _ _ _
   | exact LeO.none _
   | refine LeO.ite ?_ ?_
   | refine LeO.bind ?_ (fun _ => ?_)
set_option maxHeartbeats 8000000 in
set_option maxRecDepth 100000 in
theorem truantref03_Same.calls (k : Nat) (A0 : Option Addr) (c0 : Nat) (l0 : List (S43)) (A1 : Option Addr) (c1 : Nat) (l1 : List (S43)) (r : Bool) (w : World) (hr0 : Kd.C k43 w A0 l0.length l0) (hc0 : l0.length ≤ c0) (hr1 : Kd.C k43 w A1 l1.length l1) (hc1 : l1.length ≤ c1) (h : truantref03_Same.f k l0 l1 = some r) :
  Calls Try.prog 23 #[.slice A0 l0.length c0, .slice A1 l1.length c1] w fun e w' => e = .returned (.bool r) ∧ Drawn0 w w' := by
 have hu48 := Try.underlying48
 have HR0 := Aside0.mk hr0
 have HC0 := Aside0.mk hc0
 clear hr0 hc0
 have HR1 := Aside0.mk hr1
 have HC1 := Aside0.mk hc1
 clear hr1 hc1
 have H : (if (l0.length : Int) = (l1.length : Int) then (truantref03_Same.l0 k l0 l1 0) else (some false)) = some r := h
 clear h
 by_cases c3 : (l0.length : Int) = (l1.length : Int)
 ·rw [if_pos c3] at H
  have c3b0 : ((l0.length : Int) == (l1.length : Int)) = true := beq_iff_eq.mpr c3
  have c3b1 : ((l0.length : Int) != (l1.length : Int)) = false := bne_eq_false_iff_eq.mpr c3
  have c3b2 : (l0.length == l1.length) = true := by first | simpa using c3 | (simp at c3 ⊢; omega)
  clear c3
  have H' := Aside0.mk H
  clear H
  go_enter Try.func23, Try.ntmps23
  go_wp2
  repeat (go_quiet (fail); try go_wp2)
  go_loopg [5] k (fun kq v5 w' => ∃ (x5_1 : Int), v5 = .int .i64 x5_1 ∧ Aside0 (truantref03_Same.l0 kq l0 l1 x5_1 = some r) ∧ Aside0 (kq ≤ k) ∧ Drawn0 w w')
  case atStart => exact ⟨(0), (by first | rfl | (simp; done) | (simp [*]; done)), H', ⟨Nat.le_refl _⟩, by repeat (first | exact Drawn0.refl _ | apply Drawn0.step)⟩
  case round =>
   clear H'
   try clear c1
   try clear c2
   try clear p2
   try clear c3
   try clear c3b0
   try clear c3b1
   try clear c3b2
   obtain ⟨x5_1, rfl, HA, HK1, ⟨m1, rfl⟩⟩ := hrel
   cases gk with
   | zero => exact absurd HA.out (by simp [truantref03_Same.l0])
   | succ k1 =>
    have H := HA.out
    clear HA
    simp only [truantref03_Same.l0] at H
    by_cases c4 : x5_1 < (l0.length : Int)
    ·rw [if_pos c4] at H
     have c4b0 : decide (x5_1 < (l0.length : Int)) = true := decide_eq_true c4
     clear c4
     have HC5 := Aside0.mk H
     clear H
     go_upto_region 6 with (fail)
     repeat (go_quiet (fail); go_upto_region 6 with (fail))
     go_cut [43] (fun v43 wc => ∃ (kq : Nat) (x43_4 : Bool), v43 = .bool x43_4 ∧ Aside0 (truantref03_Same.j1 kq l0 l1 x5_1 x43_4 = some r) ∧ Aside0 (kq ≤ k1) ∧ Drawn0 w wc)
     case first =>
      have H := HC5.out
      clear HC5
      by_cases c6 : 0 ≤ x5_1
      ·rw [if_pos c6] at H
       have c6b0 : decide (0 ≤ x5_1) = true := decide_eq_true c6
       clear c6
       (first | rw [c6b0] | (simp only [i64_w, i32_w]; rw [c6b0]) | skip)
       by_cases c7 : x5_1 < (l1.length : Int)
       ·rw [if_pos c7] at H
        have c7b0 : decide (x5_1 < (l1.length : Int)) = true := decide_eq_true c7
        clear c7
        by_cases c8 : ((rd_T43 l0 x5_1).f0).toList = ((rd_T43 l1 x5_1).f0).toList
        ·rw [if_pos c8] at H
         have c8b0 : (((rd_T43 l0 x5_1).f0).toList == ((rd_T43 l1 x5_1).f0).toList) = true := beq_iff_eq.mpr c8
         have c8b1 : (((rd_T43 l0 x5_1).f0).toList != ((rd_T43 l1 x5_1).f0).toList) = false := bne_eq_false_iff_eq.mpr c8
         clear c8
         have H' := Aside0.mk H
         clear H
         have p268 : 0 ≤ (x5_1 : Int) := of_decide_eq_true (by first | (with_reducible assumption) | assumption)
         have q268 : x5_1 < (l0.length : Int) := of_decide_eq_true (by first | (with_reducible assumption) | assumption)
         obtain ⟨ad268, A268_1, c268_1, e268, hx268_0, hx268_1, hl268_1, hi268_1⟩ := at_T43 HR0.out x5_1 p268 q268
         cases e268
         have HR268_1 := Aside0.mk hi268_1
         have HC268_1 := Aside0.mk hl268_1
         clear hi268_1 hl268_1
         replace p268 := eq_true p268
         replace q268 := eq_true q268
         have p269 : 0 ≤ (x5_1 : Int) := of_decide_eq_true (by first | (with_reducible assumption) | assumption)
         have q269 : x5_1 < (l1.length : Int) := of_decide_eq_true (by first | (with_reducible assumption) | assumption)
         obtain ⟨ad269, A269_1, c269_1, e269, hx269_0, hx269_1, hl269_1, hi269_1⟩ := at_T43 HR1.out x5_1 p269 q269
         cases e269
         have HR269_1 := Aside0.mk hi269_1
         have HC269_1 := Aside0.mk hl269_1
         clear hi269_1 hl269_1
         replace p269 := eq_true p269
         replace q269 := eq_true q269
         have p270 : 0 ≤ (x5_1 : Int) := of_decide_eq_true (by first | (with_reducible assumption) | assumption)
         have q270 : x5_1 < (l0.length : Int) := of_decide_eq_true (by first | (with_reducible assumption) | assumption)
         obtain ⟨ad270, A270_1, c270_1, e270, hx270_0, hx270_1, hl270_1, hi270_1⟩ := at_T43 HR0.out x5_1 p270 q270
         obtain rfl : ad268 = ad270 := (by injection e270)
         have HR270_1 := Aside0.mk hi270_1
         have HC270_1 := Aside0.mk hl270_1
         clear hi270_1 hl270_1
         replace p270 := eq_true p270
         replace q270 := eq_true q270
         have ea_ := Option.some.inj (hx268_1.symm.trans hx270_1)
         injection ea_ with ea_ en_ ec_
         subst ea_
         subst ec_
         clear en_
         have p271 : 0 ≤ (x5_1 : Int) := of_decide_eq_true (by first | (with_reducible assumption) | assumption)
         have q271 : x5_1 < (l1.length : Int) := of_decide_eq_true (by first | (with_reducible assumption) | assumption)
         obtain ⟨ad271, A271_1, c271_1, e271, hx271_0, hx271_1, hl271_1, hi271_1⟩ := at_T43 HR1.out x5_1 p271 q271
         obtain rfl : ad269 = ad271 := (by injection e271)
         have HR271_1 := Aside0.mk hi271_1
         have HC271_1 := Aside0.mk hl271_1
         clear hi271_1 hl271_1
         replace p271 := eq_true p271
         replace q271 := eq_true q271
         have ea_ := Option.some.inj (hx269_1.symm.trans hx271_1)
         injection ea_ with ea_ en_ ec_
         subst ea_
         subst ec_
         clear en_
         go_wp2
         repeat (go_quiet (fail); try go_wp2)
         go_meet
         case rel => exact ⟨_, (((((rd_T43 l0 x5_1).f1).length : Int) != (((rd_T43 l1 x5_1).f1).length : Int))), (by first | rfl | (simp; done) | (simp [*]; done)), H', ⟨by have := HK1.out; first | omega | exact Nat.le_refl _⟩, by repeat (first | exact Drawn0.refl _ | apply Drawn0.step)⟩
        ·rw [if_neg c8] at H
         have c8b0 : (((rd_T43 l0 x5_1).f0).toList == ((rd_T43 l1 x5_1).f0).toList) = false := beq_eq_false_iff_ne.mpr c8
         have c8b1 : (((rd_T43 l0 x5_1).f0).toList != ((rd_T43 l1 x5_1).f0).toList) = true := bne_iff_ne.mpr c8
         have H' := Aside0.mk H
         clear H
         have p268 : 0 ≤ (x5_1 : Int) := of_decide_eq_true (by first | (with_reducible assumption) | assumption)
         have q268 : x5_1 < (l0.length : Int) := of_decide_eq_true (by first | (with_reducible assumption) | assumption)
         obtain ⟨ad268, A268_1, c268_1, e268, hx268_0, hx268_1, hl268_1, hi268_1⟩ := at_T43 HR0.out x5_1 p268 q268
         cases e268
         have HR268_1 := Aside0.mk hi268_1
         have HC268_1 := Aside0.mk hl268_1
         clear hi268_1 hl268_1
         replace p268 := eq_true p268
         replace q268 := eq_true q268
         have p269 : 0 ≤ (x5_1 : Int) := of_decide_eq_true (by first | (with_reducible assumption) | assumption)
         have q269 : x5_1 < (l1.length : Int) := of_decide_eq_true (by first | (with_reducible assumption) | assumption)
         obtain ⟨ad269, A269_1, c269_1, e269, hx269_0, hx269_1, hl269_1, hi269_1⟩ := at_T43 HR1.out x5_1 p269 q269
         cases e269
         have HR269_1 := Aside0.mk hi269_1
         have HC269_1 := Aside0.mk hl269_1
         clear hi269_1 hl269_1
         replace p269 := eq_true p269
         replace q269 := eq_true q269
         go_wp2
         repeat (go_quiet (fail); try go_wp2)
         go_meet
         case rel => exact ⟨_, (true), (by first | rfl | (simp; done) | (simp [*]; done)), H', ⟨by have := HK1.out; first | omega | exact Nat.le_refl _⟩, by repeat (first | exact Drawn0.refl _ | apply Drawn0.step)⟩
       ·rw [if_neg c7] at H
        exact absurd H (by simp)
      ·rw [if_neg c6] at H
       exact absurd H (by simp)
     case rest =>
      clear HC5
      try clear c1
      try clear c2
      try clear p2
      try clear q2
      try clear hx2
      try clear c3
      try clear c3b0
      try clear c3b1
      try clear c3b2
      try clear c4
      try clear c4b0
      try clear c6
      try clear c6b0
      try clear c7
      try clear c7b0
      try clear c8
      try clear c8b0
      try clear c8b1
      try clear hx268_0
      try clear hx268_1
      try clear hx269_0
      try clear hx269_1
      try clear hx270_0
      try clear hx270_1
      try clear hx271_0
      try clear hx271_1
      try clear p2
      try clear p268
      try clear p269
      try clear p270
      try clear p271
      try clear q268
      try clear q269
      try clear q270
      try clear q271
      obtain ⟨kq, x43_4, rfl, HA, HJ4, ⟨mc4, rfl⟩⟩ := hcut
      cases kq with
      | zero => exact absurd HA.out (by simp [truantref03_Same.j1])
      | succ kj4 =>
       have H := HA.out
       clear HA
       simp only [truantref03_Same.j1] at H
       by_cases c9 : x43_4 = true
       ·subst c9
        have H1 : (some false) = some r := by rw [if_pos rfl] at H; exact H
        clear H
        have H := H1
        clear H1
        obtain rfl := Option.some.inj H
        go_wp2
        repeat (go_quiet (fail); try go_wp2)
        go_ret
        exact ⟨by first | rfl | (simp; done) | (simp [*]; done), by repeat (first | exact Drawn0.refl _ | apply Drawn0.step)⟩
       ·replace c9 := Bool.eq_false_iff.mpr c9
        subst c9
        have H1 : (truantref03_Same.l1 kj4 l0 l1 x5_1 0) = some r := by rw [if_neg (show ¬ (false = true) by decide)] at H; exact H
        clear H
        have H := H1
        clear H1
        have H' := Aside0.mk H
        clear H
        go_wp2
        repeat (go_quiet (fail); try go_wp2)
        go_loopg [6] kj4 (fun kq v6 w' => ∃ (x6_3 : Int), v6 = .int .i64 x6_3 ∧ Aside0 (truantref03_Same.l1 kq l0 l1 x5_1 x6_3 = some r) ∧ Aside0 (kq ≤ kj4) ∧ Drawn0 w w')
        case atStart => exact ⟨(0), (by first | rfl | (simp; done) | (simp [*]; done)), H', ⟨Nat.le_refl _⟩, by repeat (first | exact Drawn0.refl _ | apply Drawn0.step)⟩
        case round =>
         clear H'
         try clear c1
         try clear c2
         try clear p2
         try clear q2
         try clear hx2
         try clear c3
         try clear c3b0
         try clear c3b1
         try clear c3b2
         try clear c4
         try clear c4b0
         try clear c6
         try clear c6b0
         try clear c7
         try clear c7b0
         try clear c8
         try clear c8b0
         try clear c8b1
         try clear c9
         try clear hx268_0
         try clear hx268_1
         try clear hx269_0
         try clear hx269_1
         try clear hx270_0
         try clear hx270_1
         try clear hx271_0
         try clear hx271_1
         try clear p2
         try clear p268
         try clear p269
         try clear p270
         try clear p271
         try clear q2
         try clear q268
         try clear q269
         try clear q270
         try clear q271
         obtain ⟨x6_3, rfl, HA, HK3, ⟨m3, rfl⟩⟩ := hrel
         cases gk with
         | zero => exact absurd HA.out (by simp [truantref03_Same.l1])
         | succ k3 =>
          have H := HA.out
          clear HA
          simp only [truantref03_Same.l1] at H
          by_cases c10 : 0 ≤ x5_1
          ·rw [if_pos c10] at H
           have c10b0 : decide (0 ≤ x5_1) = true := decide_eq_true c10
           clear c10
           by_cases c11 : x5_1 < (l0.length : Int)
           ·rw [if_pos c11] at H
            have c11b0 : decide (x5_1 < (l0.length : Int)) = true := decide_eq_true c11
            clear c11
            by_cases c12 : x6_3 < (((rd_T43 l0 x5_1).f1).length : Int)
            ·rw [if_pos c12] at H
             have c12b0 : decide (x6_3 < (((rd_T43 l0 x5_1).f1).length : Int)) = true := decide_eq_true c12
             clear c12
             by_cases c13 : 0 ≤ x6_3
             ·rw [if_pos c13] at H
              have c13b0 : decide (0 ≤ x6_3) = true := decide_eq_true c13
              clear c13
              by_cases c14 : x5_1 < (l1.length : Int)
              ·rw [if_pos c14] at H
               have c14b0 : decide (x5_1 < (l1.length : Int)) = true := decide_eq_true c14
               clear c14
               by_cases c15 : x6_3 < (((rd_T43 l1 x5_1).f1).length : Int)
               ·rw [if_pos c15] at H
                have c15b0 : decide (x6_3 < (((rd_T43 l1 x5_1).f1).length : Int)) = true := decide_eq_true c15
                clear c15
                by_cases c16 : (!((((rd_T48 ((rd_T43 l0 x5_1).f1) x6_3).f0).toList) == (((rd_T48 ((rd_T43 l1 x5_1).f1) x6_3).f0).toList)) || (!((((rd_T48 ((rd_T43 l0 x5_1).f1) x6_3).f1).toList) == (((rd_T48 ((rd_T43 l1 x5_1).f1) x6_3).f1).toList)))) = true
                ·rw [if_pos c16] at H
                 have c16b0 : (!((((rd_T48 ((rd_T43 l0 x5_1).f1) x6_3).f0).toList) == (((rd_T48 ((rd_T43 l1 x5_1).f1) x6_3).f0).toList)) || (!((((rd_T48 ((rd_T43 l0 x5_1).f1) x6_3).f1).toList) == (((rd_T48 ((rd_T43 l1 x5_1).f1) x6_3).f1).toList)))) = true := c16
                 clear c16
                 obtain rfl := Option.some.inj H
                 have p272 : 0 ≤ (x5_1 : Int) := of_decide_eq_true (by first | (with_reducible assumption) | assumption)
                 have q272 : x5_1 < (l0.length : Int) := of_decide_eq_true (by first | (with_reducible assumption) | assumption)
                 obtain ⟨ad272, A272_1, c272_1, e272, hx272_0, hx272_1, hl272_1, hi272_1⟩ := at_T43 HR0.out x5_1 p272 q272
                 cases e272
                 have HR272_1 := Aside0.mk hi272_1
                 have HC272_1 := Aside0.mk hl272_1
                 clear hi272_1 hl272_1
                 replace p272 := eq_true p272
                 replace q272 := eq_true q272
                 have p273 : 0 ≤ (x5_1 : Int) := of_decide_eq_true (by first | (with_reducible assumption) | assumption)
                 have q273 : x5_1 < (l0.length : Int) := of_decide_eq_true (by first | (with_reducible assumption) | assumption)
                 obtain ⟨ad273, A273_1, c273_1, e273, hx273_0, hx273_1, hl273_1, hi273_1⟩ := at_T43 HR0.out x5_1 p273 q273
                 obtain rfl : ad272 = ad273 := (by injection e273)
                 have HR273_1 := Aside0.mk hi273_1
                 have HC273_1 := Aside0.mk hl273_1
                 clear hi273_1 hl273_1
                 replace p273 := eq_true p273
                 replace q273 := eq_true q273
                 have ea_ := Option.some.inj (hx272_1.symm.trans hx273_1)
                 injection ea_ with ea_ en_ ec_
                 subst ea_
                 subst ec_
                 clear en_
                 have p274 : 0 ≤ (x6_3 : Int) := of_decide_eq_true (by first | (with_reducible assumption) | assumption)
                 have q274 : x6_3 < (((rd_T43 l0 x5_1).f1).length : Int) := of_decide_eq_true (by first | (with_reducible assumption) | assumption)
                 obtain ⟨ad274, e274, hx274_0, hx274_1⟩ := at_T48 HR273_1.out x6_3 p274 q274
                 cases e274
                 replace p274 := eq_true p274
                 replace q274 := eq_true q274
                 have p275 : 0 ≤ (x5_1 : Int) := of_decide_eq_true (by first | (with_reducible assumption) | assumption)
                 have q275 : x5_1 < (l1.length : Int) := of_decide_eq_true (by first | (with_reducible assumption) | assumption)
                 obtain ⟨ad275, A275_1, c275_1, e275, hx275_0, hx275_1, hl275_1, hi275_1⟩ := at_T43 HR1.out x5_1 p275 q275
                 cases e275
                 have HR275_1 := Aside0.mk hi275_1
                 have HC275_1 := Aside0.mk hl275_1
                 clear hi275_1 hl275_1
                 replace p275 := eq_true p275
                 replace q275 := eq_true q275
                 have p276 : 0 ≤ (x6_3 : Int) := of_decide_eq_true (by first | (with_reducible assumption) | assumption)
                 have q276 : x6_3 < (((rd_T43 l1 x5_1).f1).length : Int) := of_decide_eq_true (by first | (with_reducible assumption) | assumption)
                 obtain ⟨ad276, e276, hx276_0, hx276_1⟩ := at_T48 HR275_1.out x6_3 p276 q276
                 cases e276
                 replace p276 := eq_true p276
                 replace q276 := eq_true q276
                 go_wp2
                 repeat (go_quiet (fail); try go_wp2)
                 go_ret
                 exact ⟨by first | rfl | (simp; done) | (simp [*]; done), by repeat (first | exact Drawn0.refl _ | apply Drawn0.step)⟩
                ·rw [if_neg c16] at H
                 have c16b0 : (!((((rd_T48 ((rd_T43 l0 x5_1).f1) x6_3).f0).toList) == (((rd_T48 ((rd_T43 l1 x5_1).f1) x6_3).f0).toList)) || (!((((rd_T48 ((rd_T43 l0 x5_1).f1) x6_3).f1).toList) == (((rd_T48 ((rd_T43 l1 x5_1).f1) x6_3).f1).toList)))) = false := by simpa using c16
                 clear c16
                 have H' := Aside0.mk H
                 clear H
                 have p272 : 0 ≤ (x5_1 : Int) := of_decide_eq_true (by first | (with_reducible assumption) | assumption)
                 have q272 : x5_1 < (l0.length : Int) := of_decide_eq_true (by first | (with_reducible assumption) | assumption)
                 obtain ⟨ad272, A272_1, c272_1, e272, hx272_0, hx272_1, hl272_1, hi272_1⟩ := at_T43 HR0.out x5_1 p272 q272
                 cases e272
                 have HR272_1 := Aside0.mk hi272_1
                 have HC272_1 := Aside0.mk hl272_1
                 clear hi272_1 hl272_1
                 replace p272 := eq_true p272
                 replace q272 := eq_true q272
                 have p273 : 0 ≤ (x5_1 : Int) := of_decide_eq_true (by first | (with_reducible assumption) | assumption)
                 have q273 : x5_1 < (l0.length : Int) := of_decide_eq_true (by first | (with_reducible assumption) | assumption)
                 obtain ⟨ad273, A273_1, c273_1, e273, hx273_0, hx273_1, hl273_1, hi273_1⟩ := at_T43 HR0.out x5_1 p273 q273
                 obtain rfl : ad272 = ad273 := (by injection e273)
                 have HR273_1 := Aside0.mk hi273_1
                 have HC273_1 := Aside0.mk hl273_1
                 clear hi273_1 hl273_1
                 replace p273 := eq_true p273
                 replace q273 := eq_true q273
                 have ea_ := Option.some.inj (hx272_1.symm.trans hx273_1)
                 injection ea_ with ea_ en_ ec_
                 subst ea_
                 subst ec_
                 clear en_
                 have p274 : 0 ≤ (x6_3 : Int) := of_decide_eq_true (by first | (with_reducible assumption) | assumption)
                 have q274 : x6_3 < (((rd_T43 l0 x5_1).f1).length : Int) := of_decide_eq_true (by first | (with_reducible assumption) | assumption)
                 obtain ⟨ad274, e274, hx274_0, hx274_1⟩ := at_T48 HR273_1.out x6_3 p274 q274
                 cases e274
                 replace p274 := eq_true p274
                 replace q274 := eq_true q274
                 have p275 : 0 ≤ (x5_1 : Int) := of_decide_eq_true (by first | (with_reducible assumption) | assumption)
                 have q275 : x5_1 < (l1.length : Int) := of_decide_eq_true (by first | (with_reducible assumption) | assumption)
                 obtain ⟨ad275, A275_1, c275_1, e275, hx275_0, hx275_1, hl275_1, hi275_1⟩ := at_T43 HR1.out x5_1 p275 q275
                 cases e275
                 have HR275_1 := Aside0.mk hi275_1
                 have HC275_1 := Aside0.mk hl275_1
                 clear hi275_1 hl275_1
                 replace p275 := eq_true p275
                 replace q275 := eq_true q275
                 have p276 : 0 ≤ (x6_3 : Int) := of_decide_eq_true (by first | (with_reducible assumption) | assumption)
                 have q276 : x6_3 < (((rd_T43 l1 x5_1).f1).length : Int) := of_decide_eq_true (by first | (with_reducible assumption) | assumption)
                 obtain ⟨ad276, e276, hx276_0, hx276_1⟩ := at_T48 HR275_1.out x6_3 p276 q276
                 cases e276
                 replace p276 := eq_true p276
                 replace q276 := eq_true q276
                 go_wp2
                 repeat (go_quiet (fail); try go_wp2)
                 go_roundg k3
                 case measure => have := HK1.out; have := HJ4.out; have := HK3.out; omega
                 case rel => exact ⟨(wrap64 (x6_3 + 1)), (by first | rfl | (simp; done) | (simp [*]; done)), H', ⟨by have := HK1.out; have := HJ4.out; have := HK3.out; omega⟩, by repeat (first | exact Drawn0.refl _ | apply Drawn0.step)⟩
               ·rw [if_neg c15] at H
                exact absurd H (by simp)
              ·rw [if_neg c14] at H
               exact absurd H (by simp)
             ·rw [if_neg c13] at H
              exact absurd H (by simp)
            ·rw [if_neg c12] at H
             have c12b0 : decide (x6_3 < (((rd_T43 l0 x5_1).f1).length : Int)) = false := decide_eq_false c12
             clear c12
             have H' := Aside0.mk H
             clear H
             have p272 : 0 ≤ (x5_1 : Int) := of_decide_eq_true (by first | (with_reducible assumption) | assumption)
             have q272 : x5_1 < (l0.length : Int) := of_decide_eq_true (by first | (with_reducible assumption) | assumption)
             obtain ⟨ad272, A272_1, c272_1, e272, hx272_0, hx272_1, hl272_1, hi272_1⟩ := at_T43 HR0.out x5_1 p272 q272
             cases e272
             have HR272_1 := Aside0.mk hi272_1
             have HC272_1 := Aside0.mk hl272_1
             clear hi272_1 hl272_1
             replace p272 := eq_true p272
             replace q272 := eq_true q272
             go_wp2
             repeat (go_quiet (fail); try go_wp2)
             go_roundg k3
             case measure => have := HK1.out; have := HJ4.out; have := HK3.out; omega
             case rel => exact ⟨(wrap64 (x5_1 + 1)), (by first | rfl | (simp; done) | (simp [*]; done)), H', ⟨by have := HK1.out; have := HJ4.out; have := HK3.out; omega⟩, by repeat (first | exact Drawn0.refl _ | apply Drawn0.step)⟩
           ·rw [if_neg c11] at H
            exact absurd H (by simp)
          ·rw [if_neg c10] at H
           exact absurd H (by simp)
    ·rw [if_neg c4] at H
     have c4b0 : decide (x5_1 < (l0.length : Int)) = false := decide_eq_false c4
     clear c4
     obtain rfl := Option.some.inj H
     go_wp2
     repeat (go_quiet (fail); try go_wp2)
     go_ret
     exact ⟨by first | rfl | (simp; done) | (simp [*]; done), by repeat (first | exact Drawn0.refl _ | apply Drawn0.step)⟩
 ·rw [if_neg c3] at H
  have c3b0 : ((l0.length : Int) == (l1.length : Int)) = false := beq_eq_false_iff_ne.mpr c3
  have c3b1 : ((l0.length : Int) != (l1.length : Int)) = true := bne_iff_ne.mpr c3
  have c3b2 : (l0.length == l1.length) = false := by first | simpa using c3 | (simp at c3 ⊢; omega)
  obtain rfl := Option.some.inj H
  go_enter Try.func23, Try.ntmps23
  go_wp2
  repeat (go_quiet (fail); try go_wp2)
  go_ret
  exact ⟨by first | rfl | (simp; done) | (simp [*]; done), by repeat (first | exact Drawn0.refl _ | apply Drawn0.step)⟩

end Go.Proofs.Ythpglaekdadehaa.Q

/- The plain law of layer 3, kind: what the printed functions come to. -/
namespace Go.Proofs.Ythpglaekdadehaa.Q
open Go.RowKit Go.Proofs.YthpglaekdadehaaW.PrintWords Go.Proofs.YthpglaekdadehaaW.PrintLast Go.Proofs.YthpglaekdadehaaW.PrintMore
set_option linter.unusedVariables false
set_option linter.unusedSimpArgs false
/-! words -/
theorem index_ev (l : List ByteArray) (s : ByteArray) (hm : l.length ≤ 9223372036854775807) (d : Nat) : ∀ i : Nat, i ≤ l.length → l.length - i = d → (∀ j : Nat, j < i → keyIs s (l.getD j ByteArray.empty) = false) →
  Ev (fun k => slices_Index_string_string.l0 k l s (l.length : Int) (i : Int)) (findR (keyIs s) l) := by
 induction d with
 | zero =>
  intro i h0 hd h
  refine Ev.step (fun k => rfl) (Ev.neg (by omega) ?_)
  rw [find_none (z := ByteArray.empty) (fun j hj => h j (by omega))]
  exact Ev.now _
 | succ d ih =>
  intro i h0 hd h
  refine Ev.step (fun k => rfl) (Ev.pos (by omega) (Ev.pos (by omega) (Ev.pos (by omega) ?_)))
  by_cases e : keyIs s (l.getD i ByteArray.empty) = true
  ·have e2 : s.toList = (rdOf ByteArray.empty l (i : Int)).toList := (beq_iff_eq.mp e).symm
   refine Ev.pos e2 ?_
   rw [find_last (z := ByteArray.empty) (k := i) (by omega) h e]
   exact Ev.now _
  ·have e2 : ¬ s.toList = (rdOf ByteArray.empty l (i : Int)).toList := fun q => e (beq_iff_eq.mpr q.symm)
   refine Ev.neg e2 ?_
   rw [wrap_succ (by omega) (by omega)]
   exact ih (i + 1) (by omega) (by omega) (all_succ (P := fun j => keyIs s (l.getD j ByteArray.empty) = false) h (by simpa using e))
def keyB (s : ByteArray) : Bool := decide (0 ≤ findR (keyIs s) keyList)
theorem isKey_ev (s : ByteArray) : Ev (fun k => lex_IsKey.f k s) (keyB s) := by
 have h := index_ev keyList s (by decide) 16 0 (by decide) (by decide) (fun j hj => absurd hj (by omega))
 have h2 : Ev (fun k => slices_Contains_string_string.f k keyList s) (keyB s) := Ev.bind h (Ev.now _)
 exact Ev.one (a := lex_keys.f) (b := keyList) rfl (Ev.bind h2 (Ev.now _))
def wordB (s : ByteArray) : Bool := nameB s && (decide (s.size ≤ 12) && !keyB s)
theorem isWord_ev (s : ByteArray) (hs : s.size ≤ 9223372036854775807) : Ev (fun k => lex_IsWord.f k s) (wordB s) := by
 refine Ev.one (a := lex_isName.f s) (b := nameB s) (by unfold lex_isName.f; rw [if_pos hs]) ?_
 unfold wordB
 cases nameB s with
 | false => exact Ev.neg (by decide) (Ev.now _)
 | true =>
  refine Ev.pos rfl ?_
  by_cases h : s.size ≤ 12
  ·refine Ev.pos (by omega) (Ev.eq (Ev.bind (isKey_ev s) (Ev.now _)) (by simp [h]))
  ·refine Ev.neg (by omega) (Ev.eq (Ev.now _) (by simp [h]))
theorem rletter (a : Int) : truantref02_letter.f a = some (letB a) := letB_some a
theorem rdigit (a : Int) : truantref02_digit.f a = some (digB a) := digB_some a
theorem word_l (s : ByteArray) (hs : s.size ≤ 12) (d : Nat) : ∀ i : Nat, i ≤ s.size → s.size - i = d → (∀ j : Nat, j < i → lodB (bt s j) = true) →
  Ev (fun k => truantref02_Word.l0 k s (i : Int)) ((List.range s.size).all (fun i => lodB (bt s (i : Nat)))) := by
 induction d with
 | zero =>
  intro i h0 hd h
  refine Ev.step (fun k => rfl) (Ev.neg (by omega) (Ev.eq (Ev.now _) ?_))
  rw [run_all (k := i) h0 h (fun q => absurd q (by omega))]
  exact (beq_iff_eq.mpr (by omega)).symm
 | succ d ih =>
  intro i h0 hd h
  refine Ev.step (fun k => rfl) (Ev.pos (by omega) (Ev.pos (by omega) (Ev.one (rletter _) ?_)))
  have hno : lodB (bt s i) = false → Ev (fun k : Nat => (some false : Option Bool)) ((List.range s.size).all (fun i => lodB (bt s (i : Nat)))) := fun q => by
   rw [run_all (k := i) h0 h (fun _ => q), beq_eq_false_iff_ne.mpr (by omega)]
   exact Ev.now _
  have hyes : lodB (bt s i) = true → Ev (fun k => truantref02_Word.l0 k s (wrap64 ((i : Int) + 1))) ((List.range s.size).all (fun i => lodB (bt s (i : Nat)))) := fun q => by
   rw [wrap_succ (by omega) (by omega)]
   exact ih (i + 1) (by omega) (by omega) (all_succ (P := fun j => lodB (bt s (j : Nat)) = true) h q)
  cases hl : letB (bt s i) with
  | true => exact Ev.pos rfl (hyes (by unfold lodB; rw [hl]; rfl))
  | false =>
   refine Ev.neg (by decide) (Ev.one (rdigit _) ?_)
   cases hd2 : digB (bt s i) with
   | true => exact Ev.pos rfl (hyes (by unfold lodB; rw [hd2]; simp))
   | false => exact Ev.neg (by decide) (hno (by unfold lodB; rw [hl, hd2]; rfl))
theorem rword_ev (s : ByteArray) : Ev (fun k => truantref02_Word.f k s) (wordB s) := by
 have j_true : Ev (fun k => truantref02_Word.j0 k s true) false := Ev.step (f := fun _ => some false) (fun k => rfl) (Ev.now _)
 by_cases h0 : s.size = 0
 ·refine Ev.pos (by omega) (Ev.eq j_true ?_)
  simp [wordB, nameB, h0]
 ·refine Ev.neg (by omega) ?_
  by_cases h1 : s.size ≤ 12
  ·refine Ev.neg (by omega) (Ev.pos (by omega) (Ev.one (rletter _) ?_))
   cases hl : letB (bt s 0) with
   | false => exact Ev.neg (by decide) (Ev.eq j_true (by simp [wordB, nameB, hl]))
   | true =>
    refine Ev.pos rfl (Ev.one (a := truantref02_Key.f s) (b := keyB s) rfl ?_)
    cases hk : keyB s with
    | true => exact Ev.eq j_true (by simp [wordB, hk])
    | false =>
     refine Ev.step (f := fun k => truantref02_Word.l0 k s 0) (fun k => rfl) (Ev.eq (word_l s h1 s.size 0 (by omega) (by omega) (fun j hj => absurd hj (by omega))) ?_)
     have h3 : 0 < s.size := by omega
     simp [wordB, nameB, hk, hl, h1, h3]
  ·refine Ev.pos (by omega) (Ev.eq j_true ?_)
   simp [wordB, h1]
/-! types -/
/-- Behind the star, if that is a word. -/
def rest (t : ByteArray) : ByteArray := t.extract 1 t.size
def starB (t : ByteArray) : Bool := decide (0 < t.size) && (bt t 0 == 42)
def ptrB (t : ByteArray) : Bool := starB t && wordB (rest t)
def elemS (t : ByteArray) : ByteArray × Bool := if ptrB t = true then (rest t, true) else (⟨#[]⟩, false)
theorem rest_size (t : ByteArray) : (rest t).size = t.size - 1 := by unfold rest; simp
theorem cutPrefix_one (t : ByteArray) : strings_CutPrefix.f t (⟨#[42]⟩ : ByteArray) = some (if starB t = true then (rest t, true) else (t, false)) := by
 have e1 : ((⟨#[42]⟩ : ByteArray).size : Int) = 1 := rfl
 have e2 : (⟨#[42]⟩ : ByteArray).toList = [42] := by rw [ByteArray.toList_eq]
 unfold strings_CutPrefix.f stringslite_CutPrefix.f stringslite_HasPrefix.f
 rw [e1, e2]
 by_cases h0 : 0 < t.size
 ·have hb : ((t.extract 0 (1 : Int).toNat).toList == [42]) = starB t := by
   obtain ⟨⟨l⟩⟩ := t
   cases l with
   | nil => simp [ByteArray.size] at h0
   | cons x l =>
    have e3 : (ByteArray.extract ⟨⟨x :: l⟩⟩ 0 (1 : Int).toNat).toList = [x] := by
     rw [Lib.extract_toList]; rfl
    have e4 : bt ⟨⟨x :: l⟩⟩ 0 = (x.toNat : Int) := (bt_at ⟨⟨x :: l⟩⟩ 0 (by simpa using h0)).symm
    unfold starB
    rw [e3, e4]
    simp only [h0, decide_true, Bool.true_and]
    by_cases hx : x = 42
    ·subst hx; rfl
    ·rw [beq_eq_false_iff_ne.mpr (by simpa using hx), beq_eq_false_iff_ne.mpr]
     intro q
     apply hx
     apply UInt8.toNat_inj.mp
     have e42 : (42 : UInt8).toNat = 42 := rfl
     omega
  rw [if_pos (by omega), if_pos (by omega), if_pos (by omega), hb]
  simp only [Option.bind_some]
  cases starB t with
  | true => rw [if_pos rfl, if_pos (by omega), if_pos (by omega)]; rfl
  | false => rw [if_neg (by decide)]; rfl
 ·have : starB t = false := by unfold starB; simp [h0]
  rw [if_neg (by omega), this]
  rfl
theorem elem_ev (t : ByteArray) (ht : t.size ≤ 9223372036854775807) : Ev (fun k => kind_Elem.f k t) (elemS t) := by
 refine Ev.one (cutPrefix_one t) ?_
 unfold elemS ptrB
 cases starB t with
 | false => exact Ev.neg (by simp) (Ev.now _)
 | true =>
  refine Ev.pos rfl (Ev.bind (isWord_ev (rest t) (by rw [rest_size]; omega)) ?_)
  cases hw : wordB (rest t) with
  | false => exact Ev.neg (by decide) (Ev.now _)
  | true => exact Ev.pos rfl (Ev.now _)
theorem relem_ev (t : ByteArray) : Ev (fun k => truantref03_Elem.f k t) (elemS t).1 := by
 have hw1 : wordB (rest t) = true → 1 < t.size := fun h => by
  unfold wordB nameB at h
  simp at h
  have := h.1.1.1
  rw [rest_size] at this
  omega
 by_cases h2 : t.size < 2
 ·refine Ev.pos (by omega) (Ev.eq (Ev.now _) ?_)
  unfold elemS
  rw [if_neg]
  unfold ptrB
  intro q
  simp at q
  have := hw1 q.2
  omega
 ·refine Ev.neg (by omega) (Ev.pos (by omega) ?_)
  by_cases hs : bt t 0 = 42
  ·have hsb : starB t = true := by unfold starB; rw [hs]; simp; omega
   refine Ev.pos hs (Ev.pos (by omega) (Ev.bind (rword_ev (rest t)) ?_))
   unfold elemS ptrB
   rw [hsb]
   cases hw : wordB (rest t) with
   | false => exact Ev.neg (by decide) (Ev.now _)
   | true => exact Ev.pos rfl (Ev.now _)
  ·have hsb : starB t = false := by unfold starB; rw [beq_eq_false_iff_ne.mpr hs]; simp
   refine Ev.neg hs (Ev.eq (Ev.now _) ?_)
   unfold elemS ptrB
   rw [hsb]; rfl
theorem rfind_ev (l : List S43) (s : ByteArray) (hm : l.length ≤ 9223372036854775807) : Ev (fun k => truantref03_Find.f k l s) (findR (nameIs s) l) := by
 have key : ∀ (d i : Nat), i ≤ l.length → l.length - i = d → (∀ j : Nat, j < i → nameIs s (l.getD j z43) = false) → Ev (fun k => truantref03_Find.l0 k l s (i : Int)) (findR (nameIs s) l) := by
  intro d
  induction d with
  | zero =>
   intro i h0 hd h
   refine Ev.step (fun k => rfl) (Ev.neg (by omega) ?_)
   rw [find_none (z := z43) (fun j hj => h j (by omega))]
   exact Ev.now _
  | succ d ih =>
   intro i h0 hd h
   refine Ev.step (fun k => rfl) (Ev.pos (by omega) (Ev.pos (by omega) ?_))
   by_cases e : nameIs s (l.getD i z43) = true
   ·refine Ev.pos (beq_iff_eq.mp e) ?_
    rw [find_last (z := z43) (k := i) (by omega) h e]
    exact Ev.now _
   ·refine Ev.neg (fun q => e (beq_iff_eq.mpr q)) ?_
    rw [wrap_succ (by omega) (by omega)]
    exact ih (i + 1) (by omega) (by omega) (all_succ (P := fun j => nameIs s (l.getD j z43) = false) h (by simpa using e))
 exact key l.length 0 (by omega) (by omega) (fun j hj => absurd hj (by omega))
/-! the links -/
def linksD (fs : List S48) : Nat → Nat → List Int
 | 0, _ => []
 | d + 1, i => if (elemS (fs.getD i z48).f1).2 = true then (i : Int) :: linksD fs d (i + 1) else linksD fs d (i + 1)
def linksL (fs : List S48) : List Int := linksD fs fs.length 0
theorem linksD_len (fs : List S48) : ∀ d i, (linksD fs d i).length ≤ d
 | 0, i => by simp [linksD]
 | d + 1, i => by
  unfold linksD
  have := linksD_len fs d (i + 1)
  split
  ·simp; omega
  ·omega
theorem links_ev (n : ByteArray) (fs : List S48) (hm : fs.length ≤ 4398046511104) (hs : ∀ j : Nat, j < fs.length → (fs.getD j z48).f1.size ≤ 9223372036854775807) : Ev (fun k => kind_Links.f k n fs) (linksL fs) := by
 have key : ∀ (d i : Nat) (acc : List Int), i ≤ fs.length → fs.length - i = d → acc.length ≤ i → Ev (fun k => kind_Links.l0 k acc fs (fs.length : Int) (i : Int)) (acc ++ linksD fs d i) := by
  intro d
  induction d with
  | zero =>
   intro i acc h0 hd ha
   exact Ev.step (fun k => rfl) (Ev.neg (by omega) (Ev.eq (Ev.now _) (by simp [linksD])))
  | succ d ih =>
   intro i acc h0 hd ha
   refine Ev.step (fun k => rfl) (Ev.pos (by omega) (Ev.pos (by omega) (Ev.pos (by omega) (Ev.bind (elem_ev _ (hs i (by omega))) ?_))))
   rw [wrap_succ (by omega) (by omega)]
   unfold linksD
   by_cases h : (elemS (fs.getD i z48).f1).2 = true
   ·rw [if_pos h]
    refine Ev.pos h (Ev.pos (by omega) (Ev.eq (ih (i + 1) (acc ++ [(i : Int)]) (by omega) (by omega) (by simp; omega)) (by simp)))
   ·rw [if_neg h]
    exact Ev.neg h (ih (i + 1) acc (by omega) (by omega) (by omega))
 exact key fs.length 0 [] (by omega) (by omega) (by simp)
theorem rsame_ev (l l' : List S43) (hm : l.length ≤ 9223372036854775807) (hf : ∀ j : Nat, j < l.length → (l.getD j z43).f1.length ≤ 9223372036854775807) : Ev (fun k => truantref03_Same.f k l l') (sameS l l') := by
 rw [sameS_dec]
 by_cases hn : l.length = l'.length
 ·refine Ev.pos (by omega) ?_
  have key : ∀ (d i : Nat), i ≤ l.length → l.length - i = d → (∀ j : Nat, j < i → l.getD j z43 = l'.getD j z43) → Ev (fun k => truantref03_Same.l0 k l l' (i : Int)) (decB (l = l')) := by
   intro d
   induction d with
   | zero =>
    intro i h0 hd h
    refine Ev.step (fun k => rfl) (Ev.neg (by omega) ?_)
    rw [decB_true (lists_eq z43 hn (fun j hj => h j (by omega)))]
    exact Ev.now _
   | succ d ih =>
    intro i h0 hd h
    refine Ev.step (fun k => rfl) (Ev.pos (by omega) (Ev.pos (by omega) (Ev.pos (by omega) ?_)))
    obtain ⟨x, hx⟩ : ∃ x, x = l.getD i z43 := ⟨_, rfl⟩
    obtain ⟨y, hy⟩ : ∃ y, y = l'.getD i z43 := ⟨_, rfl⟩
    have rx : rd_T43 l (i : Int) = x := by rw [hx]; rfl
    have ry : rd_T43 l' (i : Int) = y := by rw [hy]; rfl
    rw [rx, ry]
    have hno : x ≠ y → Ev (fun _ : Nat => (some false : Option Bool)) (decB (l = l')) := fun q => by
     rw [decB_false (fun e => q (by rw [hx, hy, e]))]
     exact Ev.now _
    have jt : x ≠ y → Ev (fun k => truantref03_Same.j1 k l l' (i : Int) true) (decB (l = l')) := fun q => Ev.step (f := fun _ => some false) (fun k => rfl) (hno q)
    by_cases h1 : x.f0.toList = y.f0.toList
    ·refine Ev.pos h1 ?_
     by_cases h2 : x.f1.length = y.f1.length
     ·have e : ((x.f1.length : Int) != (y.f1.length : Int)) = false := by rw [h2]; simp
      rw [e]
      refine Ev.step (f := fun k => truantref03_Same.l1 k l l' (i : Int) 0) (fun k => rfl) ?_
      have inner : ∀ (d2 q : Nat), q ≤ x.f1.length → x.f1.length - q = d2 → (∀ j : Nat, j < q → x.f1.getD j z48 = y.f1.getD j z48) → Ev (fun k => truantref03_Same.l1 k l l' (i : Int) (q : Int)) (decB (l = l')) := by
       intro d2
       induction d2 with
       | zero =>
        intro q hq hd2 hall
        refine Ev.step (fun k => rfl) (Ev.pos (by omega) (Ev.pos (by omega) ?_))
        rw [rx]
        refine Ev.neg (by omega) ?_
        rw [wrap_succ (by omega) (by omega)]
        refine ih (i + 1) (by omega) (by omega) (all_succ h ?_)
        rw [← hx, ← hy]
        have e2 : x.f1 = y.f1 := lists_eq z48 h2 (fun j hj => hall j (by omega))
        cases x; cases y
        simp only at h1 e2
        rw [bytes_eq h1, e2]
       | succ d2 ih2 =>
        intro q hq hd2 hall
        refine Ev.step (fun k => rfl) (Ev.pos (by omega) (Ev.pos (by omega) ?_))
        rw [rx, ry]
        refine Ev.pos (by omega) (Ev.pos (by omega) (Ev.pos (by omega) (Ev.pos (by omega) ?_)))
        by_cases e3 : (!((rd_T48 x.f1 (q : Int)).f0.toList == (rd_T48 y.f1 (q : Int)).f0.toList) || (!((rd_T48 x.f1 (q : Int)).f1.toList == (rd_T48 y.f1 (q : Int)).f1.toList))) = true
        ·refine Ev.pos e3 (hno ?_)
         rintro rfl
         simp at e3
        ·refine Ev.neg e3 ?_
         have hfx := hf i (by omega)
         rw [← hx] at hfx
         rw [wrap_succ (by omega) (by omega)]
         exact ih2 (q + 1) (by omega) (by omega) (all_succ hall (field_eq (Bool.eq_false_iff.mpr e3)))
      exact inner x.f1.length 0 (by omega) (by omega) (fun j hj => absurd hj (by omega))
     ·have e : ((x.f1.length : Int) != (y.f1.length : Int)) = true := by rw [bne_iff_ne]; omega
      rw [e]
      exact jt (fun q => h2 (by rw [q]))
    ·refine Ev.neg h1 (jt (fun q => h1 (by rw [q])))
  exact key l.length 0 (by omega) (by omega) (fun j hj => absurd hj (by omega))
 ·refine Ev.neg (by omega) ?_
  rw [decB_false (fun e => hn (by rw [e]))]
  exact Ev.now _
end Go.Proofs.Ythpglaekdadehaa.Q

/- What is reached: the queue of kind.Reach, and who is reached. -/

namespace Go.Proofs.Ythpglaekdadehaa.Q
open Go.RowKit Go.Proofs.YthpglaekdadehaaW.PrintWords Go.Proofs.YthpglaekdadehaaW.PrintLast Go.Proofs.YthpglaekdadehaaW.PrintMore
set_option linter.unusedVariables false
set_option linter.unusedSimpArgs false
/-- Who is reached from a type, by names. -/
inductive Rc (l : List S43) (t : ByteArray) : ByteArray → Prop where
 | root : (elemS t).2 = true → 0 ≤ findR (nameIs (elemS t).1) l → Rc l t (elemS t).1
 | link {a : ByteArray} {m j : Nat} : Rc l t a → findR (nameIs a) l = (m : Int) → j < (l.getD m z43).f1.length → (elemS ((l.getD m z43).f1.getD j z48).f1).2 = true →
   0 ≤ findR (nameIs (elemS ((l.getD m z43).f1.getD j z48).f1).1) l → Rc l t (elemS ((l.getD m z43).f1.getD j z48).f1).1
/-- From some numbers on, of both. -/
def Ev2 {α : Type} (g : Nat → Nat → Option α) (r : α) : Prop := ∃ M, ∀ K k, M ≤ K → M ≤ k → g K k = some r
theorem Ev2.diag {α : Type} {g : Nat → Nat → Option α} {r : α} (h : Ev2 g r) : Ev (fun k => g k k) r := by
 obtain ⟨M, h⟩ := h
 exact ⟨M, fun k hk => h k k hk hk⟩
theorem hasB_cons (x y : ByteArray) (l : List ByteArray) : hasB x (y :: l) = (y.toList == x.toList || hasB x l) := rfl
theorem hasB_mem {x : ByteArray} {l : List ByteArray} : hasB x l = true ↔ x ∈ l := by
 unfold hasB
 rw [List.any_eq_true]
 constructor
 ·rintro ⟨y, hy, e⟩
  have := bytes_eq (beq_iff_eq.mp e)
  rwa [← this]
 ·exact fun h => ⟨x, h, by simp⟩
theorem filter_lt {α : Type} {p q : α → Bool} (h : ∀ x, q x = true → p x = true) {m : α} : ∀ {l : List α}, m ∈ l → p m = true → q m = false → (l.filter q).length < (l.filter p).length
 | x :: l, hm, hp, hq => by
  have hle : ∀ l : List α, (l.filter q).length ≤ (l.filter p).length := by
   intro l
   induction l with
   | nil => simp
   | cons y l ih =>
    rw [List.filter_cons, List.filter_cons]
    by_cases hy : q y = true
    ·rw [if_pos hy, if_pos (h y hy)]; simp; exact ih
    ·rw [if_neg hy]
     split
     ·simp; omega
     ·exact ih
  rw [List.filter_cons, List.filter_cons]
  rcases List.mem_cons.mp hm with rfl | hm'
  ·rw [hq, hp]
   have := hle l
   simp; omega
  ·have ih := filter_lt h hm' hp hq
   by_cases hx : q x = true
   ·rw [if_pos hx, if_pos (h x hx)]; simp; exact ih
   ·rw [if_neg hx]
    split
    ·simp; omega
    ·exact ih
theorem linksD_mem (fs : List S48) : ∀ (d i : Nat) (q : Int), q ∈ linksD fs d i ↔ ∃ j : Nat, q = j ∧ i ≤ j ∧ j < i + d ∧ (elemS (fs.getD j z48).f1).2 = true
 | 0, i, q => by simp [linksD]; intros; omega
 | d + 1, i, q => by
  have ih := linksD_mem fs d (i + 1) q
  unfold linksD
  by_cases h : (elemS (fs.getD i z48).f1).2 = true
  ·rw [if_pos h, List.mem_cons, ih]
   constructor
   ·rintro (rfl | ⟨j, rfl, h1, h2, h3⟩)
    ·exact ⟨i, rfl, by omega, by omega, h⟩
    ·exact ⟨j, rfl, by omega, by omega, h3⟩
   ·rintro ⟨j, rfl, h1, h2, h3⟩
    by_cases e : j = i
    ·subst e; exact .inl rfl
    ·exact .inr ⟨j, rfl, by omega, by omega, h3⟩
  ·rw [if_neg h, ih]
   constructor
   ·rintro ⟨j, rfl, h1, h2, h3⟩
    exact ⟨j, rfl, by omega, by omega, h3⟩
   ·rintro ⟨j, rfl, h1, h2, h3⟩
    by_cases e : j = i
    ·subst e; exact absurd h3 h
    ·exact ⟨j, rfl, by omega, by omega, h3⟩
theorem links_mem (fs : List S48) (q : Int) : q ∈ linksL fs ↔ ∃ j : Nat, q = j ∧ j < fs.length ∧ (elemS (fs.getD j z48).f1).2 = true := by
 unfold linksL
 rw [linksD_mem]
 constructor
 ·rintro ⟨j, rfl, _, h2, h3⟩; exact ⟨j, rfl, by omega, h3⟩
 ·rintro ⟨j, rfl, h2, h3⟩; exact ⟨j, rfl, by omega, by omega, h3⟩
theorem linksIn_L (fs : List S48) : linksIn fs (linksL fs) = true := by
 unfold linksIn
 rw [List.all_eq_true]
 intro q hq
 obtain ⟨j, rfl, h1, _⟩ := (links_mem fs q).mp hq
 exact decide_eq_true ⟨by omega, by omega⟩
theorem nameIs_iff {n : ByteArray} {x : S43} : nameIs n x = true ↔ x.f0 = n := by
 unfold nameIs
 constructor
 ·exact fun h => bytes_eq (beq_iff_eq.mp h)
 ·rintro rfl; simp
theorem find_name {l : List S43} {n : ByteArray} {m : Nat} (h : findR (nameIs n) l = (m : Int)) : (l.getD m z43).f0 = n := by
 have hm := find_lt h
 apply nameIs_iff.mp
 unfold findR at h
 split at h
 ·rename_i hlt
  have e : l.findIdx (nameIs n) = m := by omega
  have := List.findIdx_getElem (w := hlt)
  rw [getD_at l _ hm]
  simp only [e] at this
  exact this
 ·omega
theorem find_has {l : List S43} {n : ByteArray} {i : Nat} (hi : i < l.length) (h : (l.getD i z43).f0 = n) : ∃ m : Nat, findR (nameIs n) l = (m : Int) ∧ m ≤ i := by
 have hlt : l.findIdx (nameIs n) < l.length := List.findIdx_lt_length_of_exists ⟨l[i], List.getElem_mem hi, by rw [← getD_at l z43 hi]; exact nameIs_iff.mpr h⟩
 refine ⟨l.findIdx (nameIs n), by unfold findR; rw [if_pos hlt], ?_⟩
 by_cases hc : l.findIdx (nameIs n) ≤ i
 ·exact hc
 ·have := List.not_of_lt_findIdx (p := nameIs n) (xs := l) (i := i) (by omega)
  rw [← getD_at l z43 hi, nameIs_iff.mpr h] at this
  simp at this
/-- What still waits. -/
def freshB (l : List S43) (seen : List ByteArray) (i : Nat) : Bool := decide (findR (nameIs (l.getD i z43).f0) l = (i : Int)) && !hasB (l.getD i z43).f0 seen
def Wait (l : List S43) (seen todo : List ByteArray) (tt : ByteArray) : Prop := (elemS tt).2 = true → 0 ≤ findR (nameIs (elemS tt).1) l → (elemS tt).1 ∈ seen ∨ tt ∈ todo
structure RInv (l : List S43) (t : ByteArray) (todo seen : List ByteArray) : Prop where
 sound : ∀ s ∈ seen, Rc l t s
 next : ∀ tt ∈ todo, (elemS tt).2 = true → 0 ≤ findR (nameIs (elemS tt).1) l → Rc l t (elemS tt).1
 root : Wait l seen todo t
 links : ∀ s ∈ seen, ∀ m j : Nat, findR (nameIs s) l = (m : Int) → j < (l.getD m z43).f1.length → Wait l seen todo ((l.getD m z43).f1.getD j z48).f1
theorem RInv.done {l : List S43} {t : ByteArray} {seen : List ByteArray} (h : RInv l t [] seen) (s : ByteArray) : s ∈ seen ↔ Rc l t s := by
 constructor
 ·exact h.sound s
 ·intro hs
  induction hs with
  | root h1 h2 => exact (h.root h1 h2).resolve_right (by simp)
  | link h0 h1 h2 h3 h4 ih => exact (h.links _ ih _ _ h1 h2 h3 h4).resolve_right (by simp)
structure WFL (l : List S43) : Prop where
 len : l.length ≤ 16
 fields : ∀ j : Nat, j < l.length → (l.getD j z43).f1.length ≤ 12
 names : ∀ j : Nat, j < l.length → (l.getD j z43).f0.size ≤ 100
 types : ∀ j q : Nat, j < l.length → q < (l.getD j z43).f1.length → ((l.getD j z43).f1.getD q z48).f1.size ≤ 100
theorem elem_size (t : ByteArray) : (elemS t).1.size ≤ t.size := by
 unfold elemS
 split
 ·simp only; rw [rest_size]; omega
 ·exact Nat.zero_le _
theorem links_len (fs : List S48) : (linksL fs).length ≤ fs.length := linksD_len fs _ _
theorem types_mem {fs : List S48} {tt : ByteArray} : tt ∈ typesAt fs (linksL fs) ↔ ∃ j : Nat, j < fs.length ∧ (elemS (fs.getD j z48).f1).2 = true ∧ tt = (fs.getD j z48).f1 := by
 unfold typesAt
 rw [List.mem_map]
 constructor
 ·rintro ⟨q, hq, rfl⟩
  obtain ⟨j, rfl, h1, h2⟩ := (links_mem fs q).mp hq
  exact ⟨j, h1, h2, rfl⟩
 ·rintro ⟨j, h1, h2, rfl⟩
  exact ⟨(j : Int), (links_mem fs _).mpr ⟨j, rfl, h1, h2⟩, rfl⟩
theorem queue_ev (l : List S43) (hl : WFL l) (t : ByteArray) : ∀ (c : Nat) (todo seen : List ByteArray), ((List.range l.length).filter (freshB l seen)).length = c → RInv l t todo seen →
  (∀ tt ∈ todo, tt.size ≤ 100) → todo.length + 12 * c ≤ 1000000 → seen.length + c ≤ 1000000 → ∃ seen', Ev2 (fun K k => kind_Reach.q K l k todo seen) seen' ∧ RInv l t [] seen' := by
 intro c
 induction c using Nat.strongRecOn with
 | _ c ihc =>
 intro todo
 induction todo with
 | nil => exact fun seen hc hi _ _ _ => ⟨seen, ⟨1, fun K k _ hk => by obtain ⟨k, rfl⟩ : ∃ m, k = m + 1 := ⟨k - 1, by omega⟩; rfl⟩, hi⟩
 | cons tt todo ih =>
  intro seen hc hi hs hb hb2
  have htt := hs tt (by simp)
  have hel := elem_ev tt (by omega)
  have hns := elem_size tt
  obtain ⟨K1, hel⟩ := hel
  replace hel : ∀ k, K1 ≤ k → kind_Elem.f k tt = some (elemS tt) := hel
  have hml : (elemS tt).1.size ≤ maxLen ∧ seen.length < maxLen := by unfold maxLen; omega
  by_cases hyes : (elemS tt).2 = true ∧ 0 ≤ findR (nameIs (elemS tt).1) l ∧ hasB (elemS tt).1 seen = false
  ·obtain ⟨h1, h2, h3⟩ := hyes
   obtain ⟨m, hm⟩ : ∃ m : Nat, findR (nameIs (elemS tt).1) l = m := ⟨(findR (nameIs (elemS tt).1) l).toNat, by omega⟩
   have hml2 := find_lt hm
   have hnm := find_name hm
   have hfr : freshB l seen m = true := by
    unfold freshB
    rw [hnm, hm, h3]; simp
   have hlt : ((List.range l.length).filter (freshB l ((elemS tt).1 :: seen))).length < c := by
    rw [← hc]
    refine filter_lt (m := m) (fun i hi => ?_) (by simpa using hml2) hfr ?_
    ·unfold freshB at hi ⊢
     rw [hasB_cons] at hi
     simp only [Bool.and_eq_true, Bool.not_eq_true', Bool.or_eq_false_iff] at hi ⊢
     exact ⟨hi.1, hi.2.2⟩
    ·unfold freshB
     rw [hasB_cons, hnm]
     simp
   have hsd : Rc l t (elemS tt).1 := hi.next tt (by simp) h1 h2
   have hfl := hl.fields m hml2
   have hll := links_len (l.getD m z43).f1
   have htl : (typesAt (l.getD m z43).f1 (linksL (l.getD m z43).f1)).length ≤ 12 := by unfold typesAt; rw [List.length_map]; omega
   obtain ⟨seen', ⟨M, hq⟩, hi'⟩ := ihc _ hlt (todo ++ typesAt (l.getD m z43).f1 (linksL (l.getD m z43).f1)) ((elemS tt).1 :: seen) rfl (by
    constructor
    ·intro s hs
     rcases List.mem_cons.mp hs with rfl | hs
     ·exact hsd
     ·exact hi.sound s hs
    ·intro t2 ht2 e1 e2
     rcases List.mem_append.mp ht2 with ht2 | ht2
     ·exact hi.next t2 (by simp [ht2]) e1 e2
     ·obtain ⟨j, hj, hj2, rfl⟩ := types_mem.mp ht2
      exact Rc.link hsd hm hj e1 e2
    ·intro e1 e2
     rcases hi.root e1 e2 with h | h
     ·exact .inl (by simp [h])
     ·rcases List.mem_cons.mp h with rfl | h
      ·exact .inl (by simp)
      ·exact .inr (by simp [h])
    ·intro s hs m2 j hm2 hj e1 e2
     rcases List.mem_cons.mp hs with rfl | hs
     ·have em : m2 = m := by rw [hm] at hm2; omega
      subst em
      exact .inr (List.mem_append.mpr (.inr (types_mem.mpr ⟨j, hj, e1, rfl⟩)))
     ·rcases hi.links s hs m2 j hm2 hj e1 e2 with h | h
      ·exact .inl (List.mem_cons_of_mem _ h)
      ·rcases List.mem_cons.mp h with h | h
       ·exact .inl (by rw [h]; exact List.mem_cons_self)
       ·exact .inr (List.mem_append.mpr (.inl h))) (by
    intro t2 ht2
    rcases List.mem_append.mp ht2 with ht2 | ht2
    ·exact hs t2 (by simp [ht2])
    ·obtain ⟨j, hj, hj2, rfl⟩ := types_mem.mp ht2
     exact hl.types m j hml2 hj) (by rw [List.length_append]; simp only [List.length_cons] at hb; omega) (by simp only [List.length_cons]; omega)
   obtain ⟨K2, hlk⟩ := links_ev (l.getD m z43).f0 (l.getD m z43).f1 (by omega) (fun j hj => by have := hl.types m j hml2 hj; omega)
   replace hlk : ∀ k, K2 ≤ k → kind_Links.f k (l.getD m z43).f0 (l.getD m z43).f1 = some (linksL (l.getD m z43).f1) := hlk
   refine ⟨seen', ⟨max (max K1 K2) (M + 1), fun K k hK hk => ?_⟩, hi'⟩
   obtain ⟨k, rfl⟩ : ∃ n, k = n + 1 := ⟨k - 1, by omega⟩
   simp only [kind_Reach.q]
   rw [hel K (by omega)]
   simp only [Option.bind_some]
   rw [if_pos hml, if_pos ⟨h1, h2, h3⟩, hm, Int.toNat_natCast, hlk K (by omega)]
   simp only [Option.bind_some]
   rw [if_pos ⟨linksIn_L _, by unfold LIMS; simp only [List.length_cons] at hb; omega⟩]
   exact hq K k (by omega) (by omega)
  ·obtain ⟨seen', ⟨M, hq⟩, hi'⟩ := ih seen hc (by
    constructor
    ·exact hi.sound
    ·exact fun t2 h2 => hi.next t2 (by simp [h2])
    ·intro e1 e2
     rcases hi.root e1 e2 with h | h
     ·exact .inl h
     ·rcases List.mem_cons.mp h with rfl | h
      ·exact .inl (hasB_mem.mp (by
        cases hh : hasB (elemS t).1 seen
        ·exact absurd ⟨e1, e2, hh⟩ hyes
        ·rfl))
      ·exact .inr h
    ·intro s hs m2 j hm2 hj e1 e2
     rcases hi.links s hs m2 j hm2 hj e1 e2 with h | h
     ·exact .inl h
     ·rcases List.mem_cons.mp h with h | h
      ·rw [← h] at hyes
       exact .inl (hasB_mem.mp (by
        cases hh : hasB (elemS ((l.getD m2 z43).f1.getD j z48).f1).1 seen
        ·exact absurd ⟨e1, e2, hh⟩ hyes
        ·rfl))
      ·exact .inr h) (fun t2 h2 => hs t2 (by simp [h2])) (by simp only [List.length_cons] at hb; omega) hb2
   refine ⟨seen', ⟨max K1 (M + 1), fun K k hK hk => ?_⟩, hi'⟩
   obtain ⟨k, rfl⟩ : ∃ n, k = n + 1 := ⟨k - 1, by omega⟩
   simp only [kind_Reach.q]
   rw [hel K (by omega)]
   simp only [Option.bind_some]
   rw [if_pos hml, if_neg hyes]
   exact hq K k (by omega) (by omega)
/-- The answer of kind.Reach: the names, in order, of who is reached; of several with one name the first. -/
noncomputable def outS (l : List S43) (t : ByteArray) : List ByteArray :=
 ((List.range l.length).filter fun i => decB (Rc l t (l.getD i z43).f0 ∧ findR (nameIs (l.getD i z43).f0) l = (i : Int))).map fun i => (l.getD i z43).f0
theorem reach_ev (l : List S43) (hl : WFL l) (t : ByteArray) (ht : t.size ≤ 100) : Ev (fun k => kind_Reach.f k l t) (outS l t) := by
 have hc : ((List.range l.length).filter (freshB l [])).length ≤ 16 := by
  have := List.length_filter_le (freshB l []) (List.range l.length)
  have h2 := hl.len
  simp at this
  omega
 obtain ⟨seen, hq, hi⟩ := queue_ev l hl t _ [t] [] rfl (by
  constructor
  ·intro s hs; simp at hs
  ·intro tt htt e1 e2
   simp at htt
   subst htt
   exact Rc.root e1 e2
  ·exact fun _ _ => .inr (by simp)
  ·intro s hs; simp at hs) (by intro tt htt; simp at htt; subst htt; exact ht) (by simp only [List.length_cons, List.length_nil]; omega) (by simp only [List.length_nil]; omega)
 have hlen := hl.len
 refine Ev.pos ⟨by unfold LIMS; omega, ?_⟩ (Ev.bind hq.diag (Ev.eq (Ev.now _) ?_))
 ·rw [List.all_eq_true]
  intro x hx
  obtain ⟨i, hi2, rfl⟩ := List.mem_iff_getElem.mp hx
  have := hl.names i hi2
  rw [getD_at l _ hi2] at this
  exact decide_eq_true (by unfold maxLen; omega)
 ·unfold reachOut outS
  congr 1
  apply List.filter_congr
  intro i hi2
  have hi2 : i < l.length := by simpa using hi2
  obtain ⟨m, hm, hmi⟩ := find_has (l := l) hi2 rfl
  have hp : (placeOf (findR (nameIs (l.getD i z43).f0) l)).1 = findR (nameIs (l.getD i z43).f0) l := by
   rw [hm]; unfold placeOf; rw [if_neg (by omega)]
  rw [hp]
  by_cases h1 : Rc l t (l.getD i z43).f0 ∧ findR (nameIs (l.getD i z43).f0) l = (i : Int)
  ·rw [decB_true h1, hasB_mem.mpr ((hi.done _).mpr h1.1), decide_eq_true h1.2]; rfl
  ·rw [decB_false h1]
   cases hh : hasB (l.getD i z43).f0 seen
   ·rfl
   ·rw [Bool.true_and]
    exact decide_eq_false (fun e => h1 ⟨(hi.done _).mp (hasB_mem.mp hh), e⟩)
end Go.Proofs.Ythpglaekdadehaa.Q

/- Whether structs can be: what kind.Check and the reference's come to. -/

namespace Go.Proofs.Ythpglaekdadehaa.Q
open Go.RowKit Go.Proofs.YthpglaekdadehaaW.PrintWords Go.Proofs.YthpglaekdadehaaW.PrintLast Go.Proofs.YthpglaekdadehaaW.PrintMore
set_option linter.unusedVariables false
set_option linter.unusedSimpArgs false
def isS (l : List S43) (t : ByteArray) : Bool := t.toList == [105, 110, 116] || (t.toList == [98, 111, 111, 108] || (starB t && decide (0 ≤ findR (nameIs (rest t)) l)))
theorem is_ev (l : List S43) (t : ByteArray) : Ev (fun k => kind_Is.f k l t) (isS l t) := by
 have jt : Ev (fun k => kind_Is.j0 k l t true) true := Ev.step (f := fun _ => some true) (fun k => rfl) (Ev.now _)
 unfold isS
 by_cases h1 : t.toList = [105, 110, 116]
 ·exact Ev.pos h1 (Ev.eq jt (by rw [h1]; rfl))
 ·refine Ev.neg h1 ?_
  rw [beq_eq_false_iff_ne.mpr h1, Bool.false_or]
  by_cases h2 : t.toList = [98, 111, 111, 108]
  ·rw [beq_iff_eq.mpr h2]; exact Ev.eq jt (by simp)
  ·rw [beq_eq_false_iff_ne.mpr h2, Bool.false_or]
   refine Ev.step (f := fun k => (strings_CutPrefix.f t (⟨#[42]⟩ : ByteArray)).bind fun bt118 => (if bt118.2 = true then ((kind_Find.f l bt118.1).bind fun bt120 => (some bt120.2)) else (some false))) (fun k => rfl) ?_
   rw [cutPrefix_one]
   cases hs : starB t with
   | false => exact Ev.now _
   | true =>
    refine Ev.eq (Ev.now _) ?_
    unfold placeOf
    by_cases h : findR (nameIs (rest t)) l < 0
    ·rw [if_pos rfl, if_pos h]
     simp; omega
    ·rw [if_pos rfl, if_neg h]
     simp; omega
theorem ris_ev (l : List S43) (t : ByteArray) (hm : l.length ≤ 9223372036854775807) : Ev (fun k => truantref03_Is.f k l t) (isS l t) := by
 unfold isS
 by_cases h1 : t.toList = [105, 110, 116]
 ·exact Ev.pos h1 (Ev.eq (Ev.now _) (by rw [h1]; rfl))
 ·refine Ev.neg h1 ?_
  rw [beq_eq_false_iff_ne.mpr h1, Bool.false_or]
  by_cases h2 : t.toList = [98, 111, 111, 108]
  ·refine Ev.pos h2 ?_
   rw [beq_iff_eq.mpr h2]; exact Ev.eq (Ev.now _) (by simp)
  ·refine Ev.neg h2 ?_
   rw [beq_eq_false_iff_ne.mpr h2, Bool.false_or]
   unfold starB
   by_cases h3 : 0 < t.size
   ·refine Ev.pos (by omega) (Ev.pos (by omega) ?_)
    by_cases h4 : bt t 0 = 42
    ·refine Ev.pos h4 (Ev.pos (by omega) (Ev.eq (Ev.bind (rfind_ev l (rest t) hm) (Ev.now _)) ?_))
     simp [h3, h4]
    ·refine Ev.neg h4 (Ev.eq (Ev.now _) ?_)
     rw [beq_eq_false_iff_ne.mpr h4]; simp
   ·refine Ev.neg (by omega) (Ev.eq (Ev.now _) ?_)
    simp [h3]
def fieldS (l : List S43) (ahead : List S48) (a b : ByteArray) : Int := if wordB a = true then (if 0 ≤ findR (fnameIs a) ahead then 6 else if isS l b = true then 0 else 7) else 1
theorem field_ev (l : List S43) (ahead : List S48) (a b : ByteArray) (ha : a.size ≤ 9223372036854775807) : Ev (fun k => kind_field.f k l ahead a b) (fieldS l ahead a b) := by
 refine Ev.bind (isWord_ev a ha) ?_
 unfold fieldS
 cases wordB a with
 | false => exact Ev.neg (by decide) (Ev.now _)
 | true =>
  refine Ev.pos rfl ?_
  rw [if_pos rfl]
  by_cases h : 0 ≤ findR (fnameIs a) ahead
  ·rw [if_pos h]; exact Ev.pos h (Ev.now _)
  ·rw [if_neg h]
   refine Ev.neg h (Ev.bind (is_ev l b) ?_)
   cases isS l b with
   | true => exact Ev.pos rfl (Ev.now _)
   | false => exact Ev.neg (by decide) (Ev.now _)
def fieldsD (l : List S43) (fs : List S48) : Nat → Nat → Int
 | 0, _ => 0
 | d + 1, j => if fieldS l (fs.take j) (fs.getD j z48).f0 (fs.getD j z48).f1 = 0 then fieldsD l fs d (j + 1) else fieldS l (fs.take j) (fs.getD j z48).f0 (fs.getD j z48).f1
def oneS (l : List S43) (i : Nat) : Int :=
 if wordB (l.getD i z43).f0 = true then (if findR (nameIs (l.getD i z43).f0) l < (i : Int) then 6 else if (l.getD i z43).f1.length > 8 then 4 else fieldsD l (l.getD i z43).f1 (l.getD i z43).f1.length 0) else 1
def checkD (l : List S43) : Nat → Nat → Int × Int
 | 0, _ => (0, 0)
 | d + 1, i => if oneS l i = 0 then checkD l d (i + 1) else ((i : Int), oneS l i)
def checkS (l : List S43) : Int × Int := if l.length > 12 then (0, 4) else checkD l l.length 0
/-- The sizes that came in. -/
structure Sz (l : List S43) : Prop where
 len : l.length ≤ 4398046511104
 fields : ∀ j : Nat, j < l.length → (l.getD j z43).f1.length ≤ 4398046511104
 names : ∀ j : Nat, j < l.length → (l.getD j z43).f0.size ≤ 140737488351232
 fnames : ∀ j q : Nat, j < l.length → q < (l.getD j z43).f1.length → ((l.getD j z43).f1.getD q z48).f0.size ≤ 140737488351232
 types : ∀ j q : Nat, j < l.length → q < (l.getD j z43).f1.length → ((l.getD j z43).f1.getD q z48).f1.size ≤ 140737488351232
theorem one_ev (l : List S43) (hl : Sz l) (i : Nat) (hi : i < l.length) : Ev (fun k => kind_one.f k l (i : Int)) (oneS l i) := by
 obtain ⟨x, hx⟩ : ∃ x, x = l.getD i z43 := ⟨_, rfl⟩
 have rx : rd_T43 l (i : Int) = x := by rw [hx]; rfl
 have hn := hl.names i hi
 have hf := hl.fields i hi
 have hfn := fun q => hl.fnames i q hi
 rw [← hx] at hn hf hfn
 refine Ev.pos (by omega) (Ev.pos (by omega) ?_)
 rw [rx]
 refine Ev.bind (isWord_ev x.f0 (by omega)) ?_
 unfold oneS
 rw [← hx]
 cases wordB x.f0 with
 | false => exact Ev.neg (by decide) (Ev.now _)
 | true =>
  refine Ev.pos rfl (Ev.one (a := kind_Find.f l x.f0) (b := placeOf (findR (nameIs x.f0) l)) rfl ?_)
  rw [if_pos rfl]
  have hp : 0 ≤ findR (nameIs x.f0) l ∧ (placeOf (findR (nameIs x.f0) l)).1 = findR (nameIs x.f0) l := by
   have hlt : l.findIdx (nameIs x.f0) < l.length := List.findIdx_lt_length_of_exists ⟨l[i], List.getElem_mem hi, by rw [← getD_at l z43 hi, ← hx]; unfold nameIs; simp⟩
   have h0 : 0 ≤ findR (nameIs x.f0) l := by unfold findR; rw [if_pos hlt]; omega
   exact ⟨h0, by unfold placeOf; rw [if_neg (by omega)]⟩
  rw [hp.2]
  by_cases h1 : findR (nameIs x.f0) l < (i : Int)
  ·rw [if_pos h1]; exact Ev.pos h1 (Ev.now _)
  ·rw [if_neg h1]
   refine Ev.neg h1 ?_
   by_cases h2 : x.f1.length > 8
   ·rw [if_pos h2]; exact Ev.pos (by omega) (Ev.now _)
   ·rw [if_neg h2]
    refine Ev.neg (by omega) ?_
    have key : ∀ (d j : Nat), j ≤ x.f1.length → x.f1.length - j = d → Ev (fun k => kind_one.l0 k l x.f1 (x.f1.length : Int) (j : Int) x.f0 x.f1) (fieldsD l x.f1 d j) := by
     intro d
     induction d with
     | zero => exact fun j h0 hd => Ev.step (fun k => rfl) (Ev.neg (by omega) (Ev.now _))
     | succ d ih =>
      intro j h0 hd
      refine Ev.step (fun k => rfl) (Ev.pos (by omega) (Ev.pos (by omega) (Ev.pos (by omega) (Ev.pos (by omega) ?_))))
      have rf : rd_T48 x.f1 (j : Int) = x.f1.getD j z48 := rfl
      rw [rf, Int.toNat_natCast]
      refine Ev.bind (field_ev l _ _ _ (by have := hfn j (by omega); omega)) ?_
      unfold fieldsD
      by_cases h3 : fieldS l (x.f1.take j) (x.f1.getD j z48).f0 (x.f1.getD j z48).f1 = 0
      ·rw [if_pos h3, wrap_succ (by omega) (by omega)]
       exact Ev.pos h3 (ih (j + 1) (by omega) (by omega))
      ·rw [if_neg h3]
       exact Ev.neg h3 (Ev.now _)
    exact key x.f1.length 0 (by omega) (by omega)
theorem check_ev (l : List S43) (hl : Sz l) : Ev (fun k => kind_Check.f k l) (checkS l) := by
 unfold checkS
 by_cases h : l.length > 12
 ·rw [if_pos h]; exact Ev.pos (by omega) (Ev.now _)
 ·rw [if_neg h]
  refine Ev.neg (by omega) ?_
  have key : ∀ (d i : Nat), i ≤ l.length → l.length - i = d → Ev (fun k => kind_Check.l0 k l (l.length : Int) (i : Int)) (checkD l d i) := by
   intro d
   induction d with
   | zero => exact fun i h0 hd => Ev.step (fun k => rfl) (Ev.neg (by omega) (Ev.now _))
   | succ d ih =>
    intro i h0 hd
    refine Ev.step (fun k => rfl) (Ev.pos (by omega) (Ev.bind (one_ev l hl i (by omega)) ?_))
    unfold checkD
    by_cases h3 : oneS l i = 0
    ·rw [if_pos h3, wrap_succ (by omega) (by omega)]
     exact Ev.pos h3 (ih (i + 1) (by omega) (by omega))
    ·rw [if_neg h3]
     exact Ev.neg h3 (Ev.now _)
  exact key l.length 0 (by omega) (by omega)
theorem findR_take_iff {α : Type} {p : α → Bool} {l : List α} {z : α} {k : Nat} (hk : k ≤ l.length) : 0 ≤ findR p (l.take k) ↔ ∃ j : Nat, j < k ∧ p (l.getD j z) = true := by
 unfold findR
 have hl : (l.take k).length = k := by rw [List.length_take]; omega
 constructor
 ·intro h
  split at h
  ·rename_i hlt
   have := List.findIdx_getElem (w := hlt)
   rw [List.getElem_take] at this
   exact ⟨(l.take k).findIdx p, by omega, by rw [getD_at l z (by omega)]; exact this⟩
  ·omega
 ·rintro ⟨j, hj, hp⟩
  have hlt : (l.take k).findIdx p < (l.take k).length := List.findIdx_lt_length_of_exists ⟨(l.take k)[j]'(by omega), List.getElem_mem _, by rw [List.getElem_take, ← getD_at l z (by omega)]; exact hp⟩
  rw [if_pos hlt]; omega
theorem rcheck_ev (l : List S43) (hl : Sz l) : Ev (fun k => truantref03_Check.f k l) (checkS l) := by
 unfold checkS
 have hll := hl.len
 by_cases h : l.length > 12
 ·rw [if_pos h]; exact Ev.pos (by omega) (Ev.now _)
 ·rw [if_neg h]
  refine Ev.neg (by omega) ?_
  have key : ∀ (d i : Nat), i ≤ l.length → l.length - i = d → Ev (fun k => truantref03_Check.l0 k l (i : Int)) (checkD l d i) := by
   intro d
   induction d with
   | zero => exact fun i h0 hd => Ev.step (fun k => rfl) (Ev.neg (by omega) (Ev.now _))
   | succ d ih =>
    intro i h0 hd
    obtain ⟨x, hx⟩ : ∃ x, x = l.getD i z43 := ⟨_, rfl⟩
    have rx : rd_T43 l (i : Int) = x := by rw [hx]; rfl
    have hf := hl.fields i (by omega)
    rw [← hx] at hf
    refine Ev.step (fun k => rfl) (Ev.pos (by omega) (Ev.pos (by omega) ?_))
    rw [rx]
    refine Ev.bind (rword_ev x.f0) ?_
    unfold checkD oneS
    rw [← hx]
    cases wordB x.f0 with
    | false => exact Ev.neg (by decide) (Ev.now _)
    | true =>
     refine Ev.pos rfl (Ev.bind (rfind_ev l x.f0 (by omega)) ?_)
     rw [if_pos rfl]
     by_cases h1 : findR (nameIs x.f0) l < (i : Int)
     ·rw [if_pos h1]; exact Ev.pos h1 (Ev.now _)
     ·rw [if_neg h1]
      refine Ev.neg h1 ?_
      by_cases h2 : x.f1.length > 8
      ·rw [if_pos h2]; exact Ev.pos (by omega) (Ev.now _)
      ·rw [if_neg h2]
       refine Ev.neg (by omega) ?_
       have hnext := ih (i + 1) (by omega) (by omega)
       have fk : ∀ (d2 j : Nat), j ≤ x.f1.length → x.f1.length - j = d2 → Ev (fun k => truantref03_Check.l1 k l (i : Int) (j : Int) x.f0 x.f1) (if fieldsD l x.f1 d2 j = 0 then checkD l d (i + 1) else ((i : Int), fieldsD l x.f1 d2 j)) := by
        intro d2
        induction d2 with
        | zero =>
         intro j hj hd2
         refine Ev.step (fun k => rfl) (Ev.neg (by omega) ?_)
         rw [wrap_succ (by omega) (by omega)]
         exact hnext
        | succ d2 ih2 =>
         intro j hj hd2
         have rf : rd_T48 x.f1 (j : Int) = x.f1.getD j z48 := rfl
         refine Ev.step (fun k => rfl) (Ev.pos (by omega) (Ev.pos (by omega) ?_))
         rw [rf]
         refine Ev.bind (rword_ev _) ?_
         unfold fieldsD fieldS
         cases wordB (x.f1.getD j z48).f0 with
         | false => exact Ev.neg (by decide) (Ev.eq (Ev.now _) (by simp))
         | true =>
          refine Ev.pos rfl ?_
          rw [if_pos rfl]
          have ek : ∀ (d3 m : Nat), m ≤ j → j - m = d3 → (∀ q : Nat, q < m → fnameIs (x.f1.getD j z48).f0 (x.f1.getD q z48) = false) → Ev (fun k => truantref03_Check.l2 k l (i : Int) (j : Int) (m : Int) x.f0 x.f1)
            (if (if 0 ≤ findR (fnameIs (x.f1.getD j z48).f0) (x.f1.take j) then (6 : Int) else if isS l (x.f1.getD j z48).f1 = true then 0 else 7) = 0 then (if fieldsD l x.f1 d2 (j + 1) = 0 then checkD l d (i + 1) else ((i : Int), fieldsD l x.f1 d2 (j + 1))) else ((i : Int), (if 0 ≤ findR (fnameIs (x.f1.getD j z48).f0) (x.f1.take j) then (6 : Int) else if isS l (x.f1.getD j z48).f1 = true then 0 else 7))) := by
           intro d3
           induction d3 with
           | zero =>
            intro m hm hd3 hall
            have hno : ¬ 0 ≤ findR (fnameIs (x.f1.getD j z48).f0) (x.f1.take j) := fun hh => by
             obtain ⟨q, hq, hp⟩ := (findR_take_iff (z := z48) (by omega)).mp hh
             rw [hall q (by omega)] at hp; cases hp
            rw [if_neg hno]
            refine Ev.step (fun k => rfl) (Ev.neg (by omega) (Ev.pos (by omega) (Ev.pos (by omega) ?_)))
            rw [rf]
            refine Ev.bind (ris_ev l _ (by omega)) ?_
            cases isS l (x.f1.getD j z48).f1 with
            | true =>
             refine Ev.pos rfl ?_
             rw [wrap_succ (by omega) (by omega)]
             exact ih2 (j + 1) (by omega) (by omega)
            | false => exact Ev.neg (by decide) (Ev.now _)
           | succ d3 ih3 =>
            intro m hm hd3 hall
            have rm : rd_T48 x.f1 (m : Int) = x.f1.getD m z48 := rfl
            refine Ev.step (fun k => rfl) (Ev.pos (by omega) (Ev.pos (by omega) (Ev.pos (by omega) (Ev.pos (by omega) (Ev.pos (by omega) ?_)))))
            rw [rf, rm]
            by_cases he : fnameIs (x.f1.getD j z48).f0 (x.f1.getD m z48) = true
            ·have hyes : 0 ≤ findR (fnameIs (x.f1.getD j z48).f0) (x.f1.take j) := (findR_take_iff (z := z48) (by omega)).mpr ⟨m, by omega, he⟩
             rw [if_pos hyes]
             exact Ev.pos (beq_iff_eq.mp he) (Ev.now _)
            ·refine Ev.neg (fun q => he (beq_iff_eq.mpr q)) ?_
             rw [wrap_succ (by omega) (by omega)]
             exact ih3 (m + 1) (by omega) (by omega) (all_succ (P := fun q => fnameIs (x.f1.getD j z48).f0 (x.f1.getD q z48) = false) hall (by simpa using he))
          have e0 := ek j 0 (by omega) (by omega) (fun q hq => absurd hq (by omega))
          refine Ev.eq e0 ?_
          generalize (if 0 ≤ findR (fnameIs (x.f1.getD j z48).f0) (x.f1.take j) then (6 : Int) else if isS l (x.f1.getD j z48).f1 = true then 0 else 7) = F
          by_cases hF : F = 0
          ·rw [if_pos hF, if_pos hF]
          ·rw [if_neg hF, if_neg hF, if_neg hF]
       exact fk x.f1.length 0 (by omega) (by omega)
  exact key l.length 0 (by omega) (by omega)
end Go.Proofs.Ythpglaekdadehaa.Q

/- Layer 3, kind: the anchor, the sizes. -/
-- USES_WF

namespace Go.Proofs.Ythpglaekdadehaa.Q
open Go.RowKit Go.Proofs.YthpglaekdadehaaW.PrintWords Go.Proofs.YthpglaekdadehaaW.PrintLast Go.Proofs.YthpglaekdadehaaW.PrintMore
set_option linter.unusedVariables false
set_option linter.unusedSimpArgs false
theorem kindAwake_ev : Ev (fun k => truantlaw03_awake.f k) true := Ev.of truantlaw03_awake.mono (k := 60) (by kernel_rfl)
theorem kindGreat_ev (l : List S43) (hm : l.length ≤ 9223372036854775807) (hf : ∀ j : Nat, j < l.length → (l.getD j z43).f1.length ≤ 9223372036854775807) :
  ∃ b, Ev (fun k => truantlaw03_great.f k l) b ∧ (b = false → l.length ≤ 16 ∧ ∀ j : Nat, j < l.length → (l.getD j z43).f0.size ≤ 100 ∧ (l.getD j z43).f1.length ≤ 12 ∧ ∀ q : Nat, q < (l.getD j z43).f1.length → ((l.getD j z43).f1.getD q z48).f0.size ≤ 100 ∧ ((l.getD j z43).f1.getD q z48).f1.size ≤ 100) := by
 by_cases hl : l.length ≤ 16
 case neg => exact ⟨true, Ev.pos (by omega) (Ev.now _), fun h => by cases h⟩
 have key : ∀ (d i : Nat), i ≤ l.length → l.length - i = d → ∃ b, Ev (fun k => truantlaw03_great.l0 k l (i : Int)) b ∧ (b = false → ∀ j : Nat, i ≤ j → j < l.length → (l.getD j z43).f0.size ≤ 100 ∧ (l.getD j z43).f1.length ≤ 12 ∧ ∀ q : Nat, q < (l.getD j z43).f1.length → ((l.getD j z43).f1.getD q z48).f0.size ≤ 100 ∧ ((l.getD j z43).f1.getD q z48).f1.size ≤ 100) := by
  intro d
  induction d with
  | zero =>
   intro i h0 hd
   exact ⟨false, Ev.step (fun k => rfl) (Ev.neg (by omega) (Ev.now _)), fun _ j hj hj2 => absurd hj2 (by omega)⟩
  | succ d ih =>
   intro i h0 hd
   obtain ⟨x, hx⟩ : ∃ x, x = l.getD i z43 := ⟨_, rfl⟩
   have rx : rd_T43 l (i : Int) = x := by rw [hx]; rfl
   have hfx := hf i (by omega)
   rw [← hx] at hfx
   have jt : Ev (fun k => truantlaw03_great.j1 k l (i : Int) true) true := Ev.step (f := fun _ => some true) (fun k => rfl) (Ev.now _)
   by_cases h1 : x.f0.size ≤ 100
   case neg =>
    refine ⟨true, Ev.step (fun k => rfl) (Ev.pos (by omega) (Ev.pos (by omega) ?_)), fun h => by cases h⟩
    rw [rx]
    exact Ev.pos (by omega) jt
   by_cases h2 : x.f1.length ≤ 12
   case neg =>
    refine ⟨true, Ev.step (fun k => rfl) (Ev.pos (by omega) (Ev.pos (by omega) ?_)), fun h => by cases h⟩
    rw [rx]
    refine Ev.neg (by omega) ?_
    rw [decide_eq_true (by omega)]
    exact jt
   obtain ⟨b, hb, hall⟩ := ih (i + 1) (by omega) (by omega)
   have inner : ∀ (d2 q : Nat), q ≤ x.f1.length → x.f1.length - q = d2 → ∃ b', Ev (fun k => truantlaw03_great.l1 k l (i : Int) (q : Int)) b' ∧ (b' = false → b = false ∧ ∀ m : Nat, q ≤ m → m < x.f1.length → (x.f1.getD m z48).f0.size ≤ 100 ∧ (x.f1.getD m z48).f1.size ≤ 100) := by
    intro d2
    induction d2 with
    | zero =>
     intro q hq hd2
     refine ⟨b, Ev.step (fun k => rfl) (Ev.pos (by omega) (Ev.pos (by omega) ?_)), fun h => ⟨h, fun m hm1 hm2 => absurd hm2 (by omega)⟩⟩
     rw [rx]
     refine Ev.neg (by omega) ?_
     rw [wrap_succ (by omega) (by omega)]
     exact hb
    | succ d2 ih2 =>
     intro q hq hd2
     obtain ⟨b', hb', hall'⟩ := ih2 (q + 1) (by omega) (by omega)
     have rf : rd_T48 x.f1 (q : Int) = x.f1.getD q z48 := rfl
     by_cases h3 : (x.f1.getD q z48).f0.size ≤ 100 ∧ (x.f1.getD q z48).f1.size ≤ 100
     ·refine ⟨b', Ev.step (fun k => rfl) (Ev.pos (by omega) (Ev.pos (by omega) ?_)), fun h => ⟨(hall' h).1, fun m hm1 hm2 => ?_⟩⟩
      ·rw [rx]
       refine Ev.pos (by omega) (Ev.pos (by omega) ?_)
       rw [rf]
       refine Ev.neg (by omega) (Ev.neg (by omega) ?_)
       rw [wrap_succ (by omega) (by omega)]
       exact hb'
      ·by_cases e : m = q
       ·subst e; exact h3
       ·exact (hall' h).2 m (by omega) hm2
     ·refine ⟨true, Ev.step (fun k => rfl) (Ev.pos (by omega) (Ev.pos (by omega) ?_)), fun h => by cases h⟩
      rw [rx]
      refine Ev.pos (by omega) (Ev.pos (by omega) ?_)
      rw [rf]
      by_cases h4 : (x.f1.getD q z48).f0.size ≤ 100
      ·exact Ev.neg (by omega) (Ev.pos (by omega) (Ev.now _))
      ·exact Ev.pos (by omega) (Ev.now _)
   obtain ⟨b', hb', hall'⟩ := inner x.f1.length 0 (by omega) (by omega)
   refine ⟨b', Ev.step (fun k => rfl) (Ev.pos (by omega) (Ev.pos (by omega) ?_)), fun h j hj hj2 => ?_⟩
   ·rw [rx]
    refine Ev.neg (by omega) ?_
    rw [decide_eq_false (by omega)]
    exact Ev.step (f := fun k => truantlaw03_great.l1 k l (i : Int) 0) (fun k => rfl) hb'
   ·by_cases e : j = i
    ·subst e
     rw [← hx]
     exact ⟨h1, h2, fun q hq => (hall' h).2 q (by omega) hq⟩
    ·exact hall (hall' h).1 j (by omega) hj2
 obtain ⟨b, hb, hall⟩ := key l.length 0 (by omega) (by omega)
 exact ⟨b, Ev.neg (by omega) hb, fun h => ⟨hl, fun j hj => hall h j (by omega) hj⟩⟩
theorem getD_wf {l : List S43} (h : ∀ x ∈ l, WF43 x) {j : Nat} (hj : j < l.length) : WF43 (l.getD j z43) := by
 rw [getD_at l _ hj]; exact h _ (List.getElem_mem hj)
theorem getF_wf {l : List S48} (h : ∀ x ∈ l, WF48 x) {j : Nat} (hj : j < l.length) : WF48 (l.getD j z48) := by
 rw [getD_at l _ hj]; exact h _ (List.getElem_mem hj)
theorem word_ne {s : ByteArray} (h : wordB s = true) : ¬ s.toList = [] := by
 intro e
 have := tl_len s
 rw [e] at this
 unfold wordB nameB at h
 simp at h this
 have := h.1.1.1
 omega
theorem elem_none {t : ByteArray} : (elemS t).1.toList = [] ↔ ¬ (elemS t).2 = true := by
 unfold elemS
 by_cases h : ptrB t = true
 ·rw [if_pos h]
  simp only [not_true_eq_false, iff_false]
  unfold ptrB at h
  rw [Bool.and_eq_true] at h
  exact word_ne h.2
 ·rw [if_neg h]
  simp only [Bool.false_eq_true, not_false_eq_true, iff_true]
  rw [ByteArray.toList_eq]
end Go.Proofs.Ythpglaekdadehaa.Q

namespace Go.Proofs.Ythpglaekdadehaa.Q
open Go.RowKit Go.Proofs.YthpglaekdadehaaW.PrintWords Go.Proofs.YthpglaekdadehaaW.PrintLast Go.Proofs.YthpglaekdadehaaW.PrintMore
attribute [local go_sem] max2_int min2_int max_two min_two max_three min_three max_four min_four   -- for this text's walks alone
set_option linter.unusedVariables false
set_option linter.unusedSimpArgs false

/-! ### truantlaw03_has: function 24 -/
def truantlaw03_has.l0 : Nat → List ByteArray → ByteArray → Int → Option (Bool)
 | 0, _, _, _ => none
 | k + 1, x0, x1, x5 => if x5 < (x0.length : Int) then (if 0 ≤ x5 then (if (rdOf ByteArray.empty x0 x5).toList = x1.toList then (some true) else (truantlaw03_has.l0 k x0 x1 (wrap64 (x5 + 1)))) else (none)) else (some false)
def truantlaw03_has.f (k : Nat) (l0 : List ByteArray) (a1 : ByteArray) : Option (Bool) := truantlaw03_has.l0 k l0 a1 0
theorem truantlaw03_has.mono_l : ∀ k, (∀ y0 y1 y2, LeO (truantlaw03_has.l0 k y0 y1 y2) (truantlaw03_has.l0 (k + 1) y0 y1 y2))
 | 0 => fun _ _ _ r h => by simp [truantlaw03_has.l0] at h
 | k + 1 => by
  have ih0 := truantlaw03_has.mono_l k
  ·intro y0 y1 y2
   unfold truantlaw03_has.l0
   repeat' first
   | (with_reducible exact ih0 _ _ _)
   | (with_reducible exact LeO.refl _)
   | (with_reducible exact LeO.none _)
   | (with_reducible refine LeO.ite ?_ ?_)
   | (with_reducible refine LeO.bind ?_ (fun _ => ?_))
   | exact ih0 _ _ _
   | exact LeO.none _
   | refine LeO.ite ?_ ?_
   | refine LeO.bind ?_ (fun _ => ?_)
theorem truantlaw03_has.mono : ∀ a0 a1 k, LeO (truantlaw03_has.f k a0 a1) (truantlaw03_has.f (k + 1) a0 a1) := by
 intro a0 a1 k
 have ih0 := truantlaw03_has.mono_l k
 unfold truantlaw03_has.f
 repeat' first
   | (with_reducible exact ih0 _ _ _)
   | (with_reducible exact LeO.refl _)
   | (with_reducible exact LeO.none _)
   | (with_reducible refine LeO.ite ?_ ?_)
   | (with_reducible refine LeO.bind ?_ (fun _ => ?_))
   | exact ih0 _ _ _
   | exact LeO.none _
   | refine LeO.ite ?_ ?_
   | refine LeO.bind ?_ (fun _ => ?_)
set_option maxHeartbeats 8000000 in
set_option maxRecDepth 100000 in
theorem truantlaw03_has.calls (k : Nat) (A0 : Option Addr) (c0 : Nat) (l0 : List ByteArray) (a1 : ByteArray) (r : Bool) (w : World) (hr0 : Kd.C Kd.string w A0 l0.length l0) (hc0 : l0.length ≤ c0) (h : truantlaw03_has.f k l0 a1 = some r) :
  Calls Try.prog 24 #[.slice A0 l0.length c0, .string a1] w fun e w' => e = .returned (.bool r) ∧ Drawn0 w w' := by
 have HR0 := Aside0.mk hr0
 have HC0 := Aside0.mk hc0
 clear hr0 hc0
 have H : (truantlaw03_has.l0 k l0 a1 0) = some r := h
 clear h
 have H' := Aside0.mk H
 clear H
 go_enter Try.func24, Try.ntmps24
 go_wp2
 go_loopg [5] k (fun kq v5 w' => ∃ (x5_1 : Int), v5 = .int .i64 x5_1 ∧ Aside0 (truantlaw03_has.l0 kq l0 a1 x5_1 = some r) ∧ Aside0 (kq ≤ k) ∧ Drawn0 w w')
 case atStart => exact ⟨(0), (by first | rfl | (simp; done) | (simp [*]; done)), H', ⟨Nat.le_refl _⟩, by repeat (first | exact Drawn0.refl _ | apply Drawn0.step)⟩
 case round =>
  clear H'
  try clear c2
  try clear p2
  obtain ⟨x5_1, rfl, HA, HK1, ⟨m1, rfl⟩⟩ := hrel
  cases gk with
  | zero => exact absurd HA.out (by simp [truantlaw03_has.l0])
  | succ k1 =>
   have H := HA.out
   clear HA
   simp only [truantlaw03_has.l0] at H
   by_cases c3 : x5_1 < (l0.length : Int)
   ·rw [if_pos c3] at H
    have c3b0 : decide (x5_1 < (l0.length : Int)) = true := decide_eq_true c3
    clear c3
    by_cases c4 : 0 ≤ x5_1
    ·rw [if_pos c4] at H
     have c4b0 : decide (0 ≤ x5_1) = true := decide_eq_true c4
     clear c4
     by_cases c5 : (rdOf ByteArray.empty l0 x5_1).toList = a1.toList
     ·rw [if_pos c5] at H
      have c5b0 : ((rdOf ByteArray.empty l0 x5_1).toList == a1.toList) = true := beq_iff_eq.mpr c5
      have c5b1 : ((rdOf ByteArray.empty l0 x5_1).toList != a1.toList) = false := bne_eq_false_iff_eq.mpr c5
      clear c5
      obtain rfl := Option.some.inj H
      have p297 : 0 ≤ (x5_1 : Int) := of_decide_eq_true (by first | (with_reducible assumption) | assumption)
      have q297 : x5_1 < (l0.length : Int) := of_decide_eq_true (by first | (with_reducible assumption) | assumption)
      obtain ⟨ad297, e297, hx297_0⟩ := Kd.at_string HR0.out x5_1 p297 q297
      cases e297
      replace p297 := eq_true p297
      replace q297 := eq_true q297
      go_wp2
      go_ret
      exact ⟨by first | rfl | (simp; done) | (simp [*]; done), by repeat (first | exact Drawn0.refl _ | apply Drawn0.step)⟩
     ·rw [if_neg c5] at H
      have c5b0 : ((rdOf ByteArray.empty l0 x5_1).toList == a1.toList) = false := beq_eq_false_iff_ne.mpr c5
      have c5b1 : ((rdOf ByteArray.empty l0 x5_1).toList != a1.toList) = true := bne_iff_ne.mpr c5
      have H' := Aside0.mk H
      clear H
      have p297 : 0 ≤ (x5_1 : Int) := of_decide_eq_true (by first | (with_reducible assumption) | assumption)
      have q297 : x5_1 < (l0.length : Int) := of_decide_eq_true (by first | (with_reducible assumption) | assumption)
      obtain ⟨ad297, e297, hx297_0⟩ := Kd.at_string HR0.out x5_1 p297 q297
      cases e297
      replace p297 := eq_true p297
      replace q297 := eq_true q297
      go_wp2
      go_roundg k1
      case measure => have := HK1.out; omega
      case rel => exact ⟨(wrap64 (x5_1 + 1)), (by first | rfl | (simp; done) | (simp [*]; done)), H', ⟨by have := HK1.out; omega⟩, by repeat (first | exact Drawn0.refl _ | apply Drawn0.step)⟩
    ·rw [if_neg c4] at H
     exact absurd H (by simp)
   ·rw [if_neg c3] at H
    have c3b0 : decide (x5_1 < (l0.length : Int)) = false := decide_eq_false c3
    clear c3
    obtain rfl := Option.some.inj H
    go_wp2
    go_ret
    exact ⟨by first | rfl | (simp; done) | (simp [*]; done), by repeat (first | exact Drawn0.refl _ | apply Drawn0.step)⟩

end Go.Proofs.Ythpglaekdadehaa.Q
