/- What the row of DomFronts rests on, part 2: contracts of the functions that it reaches, and the plain law. -/
import Derived.Test.YtclhjalgflebfaaJDomFronts1
namespace Go.Proofs.Ytclhjalgflebfaa.Q
open Go.RowKit Go.Proofs.YtclhjalgflebfaaW.PrintWords Go.Proofs.YtclhjalgflebfaaW.PrintLast Go.Proofs.YtclhjalgflebfaaW.PrintMore
attribute [local go_sem] max2_int min2_int max_two min_two max_three min_three max_four min_four   -- for this text's walks alone
set_option linter.unusedVariables false
set_option linter.unusedSimpArgs false

/-! ### truantref09_Reached: function 18 -/
mutual
def truantref09_Reached.l0 : Nat → List Bool → Int → ByteArray → List ByteArray → ByteArray → List ByteArray → List (S58) → List (S40) → Option (List Bool)
 | 0, _, _, _, _, _, _, _, _ => none
 | k + 1, x3, x4, x345000, x345001, x345002, x345003, x345004, x345005 => if x4 < (x3.length : Int) then (truantref09_Reached.l1 k x3 x4 0 x345000 x345001 x345002 x345003 x345004 x345005) else (some x3)
def truantref09_Reached.l1 : Nat → List Bool → Int → Int → ByteArray → List ByteArray → ByteArray → List ByteArray → List (S58) → List (S40) → Option (List Bool)
 | 0, _, _, _, _, _, _, _, _, _ => none
 | k + 1, x3, x4, x5, x345000, x345001, x345002, x345003, x345004, x345005 => if x5 < (x3.length : Int) then ((truantref09_Next.f k x345000 x345001 x345002 x345003 x345004 x345005 x5).bind fun t349 => (truantref09_Reached.l2 k x3 x4 x5 t349 0 x345000 x345001 x345002 x345003 x345004 x345005)) else (truantref09_Reached.l0 k x3 (wrap64 (x4 + 1)) x345000 x345001 x345002 x345003 x345004 x345005)
def truantref09_Reached.l2 : Nat → List Bool → Int → Int → List Int → Int → ByteArray → List ByteArray → ByteArray → List ByteArray → List (S58) → List (S40) → Option (List Bool)
 | 0, _, _, _, _, _, _, _, _, _, _, _ => none
 | k + 1, x3, x4, x5, x6, x7, x345000, x345001, x345002, x345003, x345004, x345005 => if 0 ≤ x5 then (if x5 < (x3.length : Int) then (if rdOf false x3 x5 = true then (if x7 < (x6.length : Int) then (if 0 ≤ x7 then (if 0 ≤ (rd x6 x7) then (if (rd x6 x7) < (x3.length : Int) then (truantref09_Reached.l2 k (x3.set ((rd x6 x7) : Int).toNat true) x4 x5 x6 (wrap64 (x7 + 1)) x345000 x345001 x345002 x345003 x345004 x345005) else (none)) else (none)) else (none)) else (truantref09_Reached.l1 k x3 x4 (wrap64 (x5 + 1)) x345000 x345001 x345002 x345003 x345004 x345005)) else (truantref09_Reached.l1 k x3 x4 (wrap64 (x5 + 1)) x345000 x345001 x345002 x345003 x345004 x345005)) else (none)) else (none)
end
def truantref09_Reached.f (k : Nat) (a0_0 : ByteArray) (l0_1 : List ByteArray) (a0_2 : ByteArray) (l0_3 : List ByteArray) (l0_4 : List (S58)) (l0_5 : List (S40)) : Option (List Bool) := if 0 ≤ (l0_5.length : Int) then (if ((l0_5.length : Int) : Int).toNat ≤ 281474976710656 then ((some (List.replicate ((l0_5.length : Int) : Int).toNat false : List Bool)).bind fun y345 => (if (y345.length : Int) = 0 then (some y345) else (if 0 < (y345.length : Int) then (truantref09_Reached.l0 k (y345.set (0 : Int).toNat true) 0 a0_0 l0_1 a0_2 l0_3 l0_4 l0_5) else (none)))) else (none)) else (none)
theorem truantref09_Reached.mono_l : ∀ k, (∀ y0 y1 y2 y3 y4 y5 y6 y7, LeO (truantref09_Reached.l0 k y0 y1 y2 y3 y4 y5 y6 y7) (truantref09_Reached.l0 (k + 1) y0 y1 y2 y3 y4 y5 y6 y7)) ∧ (∀ y0 y1 y2 y3 y4 y5 y6 y7 y8, LeO (truantref09_Reached.l1 k y0 y1 y2 y3 y4 y5 y6 y7 y8) (truantref09_Reached.l1 (k + 1) y0 y1 y2 y3 y4 y5 y6 y7 y8)) ∧ (∀ y0 y1 y2 y3 y4 y5 y6 y7 y8 y9 y10, LeO (truantref09_Reached.l2 k y0 y1 y2 y3 y4 y5 y6 y7 y8 y9 y10) (truantref09_Reached.l2 (k + 1) y0 y1 y2 y3 y4 y5 y6 y7 y8 y9 y10))
 | 0 => ⟨fun _ _ _ _ _ _ _ _ r h => by simp [truantref09_Reached.l0] at h, fun _ _ _ _ _ _ _ _ _ r h => by simp [truantref09_Reached.l1] at h, fun _ _ _ _ _ _ _ _ _ _ _ r h => by simp [truantref09_Reached.l2] at h⟩
 | k + 1 => by
  obtain ⟨ih0, ih1, ih2⟩ := truantref09_Reached.mono_l k
  refine ⟨?_, ?_, ?_⟩
  ·intro y0 y1 y2 y3 y4 y5 y6 y7
   unfold truantref09_Reached.l0
   repeat' first
   | (with_reducible exact ih0 _ _ _ _ _ _ _ _)
   | (with_reducible exact ih1 _ _ _ _ _ _ _ _ _)
   | (with_reducible exact ih2 _ _ _ _ _ _ _ _ _ _ _)
   | (with_reducible exact truantref09_Next.mono _ _ _ _ _ _ _ _)
   | (with_reducible exact LeO.refl _)
   | (with_reducible exact LeO.none _)
   | (with_reducible refine LeO.ite ?_ ?_)
   | (with_reducible refine LeO.bind ?_ (fun _ => ?_))
   | exact ih0 _ _ _ _ _ _ _ _
   | exact ih1 _ _ _ _ _ _ _ _ _
   | exact ih2 _ _ _ _ _ _ _ _ _ _ _
   | exact truantref09_Next.mono _ _ _ _ _ _ _ _
   | exact LeO.none _
   | refine LeO.ite ?_ ?_
   | refine LeO.bind ?_ (fun _ => ?_)
  ·intro y0 y1 y2 y3 y4 y5 y6 y7 y8
   unfold truantref09_Reached.l1
   repeat' first
   | (with_reducible exact ih0 _ _ _ _ _ _ _ _)
   | (with_reducible exact ih1 _ _ _ _ _ _ _ _ _)
   | (with_reducible exact ih2 _ _ _ _ _ _ _ _ _ _ _)
   | (with_reducible exact truantref09_Next.mono _ _ _ _ _ _ _ _)
   | (with_reducible exact LeO.refl _)
   | (with_reducible exact LeO.none _)
   | (with_reducible refine LeO.ite ?_ ?_)
   | (with_reducible refine LeO.bind ?_ (fun _ => ?_))
   | exact ih0 _ _ _ _ _ _ _ _
   | exact ih1 _ _ _ _ _ _ _ _ _
   | exact ih2 _ _ _ _ _ _ _ _ _ _ _
   | exact truantref09_Next.mono _ _ _ _ _ _ _ _
   | exact LeO.none _
   | refine LeO.ite ?_ ?_
   | refine LeO.bind ?_ (fun _ => ?_)
  ·intro y0 y1 y2 y3 y4 y5 y6 y7 y8 y9 y10
   unfold truantref09_Reached.l2
   repeat' first
   | (with_reducible exact ih0 _ _ _ _ _ _ _ _)
   | (with_reducible exact ih1 _ _ _ _ _ _ _ _ _)
   | (with_reducible exact ih2 _ _ _ _ _ _ _ _ _ _ _)
   | (with_reducible exact truantref09_Next.mono _ _ _ _ _ _ _ _)
   | (with_reducible exact LeO.refl _)
   | (with_reducible exact LeO.none _)
   | (with_reducible refine LeO.ite ?_ ?_)
   | (with_reducible refine LeO.bind ?_ (fun _ => ?_))
   | exact ih0 _ _ _ _ _ _ _ _
   | exact ih1 _ _ _ _ _ _ _ _ _
   | exact ih2 _ _ _ _ _ _ _ _ _ _ _
   | exact truantref09_Next.mono _ _ _ _ _ _ _ _
   | exact LeO.none _
   | refine LeO.ite ?_ ?_
   | refine LeO.bind ?_ (fun _ => ?_)
theorem truantref09_Reached.mono : ∀ a0 a1 a2 a3 a4 a5 k, LeO (truantref09_Reached.f k a0 a1 a2 a3 a4 a5) (truantref09_Reached.f (k + 1) a0 a1 a2 a3 a4 a5) := by
 intro a0 a1 a2 a3 a4 a5 k
 obtain ⟨ih0, ih1, ih2⟩ := truantref09_Reached.mono_l k
 unfold truantref09_Reached.f
 repeat' first
   | (with_reducible exact ih0 _ _ _ _ _ _ _ _)
   | (with_reducible exact ih1 _ _ _ _ _ _ _ _ _)
   | (with_reducible exact ih2 _ _ _ _ _ _ _ _ _ _ _)
   | (with_reducible exact truantref09_Next.mono _ _ _ _ _ _ _ _)
   | (with_reducible exact LeO.refl _)
   | (with_reducible exact LeO.none _)
   | (with_reducible refine LeO.ite ?_ ?_)
   | (with_reducible refine LeO.bind ?_ (fun _ => ?_))
   | exact ih0 _ _ _ _ _ _ _ _
   | exact ih1 _ _ _ _ _ _ _ _ _
   | exact ih2 _ _ _ _ _ _ _ _ _ _ _
   | exact truantref09_Next.mono _ _ _ _ _ _ _ _
   | exact LeO.none _
   | refine LeO.ite ?_ ?_
   | refine LeO.bind ?_ (fun _ => ?_)
set_option maxHeartbeats 8000000 in
set_option maxRecDepth 100000 in
theorem truantref09_Reached.calls (k : Nat) (a0_0 : ByteArray) (A0_1 : Option Addr) (c0_1 : Nat) (l0_1 : List ByteArray) (a0_2 : ByteArray) (A0_3 : Option Addr) (c0_3 : Nat) (l0_3 : List ByteArray) (A0_4 : Option Addr) (c0_4 : Nat) (l0_4 : List (S58)) (A0_5 : Option Addr) (c0_5 : Nat) (l0_5 : List (S40)) (r : List Bool) (w : World) (hr0_1 : Kd.C Kd.string w A0_1 l0_1.length l0_1) (hc0_1 : l0_1.length ≤ c0_1) (hr0_3 : Kd.C Kd.string w A0_3 l0_3.length l0_3) (hc0_3 : l0_3.length ≤ c0_3) (hr0_4 : Kd.C k58 w A0_4 l0_4.length l0_4) (hc0_4 : l0_4.length ≤ c0_4) (hr0_5 : Kd.C k40 w A0_5 l0_5.length l0_5) (hc0_5 : l0_5.length ≤ c0_5) (h : truantref09_Reached.f k a0_0 l0_1 a0_2 l0_3 l0_4 l0_5 = some r) :
  Calls Try.prog 18 #[.agg #[.string a0_0, .slice A0_1 l0_1.length c0_1, .string a0_2, .slice A0_3 l0_3.length c0_3, .slice A0_4 l0_4.length c0_4, .slice A0_5 l0_5.length c0_5]] w fun e w' => ∃ v0_ : Value, e = .returned (v0_) ∧ Kd.R Kd.bool 4 w' w.heap.size (fun _ => True) v0_ r ∧ Below w.heap.size w w' := by
 have hu26 := Try.underlying26
 have HR0_1 := Aside0.mk hr0_1
 have HC0_1 := Aside0.mk hc0_1
 clear hr0_1 hc0_1
 have HR0_3 := Aside0.mk hr0_3
 have HC0_3 := Aside0.mk hc0_3
 clear hr0_3 hc0_3
 have HR0_4 := Aside0.mk hr0_4
 have HC0_4 := Aside0.mk hc0_4
 clear hr0_4 hc0_4
 have HR0_5 := Aside0.mk hr0_5
 have HC0_5 := Aside0.mk hc0_5
 clear hr0_5 hc0_5
 have HB := Aside0.mk (Below.refl w.heap.size w)
 have H : (if 0 ≤ (l0_5.length : Int) then (if ((l0_5.length : Int) : Int).toNat ≤ 281474976710656 then ((some (List.replicate ((l0_5.length : Int) : Int).toNat false : List Bool)).bind fun y345 => (if (y345.length : Int) = 0 then (some y345) else (if 0 < (y345.length : Int) then (truantref09_Reached.l0 k (y345.set (0 : Int).toNat true) 0 a0_0 l0_1 a0_2 l0_3 l0_4 l0_5) else (none)))) else (none)) else (none)) = some r := h
 clear h
 by_cases c2 : 0 ≤ (l0_5.length : Int)
 ·rw [if_pos c2] at H
  have c2b0 := eq_true c2
  have c2b1 : decide (0 ≤ (l0_5.length : Int)) = true := decide_eq_true c2
  clear c2
  by_cases c3 : ((l0_5.length : Int) : Int).toNat ≤ 281474976710656
  ·rw [if_pos c3] at H
   have c3b0 := eq_true c3
   have c3b1 : decide (((l0_5.length : Int) : Int).toNat ≤ 281474976710656) = true := decide_eq_true c3
   clear c3
   obtain ⟨y345, hy345⟩ : ∃ y_ : List Bool, y_ = (List.replicate ((l0_5.length : Int) : Int).toNat false) := ⟨_, rfl⟩
   replace H : (if (y345.length : Int) = 0 then (some y345) else (if 0 < (y345.length : Int) then (truantref09_Reached.l0 k (y345.set (0 : Int).toNat true) 0 a0_0 l0_1 a0_2 l0_3 l0_4 l0_5) else (none))) = some r := by first | (rw [hy345]; with_reducible exact H) | (have H2_ := (Option.bind_some _ _).symm.trans H; rw [hy345]; with_reducible exact H2_) | (have H2_ := (Option.bind_some _ _).symm.trans H; with_reducible exact H2_) | with_reducible exact H | (rw [hy345]; exact H) | exact H
   have Ny345 := Aside0.mk hy345
   clear hy345
   by_cases c4 : (y345.length : Int) = 0
   ·rw [if_pos c4] at H
    have c4b0 : ((y345.length : Int) == 0) = true := beq_iff_eq.mpr c4
    have c4b1 : ((y345.length : Int) != 0) = false := bne_eq_false_iff_eq.mpr c4
    clear c4
    obtain rfl := Option.some.inj H
    go_enter Try.func18, Try.ntmps18
    go_wp2_with (first | ((with_reducible refine gate_dst (N := 1) rfl ?_); (try (refine gate_guard (by rfl) ?_; dsimp only)); refine box_event ?hg (N := 1) ?hd (cs := #[.string a0_0, .slice A0_1 l0_1.length c0_1, .string a0_2, .slice A0_3 l0_3.length c0_3, .slice A0_4 l0_4.length c0_4, .slice A0_5 l0_5.length c0_5]) (t := 26) ?hr ?_; (case hd => rfl); (case hg => rfl); (case hr => first | (go_simp; done) | (go_simp; rfl)); intro gb344 hg w5 hbox hb; have n0_ := Aside0.mk (below_step (by repeat (first | (with_reducible first | exact HB.out | apply below_alloc | apply pw_below_drewN | apply below_drew1) | exact HB.out)) hb); have n1_ := Aside0.mk (hbox); have n2_ := Aside0.mk ((by rw [hg]; exact (below_size (by repeat (first | (with_reducible first | exact HB.out | apply below_alloc | apply pw_below_drewN | apply below_drew1) | exact HB.out))) : w.heap.size ≤ gb344)); have n3_ := Aside0.mk ((by rw [hg]; exact (below_size (by repeat (first | (with_reducible first | exact HB.out | apply below_alloc | apply pw_below_drewN | apply below_drew1) | exact HB.out))) : w.heap.size ≤ gb344)); clear HB; have HB := n0_; have BK344 := n1_; have GW344 := n2_; have GE344 := n3_; clear n0_ n1_ n2_ n3_; clear hb hbox hg; have hcz6_0 : w5.cell? ⟨gb344, 0, none⟩ = some (.string a0_0) := (blk_cell BK344.out 0).trans rfl; have hcz6_1 : w5.cell? ⟨gb344, 1, none⟩ = some (.slice A0_1 l0_1.length c0_1) := (blk_cell BK344.out 1).trans rfl; have hcz6_2 : w5.cell? ⟨gb344, 2, none⟩ = some (.string a0_2) := (blk_cell BK344.out 2).trans rfl; have hcz6_3 : w5.cell? ⟨gb344, 3, none⟩ = some (.slice A0_3 l0_3.length c0_3) := (blk_cell BK344.out 3).trans rfl; have hcz6_4 : w5.cell? ⟨gb344, 4, none⟩ = some (.slice A0_4 l0_4.length c0_4) := (blk_cell BK344.out 4).trans rfl; have hcz6_5 : w5.cell? ⟨gb344, 5, none⟩ = some (.slice A0_5 l0_5.length c0_5) := (blk_cell BK344.out 5).trans rfl; have hfz6_0 := blk_frozen BK344.out 0; have hfz6_1 := blk_frozen BK344.out 1; have hfz6_2 := blk_frozen BK344.out 2; have hfz6_3 := blk_frozen BK344.out 3; have hfz6_4 := blk_frozen BK344.out 4; have hfz6_5 := blk_frozen BK344.out 5) | ((with_reducible refine gate_dst (N := 11) rfl ?_); (try (refine gate_guard (by rfl) ?_; dsimp only)); refine Kd.R_make Kd.bool _ 4 rfl (N := 11) rfl 31 _ _ rfl (l0_5.length : Int) rfl rfl Try.underlying31 (.bool false) 1 info4 rfl (by decide) (by omega) false (ok := fun _ => True) (okp := fun _ => True) rfl (fun _ hk => hk) trivial (of_decide_eq_true (by first | (with_reducible assumption) | assumption)) (Nat.le_trans (Nat.mul_le_mul_right _ (of_decide_eq_true (by first | (with_reducible assumption) | assumption) : (l0_5.length : Int).toNat ≤ 281474976710656)) (by omega)) (Below.refl _ _) (Nat.le_refl _) ?_; intro v346 w7 ho8 hb hg_ hnew_; clear hg_ hnew_; (first | rw [← Ny345.out] at ho8 | (simp only [Int.reduceToNat] at ho8; rw [← Ny345.out] at ho8)); have n0_ := Aside0.mk (Kd.R_lower ho8 (below_size (by repeat (first | (with_reducible first | exact HB.out | apply below_alloc | apply pw_below_drewN | apply below_drew1 | refine below_set ?_ GE344.out) | exact HB.out)))); have n1_ := Aside0.mk (blk_below (g := gb344) (o := .cells #[.string a0_0, .slice A0_1 l0_1.length c0_1, .string a0_2, .slice A0_3 l0_3.length c0_3, .slice A0_4 l0_4.length c0_4, .slice A0_5 l0_5.length c0_5] 26 (0, 0)) (by (with_reducible repeat (first | refine blk_drewN ?_ _ | refine blk_drew ?_ | refine blk_alloc ?_ _)); exact BK344.out) hb); have n2_ := Aside0.mk (below_step (by repeat (first | (with_reducible first | exact HB.out | apply below_alloc | apply pw_below_drewN | apply below_drew1 | refine below_set ?_ GE344.out) | exact HB.out)) hb); clear BK344; clear HB; have HO347 := n0_; have BK344 := n1_; have HB := n2_; clear n0_ n1_ n2_; clear hb ho8; obtain ⟨Ao9, co9, eo9⟩ := Kd.R_slice HO347.out; subst eo9))
    go_ret
    exact ⟨_, by first | rfl | (simp [errW_none, errW_some] <;> rfl) | (simp [*, errW_none, errW_some] <;> rfl), by (with_reducible repeat (first | apply Kd.R_alloc | apply Kd.R_drewN | apply Kd.R_drew)); exact HO347.out, by repeat (first | (with_reducible first | exact HB.out | apply below_alloc | apply pw_below_drewN | apply below_drew1 | refine below_set ?_ GE344.out) | exact HB.out)⟩
   ·rw [if_neg c4] at H
    have c4b0 : ((y345.length : Int) == 0) = false := beq_eq_false_iff_ne.mpr c4
    have c4b1 : ((y345.length : Int) != 0) = true := bne_iff_ne.mpr c4
    have c4b2 : ¬ (y345 = []) := fun h_ => c4 (by rw [h_]; rfl)
    by_cases c10 : 0 < (y345.length : Int)
    ·rw [if_pos c10] at H
     have c10b0 : decide (0 < (y345.length : Int)) = true := decide_eq_true c10
     have c10b1 : decide (0 < y345.length) = true := decide_eq_true (by omega)
     clear c10
     obtain ⟨y348, hy348⟩ : ∃ y_ : List Bool, y_ = (y345.set (0 : Int).toNat true) := ⟨_, rfl⟩
     replace H : (truantref09_Reached.l0 k y348 0 a0_0 l0_1 a0_2 l0_3 l0_4 l0_5) = some r := by first | (rw [hy348]; with_reducible exact H) | (have H2_ := (Option.bind_some _ _).symm.trans H; rw [hy348]; with_reducible exact H2_) | (have H2_ := (Option.bind_some _ _).symm.trans H; with_reducible exact H2_) | with_reducible exact H | (rw [hy348]; exact H) | exact H
     have Ny348 := Aside0.mk hy348
     clear hy348
     have H' := Aside0.mk H
     clear H
     go_enter Try.func18, Try.ntmps18
     go_wp2_with (first | ((with_reducible refine gate_dst (N := 1) rfl ?_); (try (refine gate_guard (by rfl) ?_; dsimp only)); refine box_event ?hg (N := 1) ?hd (cs := #[.string a0_0, .slice A0_1 l0_1.length c0_1, .string a0_2, .slice A0_3 l0_3.length c0_3, .slice A0_4 l0_4.length c0_4, .slice A0_5 l0_5.length c0_5]) (t := 26) ?hr ?_; (case hd => rfl); (case hg => rfl); (case hr => first | (go_simp; done) | (go_simp; rfl)); intro gb344 hg w12 hbox hb; have n0_ := Aside0.mk (below_step (by repeat (first | (with_reducible first | exact HB.out | apply below_alloc | apply pw_below_drewN | apply below_drew1) | exact HB.out)) hb); have n1_ := Aside0.mk (hbox); have n2_ := Aside0.mk ((by rw [hg]; exact (below_size (by repeat (first | (with_reducible first | exact HB.out | apply below_alloc | apply pw_below_drewN | apply below_drew1) | exact HB.out))) : w.heap.size ≤ gb344)); have n3_ := Aside0.mk ((by rw [hg]; exact (below_size (by repeat (first | (with_reducible first | exact HB.out | apply below_alloc | apply pw_below_drewN | apply below_drew1) | exact HB.out))) : w.heap.size ≤ gb344)); clear HB; have HB := n0_; have BK344 := n1_; have GW344 := n2_; have GE344 := n3_; clear n0_ n1_ n2_ n3_; clear hb hbox hg; have hcz13_0 : w12.cell? ⟨gb344, 0, none⟩ = some (.string a0_0) := (blk_cell BK344.out 0).trans rfl; have hcz13_1 : w12.cell? ⟨gb344, 1, none⟩ = some (.slice A0_1 l0_1.length c0_1) := (blk_cell BK344.out 1).trans rfl; have hcz13_2 : w12.cell? ⟨gb344, 2, none⟩ = some (.string a0_2) := (blk_cell BK344.out 2).trans rfl; have hcz13_3 : w12.cell? ⟨gb344, 3, none⟩ = some (.slice A0_3 l0_3.length c0_3) := (blk_cell BK344.out 3).trans rfl; have hcz13_4 : w12.cell? ⟨gb344, 4, none⟩ = some (.slice A0_4 l0_4.length c0_4) := (blk_cell BK344.out 4).trans rfl; have hcz13_5 : w12.cell? ⟨gb344, 5, none⟩ = some (.slice A0_5 l0_5.length c0_5) := (blk_cell BK344.out 5).trans rfl; have hfz13_0 := blk_frozen BK344.out 0; have hfz13_1 := blk_frozen BK344.out 1; have hfz13_2 := blk_frozen BK344.out 2; have hfz13_3 := blk_frozen BK344.out 3; have hfz13_4 := blk_frozen BK344.out 4; have hfz13_5 := blk_frozen BK344.out 5) | ((with_reducible refine gate_dst (N := 11) rfl ?_); (try (refine gate_guard (by rfl) ?_; dsimp only)); refine Kd.R_make Kd.bool _ 4 rfl (N := 11) rfl 31 _ _ rfl (l0_5.length : Int) rfl rfl Try.underlying31 (.bool false) 1 info4 rfl (by decide) (by omega) false (ok := fun _ => True) (okp := fun _ => True) rfl (fun _ hk => hk) trivial (of_decide_eq_true (by first | (with_reducible assumption) | assumption)) (Nat.le_trans (Nat.mul_le_mul_right _ (of_decide_eq_true (by first | (with_reducible assumption) | assumption) : (l0_5.length : Int).toNat ≤ 281474976710656)) (by omega)) (Below.refl _ _) (Nat.le_refl _) ?_; intro v346 w14 ho15 hb hg_ hnew_; clear hg_ hnew_; (first | rw [← Ny345.out] at ho15 | (simp only [Int.reduceToNat] at ho15; rw [← Ny345.out] at ho15)); have n0_ := Aside0.mk (Kd.R_lower ho15 (below_size (by repeat (first | (with_reducible first | exact HB.out | apply below_alloc | apply pw_below_drewN | apply below_drew1 | refine below_set ?_ GE344.out) | exact HB.out)))); have n1_ := Aside0.mk (blk_below (g := gb344) (o := .cells #[.string a0_0, .slice A0_1 l0_1.length c0_1, .string a0_2, .slice A0_3 l0_3.length c0_3, .slice A0_4 l0_4.length c0_4, .slice A0_5 l0_5.length c0_5] 26 (0, 0)) (by (with_reducible repeat (first | refine blk_drewN ?_ _ | refine blk_drew ?_ | refine blk_alloc ?_ _)); exact BK344.out) hb); have n2_ := Aside0.mk (below_step (by repeat (first | (with_reducible first | exact HB.out | apply below_alloc | apply pw_below_drewN | apply below_drew1 | refine below_set ?_ GE344.out) | exact HB.out)) hb); clear BK344; clear HB; have HO347 := n0_; have BK344 := n1_; have HB := n2_; clear n0_ n1_ n2_; clear hb ho15; obtain ⟨Ao16, co16, eo16⟩ := Kd.R_slice HO347.out; subst eo16; have p11 : 0 ≤ (0 : Int) := (by omega); have q11 : (0 : Int) < ((y345.length : Int) : Int) := of_decide_eq_true (by first | (with_reducible assumption) | assumption); have qi11 : (0 < y345.length) = True := eq_true (by omega); obtain ⟨go11, co11, eo11, gb11, gl11, cl11, HG11⟩ := Kd.R_form HO347.out (by omega); (first | cases eo11 | (injection eo11 with ea_ en_ ec_; (first | subst ea_ | (injection ea_ with ea_; subst ea_)); subst ec_; clear en_)); have GB11 := Aside0.mk gb11; have GG11 := Aside0.mk HG11; clear gb11 gl11 HG11; obtain ⟨hx11_0, hf11_0⟩ := Kd.R_celln false HO347.out (0 : Int) p11 q11; (try rw [show ((0 : Int)).toNat = 0 from rfl] at hx11_0); (try simp only [Nat.reduceMul, Nat.zero_mul, Nat.zero_add, Nat.reduceAdd] at hx11_0); (try rw [show ((0 : Int)).toNat = 0 from rfl] at hf11_0); (try simp only [Nat.reduceMul, Nat.zero_mul, Nat.zero_add, Nat.reduceAdd] at hf11_0); replace p11 := eq_true p11; replace q11 := eq_true q11; obtain ⟨hy17_, hz17_⟩ := Kd.R_celln false HO347.out (0 : Int) (by omega) (of_decide_eq_true (by first | (with_reducible assumption) | assumption)); (try simp only [Int.reduceToNat, Int.toNat_zero, Int.toNat_ofNat, Nat.reduceMul, Nat.zero_mul, Nat.zero_add] at hy17_ hz17_); (try rw [show ((0 : Int)).toNat = 0 from rfl] at hy17_); (try rw [show ((0 : Int)).toNat = 0 from rfl] at hz17_); have HP17 := Kd.R_putg HO347.out (0 : Int) true) | ((with_reducible refine gate_store (t := 4) (p := 17) rfl ?_); refine store_event (t := 4) (p := 17) (v := ?vo_w18) (w1 := (w14.setCell ⟨go11, (0 : Int).toNat, none⟩ (.bool true))) ?hg ?ho ?hn ?hr ?_; (case ho => rfl); (case hg => rfl); (case hn => rfl); (case hr => first | (go_simp; done) | (go_simp; rfl)); intro w18 hw; have hg : w14.grownBy w18 (some go11) := (by rw [hw]; exact HP17.2); have hp_ : Kd.R Kd.bool 4 w18 w.heap.size (fun _ => True) (.slice (some ⟨go11, 0, none⟩) y345.length co16) y348 := (by rw [hw, Ny348.out]; exact HP17.1); clear HP17; have n0_ := Aside0.mk (blk_grown (g := gb344) (o := .cells #[.string a0_0, .slice A0_1 l0_1.length c0_1, .string a0_2, .slice A0_3 l0_3.length c0_3, .slice A0_4 l0_4.length c0_4, .slice A0_5 l0_5.length c0_5] 26 (0, 0)) (by (with_reducible repeat (first | refine blk_drewN ?_ _ | refine blk_drew ?_ | refine blk_alloc ?_ _)); exact BK344.out) hg (Kd.R_ne HO347.out BK344.out (by decide))); have n1_ := Aside0.mk (hp_); have n2_ := Aside0.mk ((by rw [hw]; exact below_set (HB.out) GB11.out : Below w.heap.size w w18)); clear BK344; clear HO347; clear HB; have BK344 := n0_; have HO347 := n1_; have HB := n2_; clear n0_ n1_ n2_; clear hg hw hp_))
     go_loopg [4] k (fun kq v4 w' => ∃ (x3_1 : List Bool) (x4_1 : Int), v4 = .int .i64 x4_1 ∧ Aside0 (truantref09_Reached.l0 kq x3_1 x4_1 a0_0 l0_1 a0_2 l0_3 l0_4 l0_5 = some r) ∧ Aside0 (kq ≤ k) ∧ Aside0 (Kd.R Kd.bool 4 w' w.heap.size (fun _ => True) (.slice (some ⟨go11, 0, none⟩) y345.length co16) x3_1) ∧ Aside0 (w'.heap[gb344]? = some (.cells #[.string a0_0, (.slice A0_1 l0_1.length c0_1), .string a0_2, (.slice A0_3 l0_3.length c0_3), (.slice A0_4 l0_4.length c0_4), (.slice A0_5 l0_5.length c0_5)] 26 (0, 0))) ∧ Aside0 (Below w.heap.size w w'))
     case atStart => exact ⟨(y348), (0), (by first | rfl | (simp; done) | (simp [*]; done)), H', ⟨Nat.le_refl _⟩, ⟨by (with_reducible repeat (first | apply Kd.R_alloc | apply Kd.R_drewN | apply Kd.R_drew)); exact HO347.out⟩, ⟨by (with_reducible repeat (first | refine blk_drewN ?_ _ | refine blk_drew ?_ | refine blk_alloc ?_ _)); exact BK344.out⟩, ⟨by repeat (first | (with_reducible first | exact HB.out | apply below_alloc | apply pw_below_drewN | apply below_drew1 | refine below_set ?_ GE344.out) | exact HB.out)⟩⟩
     case round =>
      clear H'
      try clear c1
      try clear p1
      try clear q1
      try clear hx1
      try clear qi1
      try clear hf1
      try clear c2
      try clear c2b0
      try clear c2b1
      try clear p2
      try clear c3
      try clear c3b0
      try clear c3b1
      try clear c4
      try clear c4b0
      try clear c4b1
      try clear c4b2
      try clear c10
      try clear c10b0
      try clear c10b1
      try clear p11
      try clear q11
      try clear hx11
      try clear qi11
      try clear hf11
      try clear c18
      try clear hcz13_0
      try clear hcz13_1
      try clear hcz13_2
      try clear hcz13_3
      try clear hcz13_4
      try clear hcz13_5
      try clear hcz6_0
      try clear hcz6_1
      try clear hcz6_2
      try clear hcz6_3
      try clear hcz6_4
      try clear hcz6_5
      try clear hfz13_0
      try clear hfz13_1
      try clear hfz13_2
      try clear hfz13_3
      try clear hfz13_4
      try clear hfz13_5
      try clear hfz6_0
      try clear hfz6_1
      try clear hfz6_2
      try clear hfz6_3
      try clear hfz6_4
      try clear hfz6_5
      try clear hx11_0
      try clear p11
      try clear q11
      obtain ⟨x3_1, x4_1, rfl, HA, HK1, HO_3, BK344, HB⟩ := hrel
      have hl3_1 := (Kd.R_reads' HO_3.out).1
      rw [hl3_1] at HO_3
      (try simp only [hl3_1])
      (try simp only [hl3_1] at BK344)
      cases gk with
      | zero => exact absurd HA.out (by simp [truantref09_Reached.l0])
      | succ k1 =>
       have H := HA.out
       clear HA
       simp only [truantref09_Reached.l0] at H
       by_cases c19 : x4_1 < (x3_1.length : Int)
       ·rw [if_pos c19] at H
        have c19b0 : decide (x4_1 < (x3_1.length : Int)) = true := decide_eq_true c19
        clear c19
        have H' := Aside0.mk H
        clear H
        go_wp2
        go_loopg [5] k1 (fun kq v5 w' => ∃ (x3_2 : List Bool) (x5_2 : Int), v5 = .int .i64 x5_2 ∧ Aside0 (truantref09_Reached.l1 kq x3_2 x4_1 x5_2 a0_0 l0_1 a0_2 l0_3 l0_4 l0_5 = some r) ∧ Aside0 (kq ≤ k1) ∧ Aside0 (Kd.R Kd.bool 4 w' w.heap.size (fun _ => True) (.slice (some ⟨go11, 0, none⟩) x3_1.length co16) x3_2) ∧ Aside0 (w'.heap[gb344]? = some (.cells #[.string a0_0, (.slice A0_1 l0_1.length c0_1), .string a0_2, (.slice A0_3 l0_3.length c0_3), (.slice A0_4 l0_4.length c0_4), (.slice A0_5 l0_5.length c0_5)] 26 (0, 0))) ∧ Aside0 (Below w.heap.size w w'))
        case atStart => exact ⟨(x3_1), (0), (by first | rfl | (simp; done) | (simp [*]; done)), H', ⟨Nat.le_refl _⟩, ⟨by (try simp only [hl3_1]); (with_reducible repeat (first | apply Kd.R_alloc | apply Kd.R_drewN | apply Kd.R_drew)); exact HO_3.out⟩, ⟨by (try simp only [hl3_1]); (with_reducible repeat (first | refine blk_drewN ?_ _ | refine blk_drew ?_ | refine blk_alloc ?_ _)); exact BK344.out⟩, ⟨by repeat (first | (with_reducible first | exact HB.out | apply below_alloc | apply pw_below_drewN | apply below_drew1 | refine below_set ?_ GE344.out) | exact HB.out)⟩⟩
        case round =>
         clear H'
         try clear c1
         try clear p1
         try clear q1
         try clear hx1
         try clear qi1
         try clear hf1
         try clear c2
         try clear c2b0
         try clear c2b1
         try clear p2
         try clear c3
         try clear c3b0
         try clear c3b1
         try clear c4
         try clear c4b0
         try clear c4b1
         try clear c4b2
         try clear c10
         try clear c10b0
         try clear c10b1
         try clear p11
         try clear q11
         try clear hx11
         try clear qi11
         try clear hf11
         try clear c18
         try clear c19
         try clear c19b0
         try clear hcz13_0
         try clear hcz13_1
         try clear hcz13_2
         try clear hcz13_3
         try clear hcz13_4
         try clear hcz13_5
         try clear hcz6_0
         try clear hcz6_1
         try clear hcz6_2
         try clear hcz6_3
         try clear hcz6_4
         try clear hcz6_5
         try clear hfz13_0
         try clear hfz13_1
         try clear hfz13_2
         try clear hfz13_3
         try clear hfz13_4
         try clear hfz13_5
         try clear hfz6_0
         try clear hfz6_1
         try clear hfz6_2
         try clear hfz6_3
         try clear hfz6_4
         try clear hfz6_5
         try clear hx11_0
         try clear p1
         try clear p11
         try clear p2
         try clear q1
         try clear q11
         obtain ⟨x3_2, x5_2, rfl, HA, HK2, HO_3, BK344, HB⟩ := hrel
         have hl3_2 := (Kd.R_reads' HO_3.out).1
         rw [hl3_2] at HO_3
         (try simp only [hl3_2])
         (try simp only [hl3_2] at BK344)
         cases gk with
         | zero => exact absurd HA.out (by simp [truantref09_Reached.l1])
         | succ k2 =>
          have H := HA.out
          clear HA
          simp only [truantref09_Reached.l1] at H
          by_cases c20 : x5_2 < (x3_2.length : Int)
          ·rw [if_pos c20] at H
           have c20b0 : decide (x5_2 < (x3_2.length : Int)) = true := decide_eq_true c20
           clear c20
           replace H := Option.bind_eq_some_iff.mp H
           obtain ⟨t349, A210, H⟩ := H
           replace H : (truantref09_Reached.l2 k2 x3_2 x4_1 x5_2 t349 0 a0_0 l0_1 a0_2 l0_3 l0_4 l0_5) = some r := H
           have A21 := Aside0.mk A210
           clear A210
           have H' := Aside0.mk H
           clear H
           have hcz22_0 : wr.cell? ⟨gb344, 0, none⟩ = some (.string a0_0) := (blk_cell BK344.out 0).trans rfl
           have hcz22_1 : wr.cell? ⟨gb344, 1, none⟩ = some (.slice A0_1 l0_1.length c0_1) := (blk_cell BK344.out 1).trans rfl
           have hcz22_2 : wr.cell? ⟨gb344, 2, none⟩ = some (.string a0_2) := (blk_cell BK344.out 2).trans rfl
           have hcz22_3 : wr.cell? ⟨gb344, 3, none⟩ = some (.slice A0_3 l0_3.length c0_3) := (blk_cell BK344.out 3).trans rfl
           have hcz22_4 : wr.cell? ⟨gb344, 4, none⟩ = some (.slice A0_4 l0_4.length c0_4) := (blk_cell BK344.out 4).trans rfl
           have hcz22_5 : wr.cell? ⟨gb344, 5, none⟩ = some (.slice A0_5 l0_5.length c0_5) := (blk_cell BK344.out 5).trans rfl
           have hfz22_0 := blk_frozen BK344.out 0
           have hfz22_1 := blk_frozen BK344.out 1
           have hfz22_2 := blk_frozen BK344.out 2
           have hfz22_3 := blk_frozen BK344.out 3
           have hfz22_4 := blk_frozen BK344.out 4
           have hfz22_5 := blk_frozen BK344.out 5
           go_wp2_with (first | ((with_reducible refine gate_callee (f := 21) rfl ?_); refine goesL_ (some 32) rfl rfl Try.func21 (by kernel_rfl) rfl #[.agg #[.string a0_0, .slice A0_1 l0_1.length c0_1, .string a0_2, .slice A0_3 l0_3.length c0_3, .slice A0_4 l0_4.length c0_4, .slice A0_5 l0_5.length c0_5], .int .i64 x5_2] rfl (by (try simp only [List.map_toArray, List.map_cons, List.map_nil]); first | done | rfl | (simp only [List.length_drop, List.length_take]; rfl)) ?_; (with_reducible refine (truantref09_Next.calls k2 a0_0 _ _ l0_1 a0_2 _ _ l0_3 _ _ l0_4 _ _ l0_5 x5_2 t349 _ ?side1 ?side2 ?side3 ?side4 ?side5 ?side6 ?side7 ?side8 A21.out).mono ?_); (case side1 => repeat (first | exact (Kd.C_below HR0_1.out HB.out) | (with_reducible refine Kd.C_alloc ?_ _) | (with_reducible refine Kd.C_drewN ?_ _) | (with_reducible refine Kd.C_drew ?_))); (case side2 => exact HC0_1.out); (case side3 => repeat (first | exact (Kd.C_below HR0_3.out HB.out) | (with_reducible refine Kd.C_alloc ?_ _) | (with_reducible refine Kd.C_drewN ?_ _) | (with_reducible refine Kd.C_drew ?_))); (case side4 => exact HC0_3.out); (case side5 => repeat (first | exact (Kd.C_below HR0_4.out HB.out) | (with_reducible refine Kd.C_alloc ?_ _) | (with_reducible refine Kd.C_drewN ?_ _) | (with_reducible refine Kd.C_drew ?_))); (case side6 => exact HC0_4.out); (case side7 => repeat (first | exact (Kd.C_below HR0_5.out HB.out) | (with_reducible refine Kd.C_alloc ?_ _) | (with_reducible refine Kd.C_drewN ?_ _) | (with_reducible refine Kd.C_drew ?_))); (case side8 => exact HC0_5.out); rintro e w23 ⟨v350, rfl, ho0, hb⟩; refine ⟨_, rfl, ?_⟩; have n0_ := Aside0.mk (Kd.R_below (by (with_reducible repeat (first | apply Kd.R_alloc | apply Kd.R_drewN | apply Kd.R_drew)); exact HO_3.out) hb); have n1_ := Aside0.mk (Kd.R_lower ho0 (below_size (by repeat (first | (with_reducible first | exact HB.out | apply below_alloc | apply pw_below_drewN | apply below_drew1 | refine below_set ?_ GE344.out) | exact HB.out)))); have n2_ := Aside0.mk (blk_below (g := gb344) (o := .cells #[.string a0_0, .slice A0_1 l0_1.length c0_1, .string a0_2, .slice A0_3 l0_3.length c0_3, .slice A0_4 l0_4.length c0_4, .slice A0_5 l0_5.length c0_5] 26 (0, 0)) (by (with_reducible repeat (first | refine blk_drewN ?_ _ | refine blk_drew ?_ | refine blk_alloc ?_ _)); exact BK344.out) hb); have n3_ := Aside0.mk (below_step (by repeat (first | (with_reducible first | exact HB.out | apply below_alloc | apply pw_below_drewN | apply below_drew1 | refine below_set ?_ GE344.out) | exact HB.out)) hb); clear HO_3; clear BK344; clear HB; have HO_3 := n0_; have HO351 := n1_; have BK344 := n2_; have HB := n3_; clear n0_ n1_ n2_ n3_; (try clear hb); (try clear hb2); (try clear hk); (try clear hi); (try clear ho0)))
           go_loopg [7] k2 (fun kq v7 w' => ∃ (x3_3 : List Bool) (x7_3 : Int), v7 = .int .i64 x7_3 ∧ Aside0 (truantref09_Reached.l2 kq x3_3 x4_1 x5_2 t349 x7_3 a0_0 l0_1 a0_2 l0_3 l0_4 l0_5 = some r) ∧ Aside0 (kq ≤ k2) ∧ Aside0 (Kd.R Kd.bool 4 w' w.heap.size (fun _ => True) (.slice (some ⟨go11, 0, none⟩) x3_2.length co16) x3_3) ∧ Aside0 (Kd.R (Kd.int .i64) 3 w' w.heap.size (fun _ => True) v350 t349) ∧ Aside0 (w'.heap[gb344]? = some (.cells #[.string a0_0, (.slice A0_1 l0_1.length c0_1), .string a0_2, (.slice A0_3 l0_3.length c0_3), (.slice A0_4 l0_4.length c0_4), (.slice A0_5 l0_5.length c0_5)] 26 (0, 0))) ∧ Aside0 (Below w.heap.size w w'))
           case atStart => exact ⟨(x3_2), (0), (by first | rfl | (simp; done) | (simp [*]; done)), H', ⟨Nat.le_refl _⟩, ⟨by (try simp only [hl3_1]); (try simp only [hl3_2]); (with_reducible repeat (first | apply Kd.R_alloc | apply Kd.R_drewN | apply Kd.R_drew)); exact HO_3.out⟩, ⟨by (try simp only [hl3_1]); (try simp only [hl3_2]); (with_reducible repeat (first | apply Kd.R_alloc | apply Kd.R_drewN | apply Kd.R_drew)); exact HO351.out⟩, ⟨by (try simp only [hl3_1]); (try simp only [hl3_2]); (with_reducible repeat (first | refine blk_drewN ?_ _ | refine blk_drew ?_ | refine blk_alloc ?_ _)); exact BK344.out⟩, ⟨by repeat (first | (with_reducible first | exact HB.out | apply below_alloc | apply pw_below_drewN | apply below_drew1 | refine below_set ?_ GE344.out) | exact HB.out)⟩⟩
           case round =>
            clear H'
            try clear c1
            try clear p1
            try clear q1
            try clear hx1
            try clear qi1
            try clear hf1
            try clear c2
            try clear c2b0
            try clear c2b1
            try clear p2
            try clear c3
            try clear c3b0
            try clear c3b1
            try clear c4
            try clear c4b0
            try clear c4b1
            try clear c4b2
            try clear c10
            try clear c10b0
            try clear c10b1
            try clear p11
            try clear q11
            try clear hx11
            try clear qi11
            try clear hf11
            try clear c18
            try clear c19
            try clear c19b0
            try clear c20
            try clear c20b0
            try clear c21
            try clear hcz13_0
            try clear hcz13_1
            try clear hcz13_2
            try clear hcz13_3
            try clear hcz13_4
            try clear hcz13_5
            try clear hcz22_0
            try clear hcz22_1
            try clear hcz22_2
            try clear hcz22_3
            try clear hcz22_4
            try clear hcz22_5
            try clear hcz6_0
            try clear hcz6_1
            try clear hcz6_2
            try clear hcz6_3
            try clear hcz6_4
            try clear hcz6_5
            try clear hfz13_0
            try clear hfz13_1
            try clear hfz13_2
            try clear hfz13_3
            try clear hfz13_4
            try clear hfz13_5
            try clear hfz22_0
            try clear hfz22_1
            try clear hfz22_2
            try clear hfz22_3
            try clear hfz22_4
            try clear hfz22_5
            try clear hfz6_0
            try clear hfz6_1
            try clear hfz6_2
            try clear hfz6_3
            try clear hfz6_4
            try clear hfz6_5
            try clear hx11_0
            try clear p1
            try clear p11
            try clear p2
            try clear q1
            try clear q11
            obtain ⟨x3_3, x7_3, rfl, HA, HK3, HO_3, HO_6, BK344, HB⟩ := hrel
            have hl3_3 := (Kd.R_reads' HO_3.out).1
            rw [hl3_3] at HO_3
            (try simp only [hl3_3])
            (try simp only [hl3_3] at BK344)
            (try simp only [hl3_3] at HO_6)
            cases gk with
            | zero => exact absurd HA.out (by simp [truantref09_Reached.l2])
            | succ k3 =>
             have H := HA.out
             clear HA
             simp only [truantref09_Reached.l2] at H
             by_cases c24 : 0 ≤ x5_2
             ·rw [if_pos c24] at H
              have c24b0 : decide (0 ≤ x5_2) = true := decide_eq_true c24
              clear c24
              by_cases c25 : x5_2 < (x3_3.length : Int)
              ·rw [if_pos c25] at H
               have c25b0 : decide (x5_2 < (x3_3.length : Int)) = true := decide_eq_true c25
               clear c25
               obtain ⟨bq26, hbq26⟩ : ∃ b_ : Bool, b_ = (rdOf false x3_3 x5_2) := ⟨_, rfl⟩
               replace H : (if bq26 = true then (if x7_3 < (t349.length : Int) then (if 0 ≤ x7_3 then (if 0 ≤ (rd t349 x7_3) then (if (rd t349 x7_3) < (x3_3.length : Int) then (truantref09_Reached.l2 k3 (x3_3.set ((rd t349 x7_3) : Int).toNat true) x4_1 x5_2 t349 (wrap64 (x7_3 + 1)) a0_0 l0_1 a0_2 l0_3 l0_4 l0_5) else (none)) else (none)) else (none)) else (truantref09_Reached.l1 k3 x3_3 x4_1 (wrap64 (x5_2 + 1)) a0_0 l0_1 a0_2 l0_3 l0_4 l0_5)) else (truantref09_Reached.l1 k3 x3_3 x4_1 (wrap64 (x5_2 + 1)) a0_0 l0_1 a0_2 l0_3 l0_4 l0_5)) = some r := by rw [← hbq26] at H; exact H
               have Nbq26 := Aside0.mk hbq26
               clear hbq26
               by_cases c27 : bq26 = true
               ·subst c27
                have H1 : (if x7_3 < (t349.length : Int) then (if 0 ≤ x7_3 then (if 0 ≤ (rd t349 x7_3) then (if (rd t349 x7_3) < (x3_3.length : Int) then (truantref09_Reached.l2 k3 (x3_3.set ((rd t349 x7_3) : Int).toNat true) x4_1 x5_2 t349 (wrap64 (x7_3 + 1)) a0_0 l0_1 a0_2 l0_3 l0_4 l0_5) else (none)) else (none)) else (none)) else (truantref09_Reached.l1 k3 x3_3 x4_1 (wrap64 (x5_2 + 1)) a0_0 l0_1 a0_2 l0_3 l0_4 l0_5)) = some r := by rw [if_pos rfl] at H; exact H
                clear H
                have H := H1
                clear H1
                by_cases c28 : x7_3 < (t349.length : Int)
                ·rw [if_pos c28] at H
                 have c28b0 : decide (x7_3 < (t349.length : Int)) = true := decide_eq_true c28
                 clear c28
                 by_cases c29 : 0 ≤ x7_3
                 ·rw [if_pos c29] at H
                  have c29b0 : decide (0 ≤ x7_3) = true := decide_eq_true c29
                  clear c29
                  by_cases c30 : 0 ≤ (rd t349 x7_3)
                  ·rw [if_pos c30] at H
                   have c30b0 : decide (0 ≤ (rd t349 x7_3)) = true := decide_eq_true c30
                   clear c30
                   by_cases c31 : (rd t349 x7_3) < (x3_3.length : Int)
                   ·rw [if_pos c31] at H
                    have c31b0 : decide ((rd t349 x7_3) < (x3_3.length : Int)) = true := decide_eq_true c31
                    clear c31
                    obtain ⟨y354, hy354⟩ : ∃ y_ : List Bool, y_ = (x3_3.set ((rd t349 x7_3) : Int).toNat true) := ⟨_, rfl⟩
                    replace H : (truantref09_Reached.l2 k3 y354 x4_1 x5_2 t349 (wrap64 (x7_3 + 1)) a0_0 l0_1 a0_2 l0_3 l0_4 l0_5) = some r := by first | (rw [hy354]; with_reducible exact H) | (have H2_ := (Option.bind_some _ _).symm.trans H; rw [hy354]; with_reducible exact H2_) | (have H2_ := (Option.bind_some _ _).symm.trans H; with_reducible exact H2_) | with_reducible exact H | (rw [hy354]; exact H) | exact H
                    have Ny354 := Aside0.mk hy354
                    clear hy354
                    have H' := Aside0.mk H
                    clear H
                    have p352 : 0 ≤ (x5_2 : Int) := of_decide_eq_true (by first | (with_reducible assumption) | assumption)
                    have q352 : x5_2 < (x3_3.length : Int) := of_decide_eq_true (by first | (with_reducible assumption) | assumption)
                    obtain ⟨ad352, e352, hx352_0⟩ := Kd.at_bool (Kd.R_reads' HO_3.out).2.2 x5_2 p352 q352
                    (try rw [← Nbq26.out] at hx352_0)
                    obtain rfl : (⟨go11, 0, none⟩ : Addr) = ad352 := (by injection e352)
                    (first | simp only [add_plain] at hx352_0 | simp only [add_at] at hx352_0 | simp only [Addr.add, Nat.zero_add] at hx352_0 | skip)
                    replace p352 := eq_true p352
                    replace q352 := eq_true q352
                    obtain ⟨Ao33, co33, eo33⟩ := Kd.R_slice HO_6.out
                    subst eo33
                    have p353 : 0 ≤ (x7_3 : Int) := of_decide_eq_true (by first | (with_reducible assumption) | assumption)
                    have q353 : x7_3 < (t349.length : Int) := of_decide_eq_true (by first | (with_reducible assumption) | assumption)
                    obtain ⟨ad353, e353, hx353_0⟩ := Kd.at_int (Kd.R_reads' HO_6.out).2.2 x7_3 p353 q353
                    cases e353
                    replace p353 := eq_true p353
                    replace q353 := eq_true q353
                    have p32 : 0 ≤ ((rd t349 x7_3) : Int) := of_decide_eq_true (by first | (with_reducible assumption) | assumption)
                    have q32 : ((rd t349 x7_3) : Int) < ((x3_3.length : Int) : Int) := of_decide_eq_true (by first | (with_reducible assumption) | assumption)
                    obtain ⟨hx32_0, hf32_0⟩ := Kd.R_celln false HO_3.out ((rd t349 x7_3) : Int) p32 q32
                    replace p32 := eq_true p32
                    replace q32 := eq_true q32
                    have HP34 := Kd.R_putg HO_3.out ((rd t349 x7_3) : Int) true
                    go_wp2_with (first | ((with_reducible refine gate_store (t := 4) (p := 50) rfl ?_); refine store_event (t := 4) (p := 50) (v := ?vo_w35) (w1 := (wr.setCell ⟨go11, ((rd t349 x7_3) : Int).toNat, none⟩ (.bool true))) ?hg ?ho ?hn ?hr ?_; (case ho => rfl); (case hg => rfl); (case hn => rfl); (case hr => first | (go_simp; done) | (go_simp; rfl)); intro w35 hw; have hg : wr.grownBy w35 (some go11) := (by rw [hw]; exact HP34.2); have hp_ : Kd.R Kd.bool 4 w35 w.heap.size (fun _ => True) (.slice (some ⟨go11, 0, none⟩) x3_3.length co16) y354 := (by rw [hw, Ny354.out]; exact HP34.1); clear HP34; have n0_ := Aside0.mk (hp_); have n1_ := Aside0.mk (Kd.R_over' (v := (.slice (some ⟨go11, 0, none⟩) x3_3.length co16)) (by (with_reducible repeat (first | apply Kd.R_alloc | apply Kd.R_drewN | apply Kd.R_drew)); exact HO_6.out) (Kd.R_typed HO_3.out) (by decide) hg); have n2_ := Aside0.mk (blk_grown (g := gb344) (o := .cells #[.string a0_0, .slice A0_1 l0_1.length c0_1, .string a0_2, .slice A0_3 l0_3.length c0_3, .slice A0_4 l0_4.length c0_4, .slice A0_5 l0_5.length c0_5] 26 (0, 0)) (by (with_reducible repeat (first | refine blk_drewN ?_ _ | refine blk_drew ?_ | refine blk_alloc ?_ _)); exact BK344.out) hg (Kd.R_ne HO_3.out BK344.out (by decide))); have n3_ := Aside0.mk ((by rw [hw]; exact below_set (HB.out) GB11.out : Below w.heap.size w w35)); clear HO_3; clear HO_6; clear BK344; clear HB; have HO_3 := n0_; have HO_6 := n1_; have BK344 := n2_; have HB := n3_; clear n0_ n1_ n2_ n3_; clear hg hw hp_))
                    (try simp only [← hl3_3])
                    go_roundg k3
                    case measure => have := HK1.out; have := HK2.out; have := HK3.out; omega
                    case rel => exact ⟨(y354), (wrap64 (x7_3 + 1)), (by first | rfl | (simp; done) | (simp [*]; done)), H', ⟨by have := HK1.out; have := HK2.out; have := HK3.out; omega⟩, ⟨by (try simp only [hl3_1]); (try simp only [hl3_2]); (try simp only [hl3_3]); (with_reducible repeat (first | apply Kd.R_alloc | apply Kd.R_drewN | apply Kd.R_drew)); exact HO_3.out⟩, ⟨by (try simp only [hl3_1]); (try simp only [hl3_2]); (try simp only [hl3_3]); (with_reducible repeat (first | apply Kd.R_alloc | apply Kd.R_drewN | apply Kd.R_drew)); exact HO_6.out⟩, ⟨by (try simp only [hl3_1]); (try simp only [hl3_2]); (try simp only [hl3_3]); (with_reducible repeat (first | refine blk_drewN ?_ _ | refine blk_drew ?_ | refine blk_alloc ?_ _)); exact BK344.out⟩, ⟨by repeat (first | (with_reducible first | exact HB.out | apply below_alloc | apply pw_below_drewN | apply below_drew1 | refine below_set ?_ GE344.out) | exact HB.out)⟩⟩
                   ·rw [if_neg c31] at H
                    exact absurd H (by simp)
                  ·rw [if_neg c30] at H
                   exact absurd H (by simp)
                 ·rw [if_neg c29] at H
                  exact absurd H (by simp)
                ·rw [if_neg c28] at H
                 have c28b0 : decide (x7_3 < (t349.length : Int)) = false := decide_eq_false c28
                 clear c28
                 have H' := Aside0.mk H
                 clear H
                 have p352 : 0 ≤ (x5_2 : Int) := of_decide_eq_true (by first | (with_reducible assumption) | assumption)
                 have q352 : x5_2 < (x3_3.length : Int) := of_decide_eq_true (by first | (with_reducible assumption) | assumption)
                 obtain ⟨ad352, e352, hx352_0⟩ := Kd.at_bool (Kd.R_reads' HO_3.out).2.2 x5_2 p352 q352
                 (try rw [← Nbq26.out] at hx352_0)
                 obtain rfl : (⟨go11, 0, none⟩ : Addr) = ad352 := (by injection e352)
                 (first | simp only [add_plain] at hx352_0 | simp only [add_at] at hx352_0 | simp only [Addr.add, Nat.zero_add] at hx352_0 | skip)
                 replace p352 := eq_true p352
                 replace q352 := eq_true q352
                 obtain ⟨Ao36, co36, eo36⟩ := Kd.R_slice HO_6.out
                 subst eo36
                 go_wp2
                 (try simp only [← hl3_2, ← hl3_3])
                 go_roundg k3
                 case measure => have := HK1.out; have := HK2.out; have := HK3.out; omega
                 case rel => exact ⟨(x3_3), (wrap64 (x5_2 + 1)), (by first | rfl | (simp; done) | (simp [*]; done)), H', ⟨by have := HK1.out; have := HK2.out; have := HK3.out; omega⟩, ⟨by (try simp only [hl3_1]); (try simp only [hl3_2]); (try simp only [hl3_3]); (with_reducible repeat (first | apply Kd.R_alloc | apply Kd.R_drewN | apply Kd.R_drew)); exact HO_3.out⟩, ⟨by (try simp only [hl3_1]); (try simp only [hl3_2]); (try simp only [hl3_3]); (with_reducible repeat (first | refine blk_drewN ?_ _ | refine blk_drew ?_ | refine blk_alloc ?_ _)); exact BK344.out⟩, ⟨by repeat (first | (with_reducible first | exact HB.out | apply below_alloc | apply pw_below_drewN | apply below_drew1 | refine below_set ?_ GE344.out) | exact HB.out)⟩⟩
               ·replace c27 := Bool.eq_false_iff.mpr c27
                subst c27
                have H1 : (truantref09_Reached.l1 k3 x3_3 x4_1 (wrap64 (x5_2 + 1)) a0_0 l0_1 a0_2 l0_3 l0_4 l0_5) = some r := by rw [if_neg (show ¬ (false = true) by decide)] at H; exact H
                clear H
                have H := H1
                clear H1
                have H' := Aside0.mk H
                clear H
                have p352 : 0 ≤ (x5_2 : Int) := of_decide_eq_true (by first | (with_reducible assumption) | assumption)
                have q352 : x5_2 < (x3_3.length : Int) := of_decide_eq_true (by first | (with_reducible assumption) | assumption)
                obtain ⟨ad352, e352, hx352_0⟩ := Kd.at_bool (Kd.R_reads' HO_3.out).2.2 x5_2 p352 q352
                (try rw [← Nbq26.out] at hx352_0)
                obtain rfl : (⟨go11, 0, none⟩ : Addr) = ad352 := (by injection e352)
                (first | simp only [add_plain] at hx352_0 | simp only [add_at] at hx352_0 | simp only [Addr.add, Nat.zero_add] at hx352_0 | skip)
                replace p352 := eq_true p352
                replace q352 := eq_true q352
                go_wp2
                (try simp only [← hl3_2, ← hl3_3])
                go_roundg k3
                case measure => have := HK1.out; have := HK2.out; have := HK3.out; omega
                case rel => exact ⟨(x3_3), (wrap64 (x5_2 + 1)), (by first | rfl | (simp; done) | (simp [*]; done)), H', ⟨by have := HK1.out; have := HK2.out; have := HK3.out; omega⟩, ⟨by (try simp only [hl3_1]); (try simp only [hl3_2]); (try simp only [hl3_3]); (with_reducible repeat (first | apply Kd.R_alloc | apply Kd.R_drewN | apply Kd.R_drew)); exact HO_3.out⟩, ⟨by (try simp only [hl3_1]); (try simp only [hl3_2]); (try simp only [hl3_3]); (with_reducible repeat (first | refine blk_drewN ?_ _ | refine blk_drew ?_ | refine blk_alloc ?_ _)); exact BK344.out⟩, ⟨by repeat (first | (with_reducible first | exact HB.out | apply below_alloc | apply pw_below_drewN | apply below_drew1 | refine below_set ?_ GE344.out) | exact HB.out)⟩⟩
              ·rw [if_neg c25] at H
               exact absurd H (by simp)
             ·rw [if_neg c24] at H
              exact absurd H (by simp)
          ·rw [if_neg c20] at H
           have c20b0 : decide (x5_2 < (x3_2.length : Int)) = false := decide_eq_false c20
           clear c20
           have H' := Aside0.mk H
           clear H
           go_wp2
           (try simp only [← hl3_1, ← hl3_2])
           go_roundg k2
           case measure => have := HK1.out; have := HK2.out; omega
           case rel => exact ⟨(x3_2), (wrap64 (x4_1 + 1)), (by first | rfl | (simp; done) | (simp [*]; done)), H', ⟨by have := HK1.out; have := HK2.out; omega⟩, ⟨by (try simp only [hl3_1]); (try simp only [hl3_2]); (with_reducible repeat (first | apply Kd.R_alloc | apply Kd.R_drewN | apply Kd.R_drew)); exact HO_3.out⟩, ⟨by (try simp only [hl3_1]); (try simp only [hl3_2]); (with_reducible repeat (first | refine blk_drewN ?_ _ | refine blk_drew ?_ | refine blk_alloc ?_ _)); exact BK344.out⟩, ⟨by repeat (first | (with_reducible first | exact HB.out | apply below_alloc | apply pw_below_drewN | apply below_drew1 | refine below_set ?_ GE344.out) | exact HB.out)⟩⟩
       ·rw [if_neg c19] at H
        have c19b0 : decide (x4_1 < (x3_1.length : Int)) = false := decide_eq_false c19
        clear c19
        obtain rfl := Option.some.inj H
        go_wp2
        go_ret
        exact ⟨_, by first | rfl | (simp [errW_none, errW_some] <;> rfl) | (simp [*, errW_none, errW_some] <;> rfl), by (with_reducible repeat (first | apply Kd.R_alloc | apply Kd.R_drewN | apply Kd.R_drew)); exact HO_3.out, by repeat (first | (with_reducible first | exact HB.out | apply below_alloc | apply pw_below_drewN | apply below_drew1 | refine below_set ?_ GE344.out) | exact HB.out)⟩
    ·rw [if_neg c10] at H
     exact absurd H (by simp)
  ·rw [if_neg c3] at H
   exact absurd H (by simp)
 ·rw [if_neg c2] at H
  exact absurd H (by simp)

end Go.Proofs.Ytclhjalgflebfaa.Q

/- Flow, plain law: what is reached, round by round as by the walk. -/

namespace Go.Proofs.Ytclhjalgflebfaa.Q
open Go.RowKit Go.Proofs.YtclhjalgflebfaaW.PrintWords Go.Proofs.YtclhjalgflebfaaW.PrintLast Go.Proofs.YtclhjalgflebfaaW.PrintMore
set_option linter.unusedVariables false
set_option linter.unusedSimpArgs false
theorem hasR_none (n : Nat) (x : Int) : ¬ hasR (List.replicate n false) x := by
 rintro ⟨h0, h1, h2⟩
 unfold rdOf at h2
 rw [getD_at _ _ (by rw [List.length_replicate] at h1 ⊢; omega)] at h2
 simp at h2
theorem unseen_none (n : Nat) : unseen (List.replicate n false) = n := by simp [unseen]
theorem walk_facts (l : List S40) (hl : l.length < LIMF) (hn : 0 < l.length) : ∃ s e, walkO l = some (s, e ++ [0]) ∧ Adds l (List.replicate l.length false) s [0] (e ++ [0]) ∧ ((nextOf l 0).foldlM (stepO l l.length) ((List.replicate l.length false).set 0 true, [])) = some (s, e) ∧ Adds l ((List.replicate l.length false).set 0 true) s (nextOf l 0) e := by
 obtain ⟨s', e, h1, h2, e', he, h3, h4⟩ := visit_adds l (l.length + 1) 0 (List.replicate l.length false) [] (by simp) (by omega) (by omega) (hasR_none _ _) (by rw [unseen_none]; omega) (by rw [unseen_none]; simpa using hl)
 subst he
 refine ⟨s', e', ?_, h2, ?_, ?_⟩
 ·unfold walkO
  rw [if_pos hl, if_neg (by omega)]
  simpa using h1
 ·simpa using h3
 ·simpa using h4
/-- Whatever holds of 0 and goes on to the next ones holds of all that the walk comes to. -/
theorem led_all {l : List S40} {s s' : List Bool} {xs e : List Int} (h : Adds l s s' xs e) (C : Int → Prop) (hx : ∀ x ∈ xs, C x) (hC : ∀ p, C p → ∀ y ∈ nextOf l p, C y) : ∀ x ∈ e, C x := by
 have key : ∀ (n : Nat) (e1 : List Int) (e2 : List Int), e = e1 ++ e2 → e2.length ≤ n → ∀ x ∈ e2, C x := by
  intro n
  induction n with
  | zero =>
   intro e1 e2 he hl x hm
   obtain rfl := List.eq_nil_of_length_eq_zero (Nat.le_zero.mp hl)
   cases hm
  | succ n ih =>
   intro e1 e2 he hl x hm
   cases e2 with
   | nil => cases hm
   | cons y e2 =>
    have hrest := ih (e1 ++ [y]) e2 (by simp [he]) (by simpa using hl)
    rcases List.mem_cons.mp hm with rfl | hm
    ·rcases h.led e1 x e2 he with hq | ⟨p, hp, hq⟩
     ·exact hx x hq
     ·exact hC p (hrest p hp) x hq
    ·exact hrest x hm
 exact key e.length [] e (by simp) (Nat.le_refl _)
/-- Marked: those of ys. -/
def markAll (r : List Bool) (ys : List Int) : List Bool := ys.foldl (fun r y => r.set y.toNat true) r
theorem mark_len : ∀ (ys : List Int) (r : List Bool), (markAll r ys).length = r.length
 | [], r => rfl
 | y :: ys, r => by show (markAll (r.set y.toNat true) ys).length = _; rw [mark_len ys, List.length_set]
theorem mark_has : ∀ (ys : List Int) (r : List Bool), (∀ y ∈ ys, 0 ≤ y ∧ y < (r.length : Int)) → ∀ x, hasR (markAll r ys) x ↔ hasR r x ∨ x ∈ ys
 | [], r, h, x => by simp [markAll]
 | y :: ys, r, h, x => by
  have hy := h y List.mem_cons_self
  show hasR (markAll (r.set y.toNat true) ys) x ↔ _
  rw [mark_has ys (r.set y.toNat true) (fun z hz => by rw [List.length_set]; exact h z (List.mem_cons_of_mem _ hz)) x, hasR_set hy.1 hy.2, List.mem_cons, or_assoc]
/-- One round, over the first n blocks. -/
def roundTo (l : List S40) (r : List Bool) : Nat → List Bool
 | 0 => r
 | n + 1 => let r1 := roundTo l r n; if r1.getD n false = true then markAll r1 (nextOf l n) else r1
theorem round_len (l : List S40) (r : List Bool) : ∀ n, (roundTo l r n).length = r.length
 | 0 => rfl
 | n + 1 => by
  unfold roundTo
  simp only
  split
  ·rw [mark_len, round_len l r n]
  ·exact round_len l r n
theorem round_grows (l : List S40) (r : List Bool) (hr : r.length = l.length) : ∀ n, ∀ x, hasR r x → hasR (roundTo l r n) x
 | 0, x, h => h
 | n + 1, x, h => by
  have h1 := round_grows l r hr n x h
  unfold roundTo
  simp only
  split
  ·exact (mark_has _ _ (fun y hy => by rw [round_len, hr]; exact next_in hy) x).mpr (.inl h1)
  ·exact h1
theorem hasR_at {r : List Bool} {n : Nat} (h : r.getD n false = true) : hasR r n := by
 have hn : n < r.length := by
  rcases Nat.lt_or_ge n r.length with h1 | h1
  ·exact h1
  ·simp [List.getD, List.getElem?_eq_none h1] at h
 exact ⟨by omega, by omega, by rw [rdOf_nat]; exact h⟩
theorem round_goes (l : List S40) (r : List Bool) (hr : r.length = l.length) : ∀ n : Nat, ∀ m : Nat, m < n → hasR r m → ∀ y ∈ nextOf l m, hasR (roundTo l r n) y
 | n + 1, m, hm, h, y, hy => by
  by_cases he : m = n
  ·subst he
   have h1 := round_grows l r hr m m h
   unfold roundTo
   simp only
   rw [if_pos (by have := h1.2.2; rwa [rdOf_nat] at this)]
   exact (mark_has _ _ (fun y hy => by rw [round_len, hr]; exact next_in hy) y).mpr (.inr hy)
  ·have h1 := round_goes l r hr n m (by omega) h y hy
   unfold roundTo
   simp only
   split
   ·exact (mark_has _ _ (fun y hy => by rw [round_len, hr]; exact next_in hy) y).mpr (.inl h1)
   ·exact h1
theorem round_least (l : List S40) (r : List Bool) (hr : r.length = l.length) (C : Int → Prop) (h : ∀ x, hasR r x → C x) (hC : ∀ p, C p → ∀ y ∈ nextOf l p, C y) : ∀ n, ∀ x, hasR (roundTo l r n) x → C x
 | 0, x, hx => h x hx
 | n + 1, x, hx => by
  unfold roundTo at hx
  simp only at hx
  split at hx
  ·rename_i hq
   rcases (mark_has _ _ (fun y hy => by rw [round_len, hr]; exact next_in hy) x).mp hx with h1 | h1
   ·exact round_least l r hr C h hC n x h1
   ·exact hC n (round_least l r hr C h hC n n (hasR_at hq)) x h1
  ·exact round_least l r hr C h hC n x hx
theorem same_has {r r' : List Bool} (hl : r.length = r'.length) (h : ∀ x, hasR r x ↔ hasR r' x) : r = r' := by
 refine lists_eq false hl (fun j hj => ?_)
 have hj' : j < r'.length := by omega
 cases h1 : r.getD j false with
 | true =>
  have := ((h j).mp (hasR_at h1)).2.2
  rw [rdOf_nat] at this
  exact this.symm
 | false =>
  cases h2 : r'.getD j false with
  | false => rfl
  | true =>
   have := ((h j).mpr (hasR_at h2)).2.2
   rw [rdOf_nat, h1] at this
   exact this
theorem unseen_le : ∀ {r r' : List Bool}, r.length = r'.length → (∀ j, r.getD j false = true → r'.getD j false = true) → unseen r' ≤ unseen r ∧ (unseen r' = unseen r → r' = r)
 | [], [], _, _ => ⟨Nat.le_refl _, fun _ => rfl⟩
 | a :: r, b :: r', hl, h => by
  obtain ⟨h1, h2⟩ := unseen_le (r := r) (r' := r') (by simpa using hl) (fun j hj => by simpa using h (j + 1) (by simpa using hj))
  have h0 : a = true → b = true := fun ha => by simpa using h 0 (by simpa using ha)
  cases a <;> cases b <;> simp_all [unseen] <;> omega
 | [], b :: r', hl, _ => by simp at hl
 | a :: r, [], hl, _ => by simp at hl
def closedR (l : List S40) (r : List Bool) : Prop := ∀ x, hasR r x → ∀ y ∈ nextOf l x, hasR r y
theorem next_dom {l : List S40} {x y : Int} (h : y ∈ nextOf l x) : 0 ≤ x ∧ x < (l.length : Int) := by
 unfold nextOf at h
 split at h
 ·assumption
 ·cases h
theorem round_step (l : List S40) (r : List Bool) (hr : r.length = l.length) : (closedR l r ∧ roundTo l r l.length = r) ∨ unseen (roundTo l r l.length) + 1 ≤ unseen r := by
 have hg := round_grows l r hr l.length
 obtain ⟨h1, h2⟩ := unseen_le (r := r) (r' := roundTo l r l.length) (round_len l r _).symm (fun j hj => by have := (hg j (hasR_at hj)).2.2; rwa [rdOf_nat] at this)
 by_cases he : unseen (roundTo l r l.length) = unseen r
 ·left
  have h3 := h2 he
  refine ⟨fun x hx y hy => ?_, h3⟩
  have hd := next_dom hy
  obtain ⟨m, rfl, hm, _⟩ := hasR_nat hx
  have := round_goes l r hr l.length m (by omega) hx y hy
  rwa [h3] at this
 ·right
  omega
section
variable (a0 : ByteArray) (l1 : List ByteArray) (a2 : ByteArray) (l3 : List ByteArray) (l4 : List S58) (l : List S40) (hl : l.length ≤ 1099511627776)
include hl
theorem ref_l2 (r : List Bool) (hr : r.length = l.length) (c : Nat) (n : Nat) (hn : n < l.length) (q : List Bool) (hq : ∀ r', (if r.getD n false = true then markAll r (nextOf l n) else r) = r' → Ev (fun k => truantref09_Reached.l1 k r' (c : Int) ((n + 1 : Nat) : Int) a0 l1 a2 l3 l4 l) q) :
  Ev (fun k => truantref09_Reached.l2 k r (c : Int) (n : Int) (nextOf l n) 0 a0 l1 a2 l3 l4 l) q := by
 by_cases ht : r.getD n false = true
 ·rw [if_pos ht] at hq
  have key : ∀ (d j : Nat) (r1 : List Bool), (nextOf l n).length - j = d → j ≤ (nextOf l n).length → r1.length = l.length → hasR r1 n → markAll r1 ((nextOf l n).drop j) = markAll r (nextOf l n) → Ev (fun k => truantref09_Reached.l2 k r1 (c : Int) (n : Int) (nextOf l n) (j : Int) a0 l1 a2 l3 l4 l) q := by
   intro d
   induction d with
   | zero =>
    intro j r1 hd hj h1 h2 h3
    rw [List.drop_of_length_le (by omega)] at h3
    refine Ev.step (fun k => rfl) (Ev.pos (by omega) (Ev.pos (by omega) (Ev.pos h2.2.2 (Ev.neg (by omega) ?_))))
    rw [wrap_up (n := l.length) hn (by omega)]
    exact hq r1 h3.symm
   | succ d ih =>
    intro j r1 hd hj h1 h2 h3
    have hlt : j < (nextOf l n).length := by omega
    have h5 := next_len l n
    have hrd : rd (nextOf l n) (j : Int) = (nextOf l n)[j] := by unfold rd; rw [Int.toNat_natCast, getD_at _ _ hlt]
    have hin := next_in (List.getElem_mem hlt)
    refine Ev.step (fun k => rfl) (Ev.pos (by omega) (Ev.pos (by omega) (Ev.pos h2.2.2 (Ev.pos (by omega) (Ev.pos (by omega) ?_)))))
    rw [hrd, wrap_up (n := (nextOf l n).length) hlt (by omega)]
    refine Ev.pos hin.1 (Ev.pos (by rw [h1]; exact hin.2) ?_)
    refine ih (j + 1) _ (by omega) (by omega) (by rw [List.length_set]; exact h1) ((hasR_set hin.1 (by rw [h1]; exact hin.2)).mpr (.inl h2)) ?_
    rw [List.drop_eq_getElem_cons hlt] at h3
    exact h3
  exact key _ 0 r rfl (Nat.zero_le _) hr (hasR_at ht) (by simp)
 ·rw [if_neg ht] at hq
  refine Ev.step (fun k => rfl) (Ev.pos (by omega) (Ev.pos (by omega) (Ev.neg (by rw [rdOf_nat]; exact ht) ?_)))
  rw [wrap_up (n := l.length) hn (by omega)]
  exact hq r rfl
theorem ref_l1 (r : List Bool) (hr : r.length = l.length) (c : Nat) (hc : c < l.length) (q : List Bool) (hq : Ev (fun k => truantref09_Reached.l0 k (roundTo l r l.length) ((c + 1 : Nat) : Int) a0 l1 a2 l3 l4 l) q) :
  Ev (fun k => truantref09_Reached.l1 k r (c : Int) 0 a0 l1 a2 l3 l4 l) q := by
 have key : ∀ (d n : Nat), l.length - n = d → n ≤ l.length → Ev (fun k => truantref09_Reached.l1 k (roundTo l r n) (c : Int) (n : Int) a0 l1 a2 l3 l4 l) q := by
  intro d
  induction d with
  | zero =>
   intro n hd hn
   have e : n = l.length := by omega
   subst e
   have hlen := round_len l r l.length
   refine Ev.step (fun k => rfl) (Ev.neg (by omega) ?_)
   rw [wrap_up (n := l.length) hc (by omega)]
   exact hq
  | succ d ih =>
   intro n hd hn
   have hlen := round_len l r n
   refine Ev.step (fun k => rfl) (Ev.pos (by omega) (Ev.bind (refNext a0 l1 a2 l3 l4 l n) ?_))
   refine ref_l2 a0 l1 a2 l3 l4 l hl _ (by omega) c n (by omega) q (fun r' he => ?_)
   have := ih (n + 1) (by omega) (by omega)
   rw [show roundTo l r (n + 1) = r' from he] at this
   exact this
 exact key _ 0 rfl (Nat.zero_le _)
theorem ref_l0 (C : Int → Prop) (hC : ∀ p, C p → ∀ y ∈ nextOf l p, C y) : ∀ (d c : Nat) (r : List Bool), l.length - c = d → c ≤ l.length → r.length = l.length → (∀ x, hasR r x → C x) → hasR r 0 → (closedR l r ∨ unseen r + c + 1 ≤ l.length) →
  ∃ q, Ev (fun k => truantref09_Reached.l0 k r (c : Int) a0 l1 a2 l3 l4 l) q ∧ q.length = l.length ∧ hasR q 0 ∧ closedR l q ∧ ∀ x, hasR q x → C x := by
 intro d
 induction d with
 | zero =>
  intro c r hd hc hr h1 h2 h3
  refine ⟨r, Ev.step (fun k => rfl) (Ev.neg (by omega) (Ev.now _)), hr, h2, ?_, h1⟩
  rcases h3 with h3 | h3
  ·exact h3
  ·omega
 | succ d ih =>
  intro c r hd hc hr h1 h2 h3
  obtain ⟨q, hq, hq2⟩ := ih (c + 1) (roundTo l r l.length) (by omega) (by omega) (by rw [round_len]; exact hr) (round_least l r hr C h1 hC _) (round_grows l r hr _ 0 h2) (by
   rcases round_step l r hr with ⟨q1, q2⟩ | q1
   ·rw [q2]; exact .inl q1
   ·rcases h3 with h3 | h3
    ·left
     have : roundTo l r l.length = r := same_has (round_len l r _) (fun x => ⟨fun h => round_least l r hr (hasR r) (fun _ h => h) h3 _ x h, fun h => round_grows l r hr _ x h⟩)
     rw [this]; exact h3
    ·right; omega)
  exact ⟨q, Ev.step (fun k => rfl) (Ev.pos (by omega) (ref_l1 a0 l1 a2 l3 l4 l hl r hr c (by omega) q hq)), hq2⟩
theorem reached_same (hn : 0 < l.length) (s : List Bool) (e : List Int) (h : Adds l (List.replicate l.length false) s [0] (e ++ [0])) : Ev (fun k => truantref09_Reached.f k a0 l1 a2 l3 l4 l) s := by
 have hm : ∀ x, hasR s x ↔ x ∈ e ++ [0] := fun x => by rw [h.mem]; exact ⟨fun h => h.resolve_left (hasR_none _ _), .inr⟩
 have hs : s.length = l.length := by rw [h.len, List.length_replicate]
 have hcl : closedR l s := fun x hx y hy => h.goes x ((hm x).mp hx) y hy
 obtain ⟨q, hq, hq1, hq2, hq3, hq4⟩ := ref_l0 a0 l1 a2 l3 l4 l hl (hasR s) hcl l.length 0 ((List.replicate l.length false).set 0 true) (by omega) (Nat.zero_le _) (by simp)
  (fun x hx => by
   rcases (hasR_set (b := 0) (by omega) (by simpa using hn)).mp hx with h1 | rfl
   ·exact absurd h1 (hasR_none _ _)
   ·exact (hm 0).mpr (by simp)) ((hasR_set (b := 0) (by omega) (by simpa using hn)).mpr (.inr rfl)) (.inr (by
   have := unseen_set (s := List.replicate l.length false) (m := 0) (by simpa using hn) (by rw [getD_at _ _ (by simpa using hn)]; simp)
   rw [unseen_none] at this
   omega))
 have he : q = s := same_has (hq1.trans hs.symm) (fun x => ⟨hq4 x, fun hx => led_all h (hasR q) (fun y hy => by rw [List.mem_singleton] at hy; subst hy; exact hq2) hq3 x ((hm x).mp hx)⟩)
 subst he
 unfold truantref09_Reached.f
 refine Ev.pos (by omega) (Ev.pos (by omega) ?_)
 rw [Int.toNat_natCast]
 refine Ev.neg (by rw [List.length_replicate]; omega) (Ev.pos (by rw [List.length_replicate]; omega) ?_)
 exact hq
end
end Go.Proofs.Ytclhjalgflebfaa.Q

/- The document's Is: a row of rows of Bools, written by element, and a copy of the blocks with one jump turned; by hand. -/
namespace Go.Proofs.Ytclhjalgflebfaa.Q
open Go.RowKit Go.Proofs.YtclhjalgflebfaaW.PrintWords Go.Proofs.YtclhjalgflebfaaW.PrintLast Go.Proofs.YtclhjalgflebfaaW.PrintMore
set_option linter.unusedVariables false
set_option linter.unusedSimpArgs false
/-- Who is reached, as the document tells it. -/
noncomputable def reachL (l : List S40) : List Bool := ((walkO l).map (·.1)).getD []
theorem ref_reach (a0 : ByteArray) (l1 : List ByteArray) (a2 : ByteArray) (l3 : List ByteArray) (l4 : List S58) (l : List S40) (hl : l.length ≤ 1000000) : (∃ k, truantref09_Reached.f k a0 l1 a2 l3 l4 l = some (reachL l)) ∧ (reachL l).length = l.length := by
 by_cases hn : 0 < l.length
 ·obtain ⟨s, e, h1, h2, h3, h4⟩ := walk_facts l (by unfold LIMF; omega) hn
  have e1 : reachL l = s := by unfold reachL; rw [h1]; rfl
  have h5 := reached_same a0 l1 a2 l3 l4 l (by omega) hn s e h2
  rw [e1]
  exact ⟨h5.rounds, by rw [h2.len, List.length_replicate]⟩
 ·obtain rfl : l = [] := List.eq_nil_of_length_eq_zero (by omega)
  exact ⟨⟨1, rfl⟩, rfl⟩
/-- Block a leads nowhere. -/
def noJ (l : List S40) (a : Nat) : List S40 := l.set a { rd_T40 l (a : Int) with f1 := 3 }
theorem noJ_len (l : List S40) (a : Nat) : (noJ l a).length = l.length := by unfold noJ; rw [List.length_set]
noncomputable def cellI (l : List S40) (a b : Nat) : Bool := (reachL l).getD b false && (decide (a = b) || decide (a = 0) || !(reachL (noJ l a)).getD b false)
noncomputable def rowI (l : List S40) (a : Nat) : List Bool := if (reachL l).getD a false = true then (List.range l.length).map (cellI l a) else List.replicate l.length false
noncomputable def truantref10_Is.f (a0_0 : ByteArray) (l0_1 : List ByteArray) (a0_2 : ByteArray) (l0_3 : List ByteArray) (l0_4 : List (S58)) (l0_5 : List (S40)) : Option (List (List Bool)) := if l0_5.length ≤ 1000000 then some ((List.range l0_5.length).map (rowI l0_5)) else none
theorem info_rowB : (Try.prog.info? 31).map (fun i => (i.zero, i.size, i.bytes)) = some (some (.slice none 0 0), 1, 24) := by kernel_rfl
theorem heapBlk : Kd.Heap k40 := Kd.heap_iso _ (Kd.heap_pair (Kd.heap_slice 3 (Kd.heap_int .i64)) (Kd.heap_pair (Kd.heap_int .i64) (Kd.heap_pair (Kd.heap_int .i64) (Kd.heap_iso _ (Kd.heap_pair (Kd.heap_int .i64) (Kd.heap_int .i64))))))
def rowB (xs : List (List Bool)) (i : Int) : List Bool := xs.getD i.toNat []
section
variable {W : World} {base go n cap e e2 : Nat} {ok : Nat → Prop} {xs : List (List Bool)}
/-- Element i, lent. -/
theorem lendB (h : Kd.S (Kd.slice e Kd.bool) e2 W base ok (.slice (some ⟨go, 0, none⟩) n cap) xs) (i : Int) (h0 : 0 ≤ i) (h1 : i < n) :
  ∃ (oki : Nat → Prop) (A : Option Addr) (c : Nat), W.cell? ⟨go, i.toNat, none⟩ = some (.slice A (rowB xs i).length c) ∧ W.frozen? ⟨go, i.toNat, none⟩ = false ∧ Kd.bool.R e W base oki (.slice A (rowB xs i).length c) (rowB xs i) ∧ (∀ k, oki k → ok k ∧ k ≠ go) ∧ Kd.H (Kd.slice e Kd.bool) e2 W base ok (.slice (some ⟨go, 0, none⟩) n cap) xs i oki [.slice A (rowB xs i).length c] := by
 have es : i.toNat * (Kd.slice e Kd.bool).sz = i.toNat := Nat.mul_one _
 obtain ⟨oki, cs, hcl, ⟨v, rfl, hR⟩, hcc, hfr, hoki, hH⟩ := Kd.S_elem h [] i h0 h1
 obtain ⟨A, c, rfl⟩ := Kd.R_slice hR
 have hcell := hcc 0 _ rfl
 have hf := hfr 0
 rw [Nat.add_zero, es] at hcell hf
 exact ⟨oki, A, c, hcell, hf, hR, hoki, hH⟩
/-- A new row in element i's place. -/
theorem newB {oki : Nat → Prop} {A : Option Addr} {i : Int} {c : Nat} {W1 : World} (hH : Kd.H (Kd.slice e Kd.bool) e2 W base ok (.slice (some ⟨go, 0, none⟩) n cap) xs i oki [.slice A (rowB xs i).length c]) (h0 : 0 ≤ i) (h1 : i < n) (hg : W.grownBy W1 none) {A1 : Option Addr} {c1 : Nat} {ys : List Bool} (hok : ∀ k, W.heap.size ≤ k → ok k)
  (hR1 : Kd.bool.R e W1 base (fun k => W.heap.size ≤ k) (.slice A1 ys.length c1) ys) :
  Kd.S (Kd.slice e Kd.bool) e2 (W1.setCell ⟨go, i.toNat, none⟩ (.slice A1 ys.length c1)) base ok (.slice (some ⟨go, 0, none⟩) n cap) (xs.set i.toNat ys) ∧ W1.grownBy (W1.setCell ⟨go, i.toNat, none⟩ (.slice A1 ys.length c1)) (some go) ∧
   W1.cell? ⟨go, i.toNat, none⟩ = some (.slice A (rowB xs i).length c) ∧ W1.frozen? ⟨go, i.toNat, none⟩ = false := by
 have es : i.toNat * (Kd.slice e Kd.bool).sz = i.toNat := Nat.mul_one _
 have hH1 := Kd.H_grown (Kd.H_widen hH) hg (fun k hk => by cases hk)
 obtain ⟨hca, hfa⟩ := Kd.H_at hH1 h0 h1
 have hx := hca 0 _ rfl
 have hf := hfa 0
 rw [Nat.add_zero, es] at hx hf
 have hP := Kd.S_seg0 hH1 h0 h1 (seg := [.slice A1 ys.length c1]) (j := 0) (show 1 ≤ 1 from by decide) (x' := ys) (Kd.M_row hR1) (fun k hk => .inr ⟨hok k hk, hk⟩)
 rw [Nat.add_zero, es] at hP
 exact ⟨hP.1, hP.2, hx, hf⟩
/-- One element of a row of rows is written. -/
theorem bitB {m : Nat} (h : Kd.S (Kd.slice e Kd.bool) e2 W base ok (.slice (some ⟨go, 0, none⟩) n cap) xs) (i j : Int) (hm : (rowB xs i).length = m) (h0 : 0 ≤ i) (h1 : i < n) (j0 : 0 ≤ j) (j1 : j < m) :
  ∃ (r c : Nat), W.cell? ⟨go, i.toNat, none⟩ = some (.slice (some ⟨r, 0, none⟩) m c) ∧ W.cell? ⟨r, j.toNat, none⟩ = some (.bool (rdOf false (rowB xs i) j)) ∧ W.frozen? ⟨r, j.toNat, none⟩ = false ∧ base ≤ r ∧ ok r ∧
   ∀ x : Bool, Kd.S (Kd.slice e Kd.bool) e2 (W.setCell ⟨r, j.toNat, none⟩ (.bool x)) base ok (.slice (some ⟨go, 0, none⟩) n cap) (xs.set i.toNat ((rowB xs i).set j.toNat x)) ∧ W.grownBy (W.setCell ⟨r, j.toNat, none⟩ (.bool x)) (some r) := by
 have es : i.toNat * (Kd.slice e Kd.bool).sz = i.toNat := Nat.mul_one _
 obtain ⟨oki, cs, hcl, ⟨v, rfl, hR⟩, hcc, hoki, hback⟩ := Kd.S_borrow h [] i h0 h1
 have hR : Kd.bool.R e W base oki v (rowB xs i) := hR
 obtain ⟨r, c, rfl, hbr, hlt, _⟩ := Kd.R_form hR (by omega)
 have hcell := hcc 0 _ rfl
 rw [add_plain, Nat.add_zero, es] at hcell
 obtain ⟨cs2, hcl2, hM2, hcc2, hfr2⟩ := Kd.R_elem hR false j j0 (by omega)
 have ej : j.toNat * Kd.bool.sz = j.toNat := Nat.mul_one _
 have hf := hfr2 0
 rw [Nat.add_zero, ej] at hf
 obtain ⟨ad, ea, hx⟩ := Kd.at_bool (Kd.R_reads' hR).2.2 j j0 (by omega)
 cases ea
 rw [add_plain] at hx
 rw [hm] at hcell
 refine ⟨r, c, hcell, hx, hf, hbr, (hoki r (hR.1 r (by simp [Value.ownBlock]))).1, fun x => ?_⟩
 obtain ⟨q1, q2⟩ := Kd.R_putg hR j x
 refine ⟨hback q2 (fun k hk => ?_) ?_, q2⟩
 ·injection hk with hk
  exact hR.1 k (by rw [← hk]; simp [Value.ownBlock])
 ·exact Kd.M_row q1
end
noncomputable def doneI (l : List S40) (i : Nat) : List (List Bool) := (List.range i).map (rowI l) ++ List.replicate (l.length - i) []
theorem doneI_len (l : List S40) {i : Nat} (h : i ≤ l.length) : (doneI l i).length = l.length := by unfold doneI; simp; omega
theorem doneI_all (l : List S40) : doneI l l.length = (List.range l.length).map (rowI l) := by unfold doneI; simp
theorem doneI_set (l : List S40) {i : Nat} (h : i < l.length) : (doneI l i).set i (rowI l i) = doneI l (i + 1) := by
 unfold doneI
 rw [List.set_append_right _ _ (by simp), List.range_succ, List.map_append, List.append_assoc]
 congr 1
 rw [show l.length - i = (l.length - (i + 1)) + 1 by omega, List.replicate_succ]
 simp
/-- The row of i, as far as b. -/
noncomputable def prI (l : List S40) (i b : Nat) : List Bool := (List.range b).map (cellI l i) ++ List.replicate (l.length - b) false
theorem prI_len (l : List S40) (i : Nat) {b : Nat} (h : b ≤ l.length) : (prI l i b).length = l.length := by unfold prI; simp; omega
theorem prI_zero (l : List S40) (i : Nat) : prI l i 0 = List.replicate l.length false := by unfold prI; simp
theorem prI_all (l : List S40) (i : Nat) : prI l i l.length = (List.range l.length).map (cellI l i) := by unfold prI; simp
theorem prI_set (l : List S40) (i : Nat) {b : Nat} (h : b < l.length) : (prI l i b).set b (cellI l i b) = prI l i (b + 1) := by
 unfold prI
 rw [List.set_append_right _ _ (by simp), List.range_succ, List.map_append, List.append_assoc]
 congr 1
 rw [show l.length - b = (l.length - (b + 1)) + 1 by omega, List.replicate_succ]
 simp
theorem rowB_put (l : List S40) (i b : Nat) (hi : i < l.length) : rowB ((doneI l i).set i (prI l i b)) (i : Int) = prI l i b := by
 unfold rowB
 rw [Int.toNat_natCast, getD_at _ _ (by rw [List.length_set, doneI_len l (by omega)]; exact hi), List.getElem_set_self]
set_option maxRecDepth 100000 in
set_option maxHeartbeats 4000000 in
theorem truantref10_Is.calls (a0_0 : ByteArray) (A0_1 : Option Addr) (c0_1 : Nat) (l0_1 : List ByteArray) (a0_2 : ByteArray) (A0_3 : Option Addr) (c0_3 : Nat) (l0_3 : List ByteArray) (A0_4 : Option Addr) (c0_4 : Nat) (l0_4 : List (S58)) (A0_5 : Option Addr) (c0_5 : Nat) (l0_5 : List (S40)) (r : List (List Bool)) (w : World) (hr0_1 : Kd.C Kd.string w A0_1 l0_1.length l0_1) (hc0_1 : l0_1.length ≤ c0_1) (hr0_3 : Kd.C Kd.string w A0_3 l0_3.length l0_3) (hc0_3 : l0_3.length ≤ c0_3) (hr0_4 : Kd.C k58 w A0_4 l0_4.length l0_4) (hc0_4 : l0_4.length ≤ c0_4) (hr0_5 : Kd.C k40 w A0_5 l0_5.length l0_5) (hc0_5 : l0_5.length ≤ c0_5) (h : truantref10_Is.f a0_0 l0_1 a0_2 l0_3 l0_4 l0_5 = some r) :
  Calls Try.prog 44 #[.agg #[.string a0_0, .slice A0_1 l0_1.length c0_1, .string a0_2, .slice A0_3 l0_3.length c0_3, .slice A0_4 l0_4.length c0_4, .slice A0_5 l0_5.length c0_5]] w fun e w' => ∃ v0_ : Value, e = .returned (v0_) ∧ Kd.S (Kd.slice 4 Kd.bool) 31 w' w.heap.size (fun _ => True) v0_ r ∧ Below w.heap.size w w' := by
 unfold truantref10_Is.f at h
 split at h
 case isFalse => cases h
 rename_i hl
 obtain rfl := Option.some.inj h
 clear h
 have HL := Aside0.mk hl; clear hl
 have hb0 := below_alloc (Below.refl w.heap.size w) (.cells #[.string a0_0, .slice A0_1 l0_1.length c0_1, .string a0_2, .slice A0_3 l0_3.length c0_3, .slice A0_4 l0_4.length c0_4, .slice A0_5 l0_5.length c0_5] 26)
 have HB0 := Aside0.mk hb0; clear hb0
 have hblk := blk_new w (.cells #[.string a0_0, .slice A0_1 l0_1.length c0_1, .string a0_2, .slice A0_3 l0_3.length c0_3, .slice A0_4 l0_4.length c0_4, .slice A0_5 l0_5.length c0_5] 26)
 have HBX := Aside0.mk hblk; clear hblk
 obtain ⟨⟨k, hk⟩, hkl⟩ := ref_reach a0_0 l0_1 a0_2 l0_3 l0_4 l0_5 HL.out
 have HK := Aside0.mk hk; have HKL := Aside0.mk hkl; clear hk hkl
 have h5 := blk_cell HBX.out 5
 go_enter Try.func44, Try.ntmps44
 go_wp2_with fail
 refine (truantref09_Reached.calls k a0_0 A0_1 c0_1 l0_1 a0_2 A0_3 c0_3 l0_3 A0_4 c0_4 l0_4 A0_5 c0_5 l0_5 (reachL l0_5) _ (Kd.C_below hr0_1 HB0.out) hc0_1 (Kd.C_below hr0_3 HB0.out) hc0_3 (Kd.C_below hr0_4 HB0.out) hc0_4 (Kd.C_below hr0_5 HB0.out) hc0_5 HK.out).mono ?_
 rintro e W1 ⟨va, rfl, hRa, hb1⟩
 obtain ⟨Aa, ca, rfl⟩ := Kd.R_slice hRa
 have HCA := Aside0.mk (Kd.R_reads' hRa).2.2
 have HB1 := Aside0.mk (below_step HB0.out hb1)
 have HC5 := Aside0.mk (blk_below HBX.out hb1)
 clear hRa hb1 h5
 go_wp2_with (first | ((with_reducible refine gate_dst (N := 16) rfl ?_); refine Kd.S_make (w0 := W1) (Kd.slice 4 Kd.bool) W1.heap.size 31 rfl (N := 16) rfl 52 _ _ rfl (l0_5.length : Int) rfl rfl Try.underlying52 (.slice none 0 0) 24 info_rowB rfl (by decide) (by omega) [] (ok := fun _ => True) (okp := fun _ => True) ⟨_, rfl, Kd.R_nil _ _ _ _ _⟩ (fun _ hk => hk) trivial (Int.natCast_nonneg _) ?_ (Below.refl _ _) (Nat.le_refl _) ?_; (focus (rw [Int.toNat_natCast]; have := HL.out; omega)); intro vs W2 hS hb hg hnew; rw [Int.toNat_natCast] at hS; have HS := Aside0.mk hS; have HB2 := Aside0.mk hb; have HF := Aside0.mk (Kd.S_form hS); have HLR := Aside0.mk (show (List.replicate l0_5.length ([] : List Bool)).length = l0_5.length from List.length_replicate); clear hS hb hg hnew))
 go_loopg [6] l0_5.length (fun kq v6 wr => ∃ i : Nat, v6 = .int .i64 i ∧ i + kq = l0_5.length ∧ Aside0 (Below W1.heap.size W1 wr) ∧ Aside0 (Kd.S (Kd.slice 4 Kd.bool) 31 wr W1.heap.size (fun _ => True) vs (doneI l0_5 i)))
 case atStart => exact ⟨0, rfl, Nat.zero_add _, HB2, ⟨by have := HS.out; unfold doneI; simpa using this⟩⟩
 case round =>
  clear HB2 HS
  obtain ⟨i, rfl, hik, HB2, HS⟩ := hrel
  have hbig := HL.out
  by_cases hlt : i < l0_5.length
  ·obtain ⟨k1, rfl⟩ : ∃ k1, gk = k1 + 1 := ⟨gk - 1, by omega⟩
   obtain ⟨go, cap, hvs, hgo, -⟩ := HF.out (by rw [HLR.out]; omega)
   rw [HLR.out] at hvs
   subst hvs
   have HGO := Aside0.mk hgo; clear hgo
   have hlen0 := HLR.out
   obtain ⟨oki, A, c, hcell, hfr, hRL, hoki, hH⟩ := lendB HS.out (i : Int) (by omega) (by omega)
   rw [Int.toNat_natCast] at hcell hfr
   have HH := Aside0.mk hH; have HKI := Aside0.mk hoki
   clear hRL hH hoki
   go_upto_region 8 with (first | ((with_reducible refine gate_dst (N := 25) rfl ?_); refine Kd.R_make (w0 := W1) Kd.bool W1.heap.size 4 rfl (N := 25) rfl 31 _ _ rfl (l0_5.length : Int) rfl rfl Try.underlying31 (.bool false) 1 info4 rfl (by decide) (by omega) false (ok := fun k_ => wr.heap.size ≤ k_) (okp := fun _ => False) (show Kd.M Kd.bool _ _ _ false [.bool false] from rfl) (fun _ hk => hk.elim) (Nat.le_refl _) (Int.natCast_nonneg _) ?_ HB2.out HB2.out.size ?_; (focus (rw [Int.toNat_natCast]; omega)); intro v2 w3 hR hb hg hnew; rw [Int.toNat_natCast] at hR; obtain ⟨A1, c1, rfl⟩ := Kd.R_slice hR; rw [List.length_replicate] at hR; obtain ⟨hS4, hg4, hcell4, hfr4⟩ := newB (ys := List.replicate l0_5.length false) (A1 := A1) (c1 := c1) HH.out (by omega) (by omega) hg (fun _ _ => trivial) (by rw [List.length_replicate]; exact hR); rw [List.length_replicate] at hS4 hg4; rw [Int.toNat_natCast] at hS4 hg4 hcell4 hfr4; have HS4 := Aside0.mk hS4; have HB4 := Aside0.mk (Below.grown hb hg4 hb.size (fun k hk => by injection hk with hk; rw [← hk]; exact HGO.out)); clear hR hS4 hg4 hb hg hcell hfr hnew; obtain ⟨ada, ea, hxa⟩ := Kd.at_bool (Kd.C_below HCA.out HB4.out) (i : Int) (by omega) (by rw [HKL.out]; omega); cases ea; rw [Int.toNat_natCast] at hxa))
   have hil : (i : Int) < ((reachL l0_5).length : Int) := by rw [HKL.out]; omega
   have hil2 : i < (reachL l0_5).length := by omega
   by_cases hbt : rdOf false (reachL l0_5) (i : Int) = true
   ·have hnot : (!rdOf false (reachL l0_5) (i : Int)) = false := by rw [hbt]; rfl
    generalize w3.setCell ⟨go, i, none⟩ (.slice A1 l0_5.length c1) = w4 at *
    have hc5 := blk_cell (blk_below HC5.out HB4.out) 5
    go_upto_region 10 with (first
     | ((with_reducible refine gate_dst (N := 32) rfl ?_); refine Kd.N_lit k40 (w0 := w4) w4.heap.size 40 rfl (N' := 32) rfl (xs := ([] : List S40)) (inner := []) (ok := fun _ => True) (okp := fun _ => False) ?hr ⟨rfl, fun j p hj => by simp at hj⟩ (fun _ hk => hk.elim) trivial (Below.refl _ _) (Nat.le_refl _) (by simp) ?_; (case hr => first | (go_simp; done) | (go_simp; rfl)); intro v5 w5 hN hb hg hnew; have HN5 := Aside0.mk hN; have HB5 := Aside0.mk hb; obtain ⟨A5, c5, rfl⟩ := Kd.N_slice hN; have hc5 := blk_cell (blk_below (blk_below HC5.out HB4.out) hb) 5; clear hN hb hg hnew)
     | ((with_reducible refine gate_dst (N := 35) rfl ?_); at_builtin; refine Kd.N_append_rows k40 (w0 := w4) w4.heap.size rfl (.tmp 32) (.tmp 34) 24 40 (.agg #[(.slice none 0 0), (.int .i64 0), (.int .i64 0), (.int .i64 0), (.int .i64 0)]) 56 rfl Try.underlying24 info40 rfl (by decide) (by omega) (.slice A5 ([] : List S40).length c5) [] l0_5 A0_5 l0_5.length c0_5 (fun _ => True) (fun k_ => k_ < w.heap.size) rfl rfl HN5.out (Kd.F_below (Kd.C_F heapBlk hr0_5) (below_step (below_step HB1.out HB4.out) HB5.out)) (fun k_ hk => ⟨trivial, fun he => by have := Kd.N_base HN5.out k_ he.symm; have := HB1.out.size; have := HB4.out.size; omega⟩) (fun _ _ => trivial) HB5.out HB5.out.size ?hl ?_; (case hl => (simp only [List.length_nil]; omega)); intro v6 w6 hN hb hg hat; rw [List.nil_append] at hN; obtain ⟨gN, capN, rfl, hgN, -⟩ := Kd.N_form hN (by omega); have HN6 := Aside0.mk hN; have HB6 := Aside0.mk hb; have HGN := Aside0.mk hgN; clear hN hb hg hat hgN))
    have hle6 := HB6.out.size
    have HN7 := Aside0.mk (Kd.N_alloc HN6.out (.cells #[.string ⟨#[]⟩, .slice none 0 0, .string ⟨#[]⟩, .slice none 0 0, .slice none 0 0, .slice (some ⟨gN, 0, none⟩) l0_5.length capN] 26))
    obtain ⟨cI, hcl, hFK, hcc, hfz⟩ := Kd.N_elem HN7.out z40 (i : Int) (by omega) (by omega)
    obtain ⟨A0i, c0i, rfl, hl0, hC0⟩ := k40_open (Kd.FK_now hFK)
    have hFK2 : Kd.FK k40 (w6.alloc (.cells #[.string ⟨#[]⟩, .slice none 0 0, .string ⟨#[]⟩, .slice none 0 0, .slice none 0 0, .slice (some ⟨gN, 0, none⟩) l0_5.length capN] 26)) (fun k => True ∧ k ≠ gN) { rd_T40 l0_5 (i : Int) with f1 := 3 } [.slice A0i (rd_T40 l0_5 (i : Int)).f0.length c0i, .int .i64 3, .int .i64 (rd_T40 l0_5 (i : Int)).f2, .int .i64 (rd_T40 l0_5 (i : Int)).f3.f0, .int .i64 (rd_T40 l0_5 (i : Int)).f3.f1] := fun W' hW => by
     obtain ⟨A', c', e, l1, g1⟩ := k40_open (hFK W' hW)
     injection e with e _
     injection e with e1 _ e2
     subst e1 e2
     exact k40_mk W' { rd_T40 l0_5 (i : Int) with f1 := 3 } l1 g1
    have hN8 := Kd.N_seg HN7.out (i : Int) (by omega) (by omega) hcl hcc (seg := [.int .i64 3]) (j := 1) (x' := { rd_T40 l0_5 (i : Int) with f1 := 3 }) (show 2 ≤ 5 from by decide) hFK2 (fun _ hk => hk)
    have hcJ : (w6.alloc (.cells #[.string ⟨#[]⟩, .slice none 0 0, .string ⟨#[]⟩, .slice none 0 0, .slice none 0 0, .slice (some ⟨gN, 0, none⟩) l0_5.length capN] 26)).cell? ⟨gN, i * 5 + 1, none⟩ = some (.int .i64 (rd_T40 l0_5 (i : Int)).f1) := hcc 1 _ rfl
    have hfJ : (w6.alloc (.cells #[.string ⟨#[]⟩, .slice none 0 0, .string ⟨#[]⟩, .slice none 0 0, .slice none 0 0, .slice (some ⟨gN, 0, none⟩) l0_5.length capN] 26)).frozen? ⟨gN, i * 5 + 1, none⟩ = false := hfz 1
    have hN9 : Kd.N k40 40 ((w6.alloc (.cells #[.string ⟨#[]⟩, .slice none 0 0, .string ⟨#[]⟩, .slice none 0 0, .slice none 0 0, .slice (some ⟨gN, 0, none⟩) l0_5.length capN] 26)).setCell ⟨gN, i * 5 + 1, none⟩ (.int .i64 3)) w4.heap.size (fun _ => True) (.slice (some ⟨gN, 0, none⟩) l0_5.length capN) (noJ l0_5 i) := hN8.1
    have hB8 := below_alloc HB6.out (.cells #[.string ⟨#[]⟩, .slice none 0 0, .string ⟨#[]⟩, .slice none 0 0, .slice none 0 0, .slice (some ⟨gN, 0, none⟩) l0_5.length capN] 26)
    have hg8 : World.grownBy (w6.alloc (.cells #[.string ⟨#[]⟩, .slice none 0 0, .string ⟨#[]⟩, .slice none 0 0, .slice none 0 0, .slice (some ⟨gN, 0, none⟩) l0_5.length capN] 26)) ((w6.alloc (.cells #[.string ⟨#[]⟩, .slice none 0 0, .string ⟨#[]⟩, .slice none 0 0, .slice none 0 0, .slice (some ⟨gN, 0, none⟩) l0_5.length capN] 26)).setCell ⟨gN, i * 5 + 1, none⟩ (.int .i64 3)) (some gN) := hN8.2
    have hlt6 : gN < w6.heap.size := Kd.N_lt HN6.out gN (by simp [Value.ownBlock])
    have hbase6 : w4.heap.size ≤ gN := Kd.N_base HN6.out gN (by simp [Value.ownBlock])
    have hblkG : ((w6.alloc (.cells #[.string ⟨#[]⟩, .slice none 0 0, .string ⟨#[]⟩, .slice none 0 0, .slice none 0 0, .slice (some ⟨gN, 0, none⟩) l0_5.length capN] 26)).setCell ⟨gN, i * 5 + 1, none⟩ (.int .i64 3)).heap[w6.heap.size]? = some (.cells #[.string ⟨#[]⟩, .slice none 0 0, .string ⟨#[]⟩, .slice none 0 0, .slice none 0 0, .slice (some ⟨gN, 0, none⟩) l0_5.length capN] 26 (0, 0)) := by
     rw [Below.heap_setCell _ _ _ _ (show w6.heap.size ≠ gN by omega)]
     exact blk_new w6 _
    have hB9 := Below.grown hB8 hg8 hB8.size (fun k hk => by injection hk with hk; omega)
    have hq0 := blk_cell hblkG 0
    have hq1 := blk_cell hblkG 1
    have hq2 := blk_cell hblkG 2
    have hq3 := blk_cell hblkG 3
    have hq4 := blk_cell hblkG 4
    have hq5 := blk_cell hblkG 5
    obtain ⟨⟨k2, hk2⟩, hkl2⟩ := ref_reach ⟨#[]⟩ [] ⟨#[]⟩ [] [] (noJ l0_5 i) (by rw [noJ_len]; exact HL.out)
    rw [noJ_len] at hkl2
    have hC9 := (Kd.N_reads' hN9).2.2
    have hcap9 := (Kd.N_reads' hN9).2.1
    have hcm := World.setCell_alloc_past (w := w6) (.cells #[.string ⟨#[]⟩, .slice none 0 0, .string ⟨#[]⟩, .slice none 0 0, .slice none 0 0, .slice (some ⟨gN, 0, none⟩) l0_5.length capN] 26) gN (i * 5 + 1) (.int .i64 3) hlt6
    rw [hcm] at hC9 hB9
    have HK2 := Aside0.mk hk2; have HKL2 := Aside0.mk hkl2; have HC9 := Aside0.mk hC9; have HCAP := Aside0.mk hcap9; have HB9 := Aside0.mk hB9
    clear hk2 hkl2 hC9 hcap9 hB9 hB8 hg8 hN8 hN9 hFK hFK2 hcc hfz hcl hC0 hblkG HN7 hc5 hxa
    go_wp2_with fail
    have hcall := truantref09_Reached.calls k2 ⟨#[]⟩ none 0 [] ⟨#[]⟩ none 0 [] none 0 [] (some ⟨gN, 0, none⟩) capN (noJ l0_5 i) (reachL (noJ l0_5 i)) ((w6.setCell ⟨gN, i * 5 + 1, none⟩ (.int .i64 3)).alloc (.cells #[.string ⟨#[]⟩, .slice none 0 0, .string ⟨#[]⟩, .slice none 0 0, .slice none 0 0, .slice (some ⟨gN, 0, none⟩) l0_5.length capN] 26)) (Kd.R_reads' (Kd.R_nil _ 0 _ 0 (fun _ => True))).2.2 (Nat.le_refl _) (Kd.R_reads' (Kd.R_nil _ 0 _ 0 (fun _ => True))).2.2 (Nat.le_refl _) (Kd.R_reads' (Kd.R_nil _ 0 _ 0 (fun _ => True))).2.2 (Nat.le_refl _) HC9.out (by rw [noJ_len]; exact HCAP.out) HK2.out
    rw [noJ_len] at hcall
    refine hcall.mono ?_
    rintro e w8 ⟨v8, rfl, hR8, hb8⟩
    have hB8 := below_step HB9.out hb8
    have hS8 : Kd.S (Kd.slice 4 Kd.bool) 31 w8 W1.heap.size (fun k => k < w4.heap.size) (.slice (some ⟨go, 0, none⟩) l0_5.length cap) ((doneI l0_5 i).set i (prI l0_5 i 0)) := by
     rw [prI_zero]
     exact Kd.S_below (Kd.S_mono (Kd.S_bound HS4.out) (fun k hk => hk.2.2.1)) hB8
    have hR9 : Kd.bool.R 4 w8 w4.heap.size (fun k => w4.heap.size ≤ k) v8 (reachL (noJ l0_5 i)) := Kd.R_lower (Kd.R_mono (Kd.R_bound hR8) (fun k hk => Nat.le_trans HB9.out.size hk.2.1)) HB9.out.size
    obtain ⟨A8, c8, rfl⟩ := Kd.R_slice hR9
    have HR8 := Aside0.mk hR9; have HS8 := Aside0.mk hS8; have HB8 := Aside0.mk (below_step HB4.out hB8)
    clear hR8 hR9 hS8 hB8 hb8 hcall hq0 hq1 hq2 hq3 hq4 hq5
    go_wp2
    go_loopg [9] l0_5.length (fun kq v9 wr2 => ∃ b : Nat, v9 = .int .i64 b ∧ b + kq = l0_5.length ∧ Aside0 (Below W1.heap.size W1 wr2) ∧ Aside0 (Kd.S (Kd.slice 4 Kd.bool) 31 wr2 W1.heap.size (fun k => k < w4.heap.size) (.slice (some ⟨go, 0, none⟩) l0_5.length cap) ((doneI l0_5 i).set i (prI l0_5 i b))) ∧ Aside0 (Kd.bool.R 4 wr2 w4.heap.size (fun k => w4.heap.size ≤ k) (.slice A8 (reachL (noJ l0_5 i)).length c8) (reachL (noJ l0_5 i))))
    case atStart => exact ⟨0, rfl, Nat.zero_add _, HB8, HS8, HR8⟩
    case round =>
     clear HS8 HR8 HB8
     obtain ⟨b, rfl, hbk, HB8, HS8, HR8⟩ := hrel
     have hbig2 := HL.out
     by_cases hb : b < l0_5.length
     ·obtain ⟨k3, rfl⟩ : ∃ k3, gk = k3 + 1 := ⟨gk - 1, by omega⟩
      have hpl : (rowB ((doneI l0_5 i).set i (prI l0_5 i b)) (i : Int)).length = l0_5.length := by rw [rowB_put l0_5 i b hlt, prI_len l0_5 i (by omega)]
      obtain ⟨rr, cr, hcell, hbit, hfz, hbr, hokr, hput⟩ := bitB HS8.out (i : Int) (b : Int) hpl (by omega) (by omega) (by omega) (by omega)
      rw [rowB_put l0_5 i b hlt] at hput
      simp only [Int.toNat_natCast] at hcell hbit hfz hput
      obtain ⟨ada', ea, hxb⟩ := Kd.at_bool (Kd.C_below HCA.out HB8.out) (b : Int) (by omega) (by rw [HKL.out]; omega)
      cases ea
      obtain ⟨ad8, e8, hx8⟩ := Kd.at_bool (Kd.R_reads' HR8.out).2.2 (b : Int) (by omega) (by rw [HKL2.out]; omega)
      subst e8
      rw [rdOf_nat, Int.toNat_natCast] at hxb hx8
      have hl1 : b < (reachL l0_5).length := by rw [HKL.out]; omega
      have hl2 : b < (reachL (noJ l0_5 i)).length := by rw [HKL2.out]; omega
      have hl3 : (b : Int) < ((reachL l0_5).length : Int) := by rw [HKL.out]; omega
      have hl4 : (b : Int) < ((reachL (noJ l0_5 i)).length : Int) := by rw [HKL2.out]; omega
      have HPUT : Aside0 (∀ x : Bool, cellI l0_5 i b = x → Below W1.heap.size W1 (wr.setCell ⟨rr, b, none⟩ (.bool x)) ∧ Kd.S (Kd.slice 4 Kd.bool) 31 (wr.setCell ⟨rr, b, none⟩ (.bool x)) W1.heap.size (fun k => k < w4.heap.size) (.slice (some ⟨go, 0, none⟩) l0_5.length cap) ((doneI l0_5 i).set i (prI l0_5 i (b + 1))) ∧
        Kd.bool.R 4 (wr.setCell ⟨rr, b, none⟩ (.bool x)) w4.heap.size (fun k => w4.heap.size ≤ k) (.slice (some ad8) (reachL (noJ l0_5 i)).length c8) (reachL (noJ l0_5 i))) := ⟨fun x hx => by
       obtain ⟨p1, p2⟩ := hput x
       refine ⟨Below.grown HB8.out p2 HB8.out.size (fun k hk => by injection hk with hk; rw [← hk]; exact hbr), ?_, Kd.R_grown HR8.out p2 (fun k hk e => by injection e with e; omega)⟩
       rw [List.set_set] at p1
       have p3 := prI_set l0_5 i hb
       rw [hx] at p3
       rw [p3] at p1
       exact p1⟩
      have HI1 := Aside0.mk hpl
      clear hput hpl hbr hokr
      cases h1 : (reachL l0_5).getD b false with
      | false =>
       rw [h1] at hxb
       have hv : cellI l0_5 i b = false := by unfold cellI; rw [h1]; rfl
       have HV := Aside0.mk hv; clear hv h1
       go_wp2
       go_region
       go_wp2
       go_roundg k3
       case measure => omega
       case rel => exact ⟨b + 1, by go_num, by omega, ⟨below_drew (HPUT.out _ HV.out).1⟩, ⟨Kd.S_drew (HPUT.out _ HV.out).2.1⟩, ⟨Kd.R_drew (HPUT.out _ HV.out).2.2⟩⟩
      | true =>
       rw [h1] at hxb
       by_cases h2 : i = b
       ·have hv : cellI l0_5 i b = true := by unfold cellI; rw [h1, decide_eq_true h2]; rfl
        have HV := Aside0.mk hv; clear hv h1
        have hq : ((i : Int) == (b : Int)) = true := beq_iff_eq.mpr (by omega)
        clear h2
        go_wp2
        go_region
        go_wp2
        go_roundg k3
        case measure => omega
        case rel => exact ⟨b + 1, by go_num, by omega, ⟨below_drew (HPUT.out _ HV.out).1⟩, ⟨Kd.S_drew (HPUT.out _ HV.out).2.1⟩, ⟨Kd.R_drew (HPUT.out _ HV.out).2.2⟩⟩
       ·have hq : ((i : Int) == (b : Int)) = false := beq_eq_false_iff_ne.mpr (by omega)
        by_cases h3 : i = 0
        ·have hv : cellI l0_5 i b = true := by unfold cellI; rw [h1, decide_eq_true h3]; simp
         have HV := Aside0.mk hv; clear hv h1
         have hq0 : ((i : Int) == 0) = true := beq_iff_eq.mpr (by omega)
         clear h2 h3
         go_wp2
         go_region
         go_wp2
         go_roundg k3
         case measure => omega
         case rel => exact ⟨b + 1, by go_num, by omega, ⟨below_drew (HPUT.out _ HV.out).1⟩, ⟨Kd.S_drew (HPUT.out _ HV.out).2.1⟩, ⟨Kd.R_drew (HPUT.out _ HV.out).2.2⟩⟩
        ·have hq0 : ((i : Int) == 0) = false := beq_eq_false_iff_ne.mpr (by omega)
         have hv : cellI l0_5 i b = !(reachL (noJ l0_5 i)).getD b false := by unfold cellI; rw [h1, decide_eq_false h2, decide_eq_false h3]; simp
         obtain ⟨q8, hq8⟩ : ∃ q8, q8 = (reachL (noJ l0_5 i)).getD b false := ⟨_, rfl⟩
         rw [← hq8] at hx8 hv
         have HV := Aside0.mk hv; clear hv h1 h2 h3 hq8
         go_wp2
         go_region
         go_wp2
         go_roundg k3
         case measure => omega
         case rel => exact ⟨b + 1, by go_num, by omega, ⟨below_drew (HPUT.out _ HV.out).1⟩, ⟨Kd.S_drew (HPUT.out _ HV.out).2.1⟩, ⟨Kd.R_drew (HPUT.out _ HV.out).2.2⟩⟩
     ·have hbe : b = l0_5.length := by omega
      have HBE := Aside0.mk hbe; clear hbe
      have hS5 := Kd.S_mono HS8.out (ok' := fun _ => True) (fun _ _ => trivial)
      rw [HBE.out, prI_all] at hS5
      have hrow : rowI l0_5 i = (List.range l0_5.length).map (cellI l0_5 i) := by
       unfold rowI
       rw [if_pos (by unfold rdOf at hbt; rwa [Int.toNat_natCast] at hbt)]
      rw [← hrow, doneI_set l0_5 hlt] at hS5
      have HS5 := Aside0.mk hS5; clear hS5 hrow
      go_wp2
      go_roundg k1
      case measure => omega
      case rel => exact ⟨i + 1, by go_num, by omega, HB8, HS5⟩
   ·have hnot : (!rdOf false (reachL l0_5) (i : Int)) = true := by simpa using hbt
    have hrow : rowI l0_5 i = List.replicate l0_5.length false := by
     unfold rowI
     rw [if_neg (by unfold rdOf at hbt; rwa [Int.toNat_natCast] at hbt)]
    go_wp2
    go_roundg k1
    case measure => omega
    case rel => exact ⟨i + 1, by go_num, by omega, HB4, ⟨by rw [← doneI_set l0_5 hlt, hrow]; exact HS4.out⟩⟩
  ·have hi : i = l0_5.length := by omega
   go_wp2
   go_ret
   refine ⟨_, rfl, ?_, below_step HB1.out HB2.out⟩
   rw [← doneI_all, ← hi]
   exact Kd.S_lower HS.out HB1.out.size
end Go.Proofs.Ytclhjalgflebfaa.Q

/- The document's Front: rows of Bools again; by hand. -/

namespace Go.Proofs.Ytclhjalgflebfaa.Q
open Go.RowKit Go.Proofs.YtclhjalgflebfaaW.PrintWords Go.Proofs.YtclhjalgflebfaaW.PrintLast Go.Proofs.YtclhjalgflebfaaW.PrintMore
set_option linter.unusedVariables false
set_option linter.unusedSimpArgs false
def stepFr (isr : List Bool) (a : Nat) (row : List Bool) (t : Int) : List Bool := if (a : Int) = t ∨ rdOf false isr t = false then row.set t.toNat true else row
theorem foldFr_len (isr : List Bool) (a : Nat) : ∀ (ts : List Int) (row : List Bool), (ts.foldl (stepFr isr a) row).length = row.length
 | [], row => rfl
 | t :: ts, row => by
  show (ts.foldl (stepFr isr a) (stepFr isr a row t)).length = _
  rw [foldFr_len isr a ts]
  unfold stepFr
  split
  ·rw [List.length_set]
  ·rfl
/-- The front's row of a, as far as p. -/
def frTo (l : List S40) (isr : List Bool) (a : Nat) : Nat → List Bool
 | 0 => List.replicate l.length false
 | p + 1 => if isr.getD p false = true then (nextOf l (p : Int)).foldl (stepFr isr a) (frTo l isr a p) else frTo l isr a p
theorem frTo_len (l : List S40) (isr : List Bool) (a : Nat) : ∀ p, (frTo l isr a p).length = l.length
 | 0 => List.length_replicate
 | p + 1 => by
  unfold frTo
  split
  ·rw [foldFr_len, frTo_len l isr a p]
  ·exact frTo_len l isr a p
noncomputable def frRow (l : List S40) (a : Nat) : List Bool := frTo l (rowI l a) a l.length
noncomputable def truantref10_Front.f (a0_0 : ByteArray) (l0_1 : List ByteArray) (a0_2 : ByteArray) (l0_3 : List ByteArray) (l0_4 : List (S58)) (l0_5 : List (S40)) : Option (List (List Bool)) := if l0_5.length ≤ 1000000 then some ((List.range l0_5.length).map (frRow l0_5)) else none
noncomputable def doneF (l : List S40) (i : Nat) : List (List Bool) := (List.range i).map (frRow l) ++ List.replicate (l.length - i) []
theorem doneF_len (l : List S40) {i : Nat} (h : i ≤ l.length) : (doneF l i).length = l.length := by unfold doneF; simp; omega
theorem doneF_all (l : List S40) : doneF l l.length = (List.range l.length).map (frRow l) := by unfold doneF; simp
theorem doneF_set (l : List S40) {i : Nat} (h : i < l.length) : (doneF l i).set i (frRow l i) = doneF l (i + 1) := by
 unfold doneF
 rw [List.set_append_right _ _ (by simp), List.range_succ, List.map_append, List.append_assoc]
 congr 1
 rw [show l.length - i = (l.length - (i + 1)) + 1 by omega, List.replicate_succ]
 simp
theorem rowF_put (l : List S40) (i : Nat) (row : List Bool) (hi : i < l.length) : rowB ((doneF l i).set i row) (i : Int) = row := by
 unfold rowB
 rw [Int.toNat_natCast, getD_at _ _ (by rw [List.length_set, doneF_len l (by omega)]; exact hi), List.getElem_set_self]
theorem rowI_len (l : List S40) (a : Nat) : (rowI l a).length = l.length := by
 unfold rowI
 split <;> simp
theorem isRow (l : List S40) {i : Nat} (hi : i < l.length) : rowB ((List.range l.length).map (rowI l)) (i : Int) = rowI l i := by
 unfold rowB
 rw [Int.toNat_natCast, getD_at _ _ (by simpa using hi)]
 simp
theorem rowb_at {W : World} {A : Option Addr} {n : Nat} {e : Nat} {h : List (List Bool)} (hc : (Kd.slice e Kd.bool).C W A n h) (i : Int) (h0 : 0 ≤ i) (h1 : i < n) :
  ∃ ad Ai ci, A = some ad ∧ W.cell? (ad.add i.toNat) = some (.slice Ai (rowB h i).length ci) ∧ (rowB h i).length ≤ ci ∧ Kd.bool.C W Ai (rowB h i).length (rowB h i) := by
 obtain ⟨ad, c, rfl, _, hk, hx⟩ := Kd.C_get hc [] i h0 h1
 obtain ⟨Ai, ci, rfl, hle, hC⟩ := hk
 have := hx 0 _ rfl
 rw [show i.toNat * (Kd.slice e Kd.bool).sz + 0 = i.toNat by show i.toNat * 1 + 0 = i.toNat; omega] at this
 exact ⟨ad, Ai, ci, rfl, this, hle, hC⟩
set_option maxRecDepth 100000 in
set_option maxHeartbeats 4000000 in
theorem truantref10_Front.calls (a0_0 : ByteArray) (A0_1 : Option Addr) (c0_1 : Nat) (l0_1 : List ByteArray) (a0_2 : ByteArray) (A0_3 : Option Addr) (c0_3 : Nat) (l0_3 : List ByteArray) (A0_4 : Option Addr) (c0_4 : Nat) (l0_4 : List (S58)) (A0_5 : Option Addr) (c0_5 : Nat) (l0_5 : List (S40)) (r : List (List Bool)) (w : World) (hr0_1 : Kd.C Kd.string w A0_1 l0_1.length l0_1) (hc0_1 : l0_1.length ≤ c0_1) (hr0_3 : Kd.C Kd.string w A0_3 l0_3.length l0_3) (hc0_3 : l0_3.length ≤ c0_3) (hr0_4 : Kd.C k58 w A0_4 l0_4.length l0_4) (hc0_4 : l0_4.length ≤ c0_4) (hr0_5 : Kd.C k40 w A0_5 l0_5.length l0_5) (hc0_5 : l0_5.length ≤ c0_5) (h : truantref10_Front.f a0_0 l0_1 a0_2 l0_3 l0_4 l0_5 = some r) :
  Calls Try.prog 46 #[.agg #[.string a0_0, .slice A0_1 l0_1.length c0_1, .string a0_2, .slice A0_3 l0_3.length c0_3, .slice A0_4 l0_4.length c0_4, .slice A0_5 l0_5.length c0_5]] w fun e w' => ∃ v0_ : Value, e = .returned (v0_) ∧ Kd.S (Kd.slice 4 Kd.bool) 31 w' w.heap.size (fun _ => True) v0_ r ∧ Below w.heap.size w w' := by
 unfold truantref10_Front.f at h
 split at h
 case isFalse => cases h
 rename_i hl
 obtain rfl := Option.some.inj h
 clear h
 have HIS : Aside0 (truantref10_Is.f a0_0 l0_1 a0_2 l0_3 l0_4 l0_5 = some ((List.range l0_5.length).map (rowI l0_5))) := ⟨if_pos hl⟩
 have HL := Aside0.mk hl; clear hl
 have hb0 := below_alloc (Below.refl w.heap.size w) (.cells #[.string a0_0, .slice A0_1 l0_1.length c0_1, .string a0_2, .slice A0_3 l0_3.length c0_3, .slice A0_4 l0_4.length c0_4, .slice A0_5 l0_5.length c0_5] 26)
 have HB0 := Aside0.mk hb0; clear hb0
 have hblk := blk_new w (.cells #[.string a0_0, .slice A0_1 l0_1.length c0_1, .string a0_2, .slice A0_3 l0_3.length c0_3, .slice A0_4 l0_4.length c0_4, .slice A0_5 l0_5.length c0_5] 26)
 have HBX := Aside0.mk hblk; clear hblk
 go_enter Try.func46, Try.ntmps46
 go_wp2_with fail
 refine (truantref10_Is.calls a0_0 A0_1 c0_1 l0_1 a0_2 A0_3 c0_3 l0_3 A0_4 c0_4 l0_4 A0_5 c0_5 l0_5 ((List.range l0_5.length).map (rowI l0_5)) _ (Kd.C_below hr0_1 HB0.out) hc0_1 (Kd.C_below hr0_3 HB0.out) hc0_3 (Kd.C_below hr0_4 HB0.out) hc0_4 (Kd.C_below hr0_5 HB0.out) hc0_5 HIS.out).mono ?_
 rintro e W1 ⟨vi, rfl, hSi, hb1⟩
 obtain ⟨Ai, ci, rfl, hcle, hCi⟩ := Kd.S_reads hSi
 have hrl : ((List.range l0_5.length).map (rowI l0_5)).length = l0_5.length := by simp
 rw [hrl] at hCi
 have HCI := Aside0.mk hCi
 have HB1 := Aside0.mk (below_step HB0.out hb1)
 have HC5 := Aside0.mk (blk_below HBX.out hb1)
 have h0c := blk_cell (blk_below HBX.out hb1) 0
 have h1c := blk_cell (blk_below HBX.out hb1) 1
 have h2c := blk_cell (blk_below HBX.out hb1) 2
 have h3c := blk_cell (blk_below HBX.out hb1) 3
 have h4c := blk_cell (blk_below HBX.out hb1) 4
 have h5c := blk_cell (blk_below HBX.out hb1) 5
 have HRL0 := Aside0.mk hrl
 clear hSi hb1 hCi hcle
 go_wp2_with (first | ((with_reducible refine gate_dst (N := 16) rfl ?_); refine Kd.S_make (w0 := W1) (Kd.slice 4 Kd.bool) W1.heap.size 31 rfl (N := 16) rfl 52 _ _ rfl (l0_5.length : Int) rfl rfl Try.underlying52 (.slice none 0 0) 24 info_rowB rfl (by decide) (by omega) [] (ok := fun _ => True) (okp := fun _ => True) ⟨_, rfl, Kd.R_nil _ _ _ _ _⟩ (fun _ hk => hk) trivial (Int.natCast_nonneg _) ?_ (Below.refl _ _) (Nat.le_refl _) ?_; (focus (rw [Int.toNat_natCast]; have := HL.out; omega)); intro vs W2 hS hb hg hnew; rw [Int.toNat_natCast] at hS; have HS := Aside0.mk hS; have HB2 := Aside0.mk hb; have HF := Aside0.mk (Kd.S_form hS); have HLR := Aside0.mk (show (List.replicate l0_5.length ([] : List Bool)).length = l0_5.length from List.length_replicate); clear hS hb hg hnew))
 go_loopg [6] l0_5.length (fun kq v6 wr => ∃ i : Nat, v6 = .int .i64 i ∧ i + kq = l0_5.length ∧ Aside0 (Below W1.heap.size W1 wr) ∧ Aside0 (Kd.S (Kd.slice 4 Kd.bool) 31 wr W1.heap.size (fun _ => True) vs (doneF l0_5 i)))
 case atStart => exact ⟨0, rfl, Nat.zero_add _, HB2, ⟨by have := HS.out; unfold doneF; simpa using this⟩⟩
 case round =>
  clear HB2 HS h0c h1c h2c h3c h4c h5c
  obtain ⟨i, rfl, hik, HB2, HS⟩ := hrel
  have hbig := HL.out
  by_cases hlt : i < l0_5.length
  ·obtain ⟨k1, rfl⟩ : ∃ k1, gk = k1 + 1 := ⟨gk - 1, by omega⟩
   obtain ⟨go, cap, hvs, hgo, -⟩ := HF.out (by rw [HLR.out]; omega)
   rw [HLR.out] at hvs
   subst hvs
   have HGO := Aside0.mk hgo; clear hgo
   have hlen0 := HLR.out
   obtain ⟨oki, A, c, hcell, hfr, hRL, hoki, hH⟩ := lendB HS.out (i : Int) (by omega) (by omega)
   rw [Int.toNat_natCast] at hcell hfr
   have HH := Aside0.mk hH; have HKI := Aside0.mk hoki
   clear hRL hH hoki
   go_upto_region 8 with (first | ((with_reducible refine gate_dst (N := 25) rfl ?_); refine Kd.R_make (w0 := W1) Kd.bool W1.heap.size 4 rfl (N := 25) rfl 31 _ _ rfl (l0_5.length : Int) rfl rfl Try.underlying31 (.bool false) 1 info4 rfl (by decide) (by omega) false (ok := fun k_ => wr.heap.size ≤ k_) (okp := fun _ => False) (show Kd.M Kd.bool _ _ _ false [.bool false] from rfl) (fun _ hk => hk.elim) (Nat.le_refl _) (Int.natCast_nonneg _) ?_ HB2.out HB2.out.size ?_; (focus (rw [Int.toNat_natCast]; omega)); intro v2 w3 hR hb hg hnew; rw [Int.toNat_natCast] at hR; obtain ⟨A1, c1, rfl⟩ := Kd.R_slice hR; rw [List.length_replicate] at hR; obtain ⟨hS4, hg4, hcell4, hfr4⟩ := newB (ys := List.replicate l0_5.length false) (A1 := A1) (c1 := c1) HH.out (by omega) (by omega) hg (fun _ _ => trivial) (by rw [List.length_replicate]; exact hR); rw [List.length_replicate] at hS4 hg4; rw [Int.toNat_natCast] at hS4 hg4 hcell4 hfr4; have HS4 := Aside0.mk hS4; have HB4 := Aside0.mk (Below.grown hb hg4 hb.size (fun k hk => by injection hk with hk; rw [← hk]; exact HGO.out)); clear hR hS4 hg4 hb hg hcell hfr hnew))
   generalize w3.setCell ⟨go, i, none⟩ (.slice A1 l0_5.length c1) = w4 at *
   have hS5 : Kd.S (Kd.slice 4 Kd.bool) 31 w4 W1.heap.size (fun _ => True) (.slice (some ⟨go, 0, none⟩) l0_5.length cap) ((doneF l0_5 i).set i (frTo l0_5 (rowI l0_5 i) i 0)) := HS4.out
   have HS5 := Aside0.mk hS5; clear hS5 HS4
   go_wp2
   go_loopg [7] l0_5.length (fun kq v7 wr2 => ∃ p : Nat, v7 = .int .i64 p ∧ p + kq = l0_5.length ∧ Aside0 (Below W1.heap.size W1 wr2) ∧ Aside0 (Kd.S (Kd.slice 4 Kd.bool) 31 wr2 W1.heap.size (fun _ => True) (.slice (some ⟨go, 0, none⟩) l0_5.length cap) ((doneF l0_5 i).set i (frTo l0_5 (rowI l0_5 i) i p))))
   case atStart => exact ⟨0, rfl, Nat.zero_add _, HB4, HS5⟩
   case round =>
    clear HS5 HB4
    obtain ⟨p, rfl, hpk, HB4, HS5⟩ := hrel
    by_cases hp : p < l0_5.length
    ·obtain ⟨k2, rfl⟩ : ∃ k2, gk = k2 + 1 := ⟨gk - 1, by omega⟩
     obtain ⟨kn, hkn⟩ := (refNext a0_0 l0_1 a0_2 l0_3 l0_4 l0_5 (p : Int)).rounds
     have HKN := Aside0.mk hkn; clear hkn
     have h0c := blk_cell (blk_below HC5.out HB4.out) 0
     have h1c := blk_cell (blk_below HC5.out HB4.out) 1
     have h2c := blk_cell (blk_below HC5.out HB4.out) 2
     have h3c := blk_cell (blk_below HC5.out HB4.out) 3
     have h4c := blk_cell (blk_below HC5.out HB4.out) 4
     have h5c := blk_cell (blk_below HC5.out HB4.out) 5
     have HB14 := Aside0.mk (below_step HB1.out HB4.out)
     go_wp2_with fail
     refine (truantref09_Next.calls kn a0_0 A0_1 c0_1 l0_1 a0_2 A0_3 c0_3 l0_3 A0_4 c0_4 l0_4 A0_5 c0_5 l0_5 (p : Int) (nextOf l0_5 (p : Int)) _ (Kd.C_below hr0_1 HB14.out) hc0_1 (Kd.C_below hr0_3 HB14.out) hc0_3 (Kd.C_below hr0_4 HB14.out) hc0_4 (Kd.C_below hr0_5 HB14.out) hc0_5 HKN.out).mono ?_
     rintro e w6 ⟨vt, rfl, hRt, hb6⟩
     have hB6 := below_step HB4.out hb6
     obtain ⟨N0, hN0⟩ : ∃ N0, N0 = wr.heap.size := ⟨_, rfl⟩
     have hS6 : Kd.S (Kd.slice 4 Kd.bool) 31 w6 W1.heap.size (fun k => k < N0) (.slice (some ⟨go, 0, none⟩) l0_5.length cap) ((doneF l0_5 i).set i ((List.take 0 (nextOf l0_5 (p : Int))).foldl (stepFr (rowI l0_5 i) i) (frTo l0_5 (rowI l0_5 i) i p))) := by rw [hN0]; exact Kd.S_below (Kd.S_mono (Kd.S_bound HS5.out) (fun k hk => hk.2.2.1)) hb6
     have hRt2 : (Kd.int .i64).R 3 w6 N0 (fun k => N0 ≤ k) vt (nextOf l0_5 (p : Int)) := by rw [hN0]; exact Kd.R_mono (Kd.R_bound hRt) (fun k hk => hk.2.1)
     obtain ⟨At, ct, rfl⟩ := Kd.R_slice hRt2
     have HRT := Aside0.mk hRt2; have HS6 := Aside0.mk hS6; have HB6 := Aside0.mk hB6
     clear hRt hRt2 hS6 hB6 hb6 h0c h1c h2c h3c h4c h5c
     have hnl : (nextOf l0_5 (p : Int)).length ≤ 2 := next_len _ _
     have hil : i < l0_5.length := hlt
     go_wp2
     go_loopg [9] (nextOf l0_5 (p : Int)).length (fun kq v9 wr2 => ∃ k : Nat, v9 = .int .i64 k ∧ k + kq = (nextOf l0_5 (p : Int)).length ∧ Aside0 (k = 0 ∨ (rowI l0_5 i).getD p false = true) ∧ Aside0 (Below W1.heap.size W1 wr2) ∧ Aside0 (Kd.S (Kd.slice 4 Kd.bool) 31 wr2 W1.heap.size (fun k => k < N0) (.slice (some ⟨go, 0, none⟩) l0_5.length cap) ((doneF l0_5 i).set i ((List.take k (nextOf l0_5 (p : Int))).foldl (stepFr (rowI l0_5 i) i) (frTo l0_5 (rowI l0_5 i) i p)))) ∧
       Aside0 ((Kd.int .i64).R 3 wr2 N0 (fun k => N0 ≤ k) (.slice At (nextOf l0_5 (p : Int)).length ct) (nextOf l0_5 (p : Int))))
     case atStart => exact ⟨0, rfl, Nat.zero_add _, ⟨.inl rfl⟩, HB6, HS6, HRT⟩
     case round =>
      clear HRT HS6 HB6
      obtain ⟨k, rfl, hkk, HZ, HB6, HS6, HRT⟩ := hrel
      obtain ⟨adi, Ar, cr, ei, hci, hcle, hCr⟩ := rowb_at (Kd.C_below HCI.out HB6.out) (i : Int) (by omega) (by omega)
      subst ei
      rw [isRow l0_5 hlt] at hci hCr
      rw [Int.toNat_natCast] at hci
      have hril := rowI_len l0_5 i
      obtain ⟨adr, er, hcp⟩ := Kd.at_bool hCr (p : Int) (by omega) (by omega)
      subst er
      rw [rdOf_nat, Int.toNat_natCast] at hcp
      have HCR := Aside0.mk hCr; clear hCr
      have hnm := Kd.C_max (Kd.R_reads' HRT.out).2.2
      have hpl1 : (p : Int) < ((rowI l0_5 i).length : Int) := by omega
      have hpl2 : p < (rowI l0_5 i).length := by omega
      cases h1 : (rowI l0_5 i).getD p false with
      | false =>
       rw [h1] at hcp
       have hk0 : k = 0 := HZ.out.resolve_right (by rw [h1]; simp)
       have hfr : frTo l0_5 (rowI l0_5 i) i (p + 1) = frTo l0_5 (rowI l0_5 i) i p := by
        conv => lhs; unfold frTo
        rw [if_neg (by rw [h1]; simp)]
       have hS7 := Kd.S_mono HS6.out (ok' := fun _ => True) (fun _ _ => trivial)
       rw [hk0, List.take_zero, List.foldl_nil, ← hfr] at hS7
       have HS7 := Aside0.mk hS7; clear hS7 hfr hk0 h1
       go_wp2
       go_roundg k2
       case measure => omega
       case rel => exact ⟨p + 1, by go_num, by omega, HB6, HS7⟩
      | true =>
       rw [h1] at hcp
       by_cases hk : k < (nextOf l0_5 (p : Int)).length
       ·obtain ⟨k3, rfl⟩ : ∃ k3, gk = k3 + 1 := ⟨gk - 1, by omega⟩
        obtain ⟨adt, et, hct⟩ := Kd.at_int (Kd.R_reads' HRT.out).2.2 (k : Int) (by omega) (by omega)
        subst et
        obtain ⟨tt, htt⟩ : ∃ tt, tt = rd (nextOf l0_5 (p : Int)) (k : Int) := ⟨_, rfl⟩
        rw [← htt, Int.toNat_natCast] at hct
        have htm : tt ∈ nextOf l0_5 (p : Int) := by
         rw [htt]; unfold rd; rw [Int.toNat_natCast, getD_at _ _ hk]; exact List.getElem_mem hk
        obtain ⟨t0, t1⟩ := next_in htm
        have hstep : (List.take (k + 1) (nextOf l0_5 (p : Int))).foldl (stepFr (rowI l0_5 i) i) (frTo l0_5 (rowI l0_5 i) i p) = stepFr (rowI l0_5 i) i ((List.take k (nextOf l0_5 (p : Int))).foldl (stepFr (rowI l0_5 i) i) (frTo l0_5 (rowI l0_5 i) i p)) tt := by
         rw [List.take_succ_eq_append_getElem hk, List.foldl_append]
         have e : (nextOf l0_5 (p : Int))[k] = tt := by rw [htt]; unfold rd; rw [Int.toNat_natCast, getD_at _ _ hk]
         rw [e]; rfl
        obtain ⟨row, hrow⟩ : ∃ row, row = (List.take k (nextOf l0_5 (p : Int))).foldl (stepFr (rowI l0_5 i) i) (frTo l0_5 (rowI l0_5 i) i p) := ⟨_, rfl⟩
        have hrowl : row.length = l0_5.length := by rw [hrow, foldFr_len, frTo_len]
        rw [← hrow] at hstep
        have hS7 := HS6.out
        rw [← hrow] at hS7
        have hpl : (rowB ((doneF l0_5 i).set i row) (i : Int)).length = l0_5.length := by rw [rowF_put l0_5 i row hlt, hrowl]
        obtain ⟨rr, crr, hcell, hbit, hfz, hbr, hokr, hput⟩ := bitB hS7 (i : Int) tt hpl (by omega) (by omega) t0 t1
        rw [rowF_put l0_5 i row hlt] at hput
        simp only [Int.toNat_natCast] at hcell hput
        obtain ⟨adr2, er2, hcq⟩ := Kd.at_bool HCR.out tt t0 (by omega)
        cases er2
        have hq1 : tt < ((rowI l0_5 i).length : Int) := by omega
        have hk1 : (k : Int) < ((nextOf l0_5 (p : Int)).length : Int) := by omega
        have HPUT : Aside0 (∀ _ : stepFr (rowI l0_5 i) i row tt = row.set tt.toNat true, Below W1.heap.size W1 (wr.setCell ⟨rr, tt.toNat, none⟩ (.bool true)) ∧ Kd.S (Kd.slice 4 Kd.bool) 31 (wr.setCell ⟨rr, tt.toNat, none⟩ (.bool true)) W1.heap.size (fun k => k < N0) (.slice (some ⟨go, 0, none⟩) l0_5.length cap) ((doneF l0_5 i).set i ((List.take (k + 1) (nextOf l0_5 (p : Int))).foldl (stepFr (rowI l0_5 i) i) (frTo l0_5 (rowI l0_5 i) i p))) ∧
          (Kd.int .i64).R 3 (wr.setCell ⟨rr, tt.toNat, none⟩ (.bool true)) N0 (fun k => N0 ≤ k) (.slice (some adt) (nextOf l0_5 (p : Int)).length ct) (nextOf l0_5 (p : Int))) := ⟨fun hx => by
         obtain ⟨p1, p2⟩ := hput true
         refine ⟨Below.grown HB6.out p2 HB6.out.size (fun k hk => by injection hk with hk; rw [← hk]; exact hbr), ?_, Kd.R_grown HRT.out p2 (fun k hk e => by injection e with e; omega)⟩
         rw [List.set_set, ← hx, ← hstep] at p1
         exact p1⟩
        have HSTAY : Aside0 (∀ _ : stepFr (rowI l0_5 i) i row tt = row, Kd.S (Kd.slice 4 Kd.bool) 31 wr W1.heap.size (fun k => k < N0) (.slice (some ⟨go, 0, none⟩) l0_5.length cap) ((doneF l0_5 i).set i ((List.take (k + 1) (nextOf l0_5 (p : Int))).foldl (stepFr (rowI l0_5 i) i) (frTo l0_5 (rowI l0_5 i) i p)))) := ⟨fun hx => by rw [hstep, hx]; exact hS7⟩
        have H1 := Aside0.mk h1; clear h1 hput hpl hstep hS7 hrow hrowl htt htm hbr hokr
        by_cases h2 : (i : Int) = tt
        ·have hv : stepFr (rowI l0_5 i) i row tt = row.set tt.toNat true := by unfold stepFr; rw [if_pos (.inl h2)]
         have HV := Aside0.mk hv; clear hv
         have hq : ((i : Int) == tt) = true := beq_iff_eq.mpr h2
         clear h2
         go_wp2
         go_region
         go_wp2
         go_region
         go_wp2
         go_roundg k3
         case measure => omega
         case rel => exact ⟨k + 1, by go_num, by omega, ⟨.inr H1.out⟩, ⟨below_drew (below_drew (HPUT.out HV.out).1)⟩, ⟨Kd.S_drew (Kd.S_drew (HPUT.out HV.out).2.1)⟩, ⟨Kd.R_drew (Kd.R_drew (HPUT.out HV.out).2.2)⟩⟩
        ·have hq : ((i : Int) == tt) = false := beq_eq_false_iff_ne.mpr h2
         cases h3 : rdOf false (rowI l0_5 i) tt with
         | true =>
          rw [h3] at hcq
          have hv : stepFr (rowI l0_5 i) i row tt = row := by unfold stepFr; rw [if_neg (by rw [h3]; simp [h2])]
          have HV := Aside0.mk hv; clear hv h2 h3
          go_wp2
          go_region
          go_wp2
          go_roundg k3
          case measure => omega
          case rel => exact ⟨k + 1, by go_num, by omega, ⟨.inr H1.out⟩, ⟨below_drew HB6.out⟩, ⟨Kd.S_drew (HSTAY.out HV.out)⟩, ⟨Kd.R_drew HRT.out⟩⟩
         | false =>
          rw [h3] at hcq
          have hv : stepFr (rowI l0_5 i) i row tt = row.set tt.toNat true := by unfold stepFr; rw [if_pos (.inr h3)]
          have HV := Aside0.mk hv; clear hv h2 h3
          go_wp2
          go_region
          go_wp2
          go_region
          go_wp2
          go_roundg k3
          case measure => omega
          case rel => exact ⟨k + 1, by go_num, by omega, ⟨.inr H1.out⟩, ⟨below_drew (below_drew (HPUT.out HV.out).1)⟩, ⟨Kd.S_drew (Kd.S_drew (HPUT.out HV.out).2.1)⟩, ⟨Kd.R_drew (Kd.R_drew (HPUT.out HV.out).2.2)⟩⟩
       ·have hke : k = (nextOf l0_5 (p : Int)).length := by omega
        have hfr : frTo l0_5 (rowI l0_5 i) i (p + 1) = (nextOf l0_5 (p : Int)).foldl (stepFr (rowI l0_5 i) i) (frTo l0_5 (rowI l0_5 i) i p) := by
         conv => lhs; unfold frTo
         rw [if_pos h1]
        have hS7 := Kd.S_mono HS6.out (ok' := fun _ => True) (fun _ _ => trivial)
        rw [List.take_of_length_le (by omega), ← hfr] at hS7
        have HS7 := Aside0.mk hS7; clear hS7 hfr hke h1
        go_wp2
        go_roundg k2
        case measure => omega
        case rel => exact ⟨p + 1, by go_num, by omega, HB6, HS7⟩
    ·have hpe : p = l0_5.length := by omega
     have hS7 := HS5.out
     rw [hpe] at hS7
     have hS8 : Kd.S (Kd.slice 4 Kd.bool) 31 wr W1.heap.size (fun _ => True) (.slice (some ⟨go, 0, none⟩) l0_5.length cap) ((doneF l0_5 i).set i (frRow l0_5 i)) := hS7
     rw [doneF_set l0_5 hlt] at hS8
     have HS8 := Aside0.mk hS8; clear hS7 hS8 hpe
     go_wp2
     go_roundg k1
     case measure => omega
     case rel => exact ⟨i + 1, by go_num, by omega, HB4, HS8⟩
  ·have hi : i = l0_5.length := by omega
   go_wp2
   go_ret
   refine ⟨_, rfl, ?_, below_step HB1.out HB2.out⟩
   rw [← doneF_all, ← hi]
   exact Kd.S_lower HS.out HB1.out.size
end Go.Proofs.Ytclhjalgflebfaa.Q

namespace Go.Proofs.Ytclhjalgflebfaa.Q
open Go.RowKit Go.Proofs.YtclhjalgflebfaaW.PrintWords Go.Proofs.YtclhjalgflebfaaW.PrintLast Go.Proofs.YtclhjalgflebfaaW.PrintMore
attribute [local go_sem] max2_int min2_int max_two min_two max_three min_three max_four min_four   -- for this text's walks alone
set_option linter.unusedVariables false
set_option linter.unusedSimpArgs false

/-! ### truantlaw10_DomFronts: function 11 -/
mutual
def truantlaw10_DomFronts.l0 : Nat → List Int → List (List Int) → List (List Bool) → Int → ByteArray → List ByteArray → ByteArray → List ByteArray → List (S58) → List (S40) → Option (Bool)
 | 0, _, _, _, _, _, _, _, _, _, _ => none
 | k + 1, x1, x5, x6, x7, x400000, x400001, x400002, x400003, x400004, x400005 => if x7 < (x6.length : Int) then (truantlaw10_DomFronts.l1 k x1 x5 x6 x7 0 0 x400000 x400001 x400002 x400003 x400004 x400005) else (if 0 ≤ (x6.length : Int) then (if ((x6.length : Int) : Int).toNat ≤ 281474976710656 then (truantlaw10_DomFronts.l2 k x1 x6 (List.replicate ((x6.length : Int) : Int).toNat false) 0 x400000 x400001 x400002 x400003 x400004 x400005) else (none)) else (none))
def truantlaw10_DomFronts.l1 : Nat → List Int → List (List Int) → List (List Bool) → Int → Int → Int → ByteArray → List ByteArray → ByteArray → List ByteArray → List (S58) → List (S40) → Option (Bool)
 | 0, _, _, _, _, _, _, _, _, _, _, _, _ => none
 | k + 1, x1, x5, x6, x7, x8, x9, x400000, x400001, x400002, x400003, x400004, x400005 => if x9 < (x6.length : Int) then (if 0 ≤ x7 then (if x7 < (x6.length : Int) then (if 0 ≤ x9 then (if x9 < ((rd_L7 x6 x7).length : Int) then (if (rdOf false (rd_L7 x6 x7) x9 = true) then (if x7 < (x5.length : Int) then (if x8 ≥ ((rd_L2 x5 x7).length : Int) then (none) else (if 0 ≤ x8 then (if x8 < ((rd_L2 x5 x7).length : Int) then (if (rd (rd_L2 x5 x7) x8) = x9 then (truantlaw10_DomFronts.l1 k x1 x5 x6 x7 (wrap64 (x8 + 1)) (wrap64 (x9 + 1)) x400000 x400001 x400002 x400003 x400004 x400005) else (none)) else (none)) else (none))) else (none)) else (truantlaw10_DomFronts.l1 k x1 x5 x6 x7 x8 (wrap64 (x9 + 1)) x400000 x400001 x400002 x400003 x400004 x400005)) else (none)) else (none)) else (none)) else (none)) else (if 0 ≤ x7 then (if x7 < (x5.length : Int) then (if x8 = ((rd_L2 x5 x7).length : Int) then (truantlaw10_DomFronts.l0 k x1 x5 x6 (wrap64 (x7 + 1)) x400000 x400001 x400002 x400003 x400004 x400005) else (none)) else (none)) else (none))
def truantlaw10_DomFronts.l2 : Nat → List Int → List (List Bool) → List Bool → Int → ByteArray → List ByteArray → ByteArray → List ByteArray → List (S58) → List (S40) → Option (Bool)
 | 0, _, _, _, _, _, _, _, _, _, _ => none
 | k + 1, x1, x6, x10, x11, x400000, x400001, x400002, x400003, x400004, x400005 => if x11 ≤ (x6.length : Int) then (truantlaw10_DomFronts.l3 k x1 x6 x10 x11 0 x400000 x400001 x400002 x400003 x400004 x400005) else ((dom_Fronts.f x400000 x400001 x400002 x400003 x400004 x400005 x1).bind fun t424 => (truantlaw10_DomFronts.l6 k x10 t424 0 0))
def truantlaw10_DomFronts.l3 : Nat → List Int → List (List Bool) → List Bool → Int → Int → ByteArray → List ByteArray → ByteArray → List ByteArray → List (S58) → List (S40) → Option (Bool)
 | 0, _, _, _, _, _, _, _, _, _, _, _ => none
 | k + 1, x1, x6, x10, x11, x12, x400000, x400001, x400002, x400003, x400004, x400005 => if x12 < (x6.length : Int) then (if 0 ≤ x12 then (if x12 < (x10.length : Int) then (truantlaw10_DomFronts.l4 k x1 x6 x10 x11 x12 (rdOf false x10 x12) 0 x400000 x400001 x400002 x400003 x400004 x400005) else (none)) else (none)) else (truantlaw10_DomFronts.l2 k x1 x6 x10 (wrap64 (x11 + 1)) x400000 x400001 x400002 x400003 x400004 x400005)
def truantlaw10_DomFronts.l4 : Nat → List Int → List (List Bool) → List Bool → Int → Int → Bool → Int → ByteArray → List ByteArray → ByteArray → List ByteArray → List (S58) → List (S40) → Option (Bool)
 | 0, _, _, _, _, _, _, _, _, _, _, _, _, _ => none
 | k + 1, x1, x6, x10, x11, x12, x13, x14, x400000, x400001, x400002, x400003, x400004, x400005 => if x14 < (x1.length : Int) then (if x13 = true then (truantlaw10_DomFronts.l4 k x1 x6 x10 x11 x12 true (wrap64 (x14 + 1)) x400000 x400001 x400002 x400003 x400004 x400005) else (if 0 ≤ x14 then (truantlaw10_DomFronts.l4 k x1 x6 x10 x11 x12 ((rd x1 x14) == x12) (wrap64 (x14 + 1)) x400000 x400001 x400002 x400003 x400004 x400005) else (none))) else (truantlaw10_DomFronts.l5 k x1 x6 x10 x11 x12 x13 0 x400000 x400001 x400002 x400003 x400004 x400005)
def truantlaw10_DomFronts.l5 : Nat → List Int → List (List Bool) → List Bool → Int → Int → Bool → Int → ByteArray → List ByteArray → ByteArray → List ByteArray → List (S58) → List (S40) → Option (Bool)
 | 0, _, _, _, _, _, _, _, _, _, _, _, _, _ => none
 | k + 1, x1, x6, x10, x11, x12, x13, x15, x400000, x400001, x400002, x400003, x400004, x400005 => if x13 = true then (if x15 < (x6.length : Int) then (if 0 ≤ x15 then (if x15 < (x10.length : Int) then (if rdOf false x10 x15 = true then (truantlaw10_DomFronts.l5 k x1 x6 (x10.set (x15 : Int).toNat true) x11 x12 x13 (wrap64 (x15 + 1)) x400000 x400001 x400002 x400003 x400004 x400005) else (if 0 ≤ x12 then (if x12 < (x6.length : Int) then (if x15 < ((rd_L7 x6 x12).length : Int) then (truantlaw10_DomFronts.l5 k x1 x6 (x10.set (x15 : Int).toNat (rdOf false (rd_L7 x6 x12) x15)) x11 x12 x13 (wrap64 (x15 + 1)) x400000 x400001 x400002 x400003 x400004 x400005) else (none)) else (none)) else (none))) else (none)) else (none)) else (truantlaw10_DomFronts.l3 k x1 x6 x10 x11 (wrap64 (x12 + 1)) x400000 x400001 x400002 x400003 x400004 x400005)) else (truantlaw10_DomFronts.l3 k x1 x6 x10 x11 (wrap64 (x12 + 1)) x400000 x400001 x400002 x400003 x400004 x400005)
def truantlaw10_DomFronts.l6 : Nat → List Bool → List Int → Int → Int → Option (Bool)
 | 0, _, _, _, _ => none
 | k + 1, x10, x16, x17, x18 => if x18 < (x10.length : Int) then (if 0 ≤ x18 then (if rdOf false x10 x18 = true then (if x17 ≥ (x16.length : Int) then (none) else (if 0 ≤ x17 then (if x17 < (x16.length : Int) then (if (rd x16 x17) = x18 then (truantlaw10_DomFronts.l6 k x10 x16 (wrap64 (x17 + 1)) (wrap64 (x18 + 1))) else (none)) else (none)) else (none))) else (truantlaw10_DomFronts.l6 k x10 x16 x17 (wrap64 (x18 + 1)))) else (none)) else (some (x17 == (x16.length : Int)))
end
noncomputable def truantlaw10_DomFronts.f (k : Nat) (a0_0 : ByteArray) (l0_1 : List ByteArray) (a0_2 : ByteArray) (l0_3 : List ByteArray) (l0_4 : List (S58)) (l0_5 : List (S40)) (l1 : List Int) : Option (Bool) := (truantlaw10_awake.f k).bind fun t400 => (if t400 = true then ((truantlaw10_wide.f a0_0 l0_1 a0_2 l0_3 l0_4 l0_5).bind fun t401 => (if t401 = true then (some true) else (if (l1.length : Int) > 20 then (some true) else ((dom_Front.f a0_0 l0_1 a0_2 l0_3 l0_4 l0_5).bind fun t402 => ((truantref10_Front.f a0_0 l0_1 a0_2 l0_3 l0_4 l0_5).bind fun t405 => (if (t402.length : Int) = (t405.length : Int) then (truantlaw10_DomFronts.l0 k l1 t402 t405 0 a0_0 l0_1 a0_2 l0_3 l0_4 l0_5) else (none))))))) else (none))
theorem truantlaw10_DomFronts.mono_l : ∀ k, (∀ y0 y1 y2 y3 y4 y5 y6 y7 y8 y9, LeO (truantlaw10_DomFronts.l0 k y0 y1 y2 y3 y4 y5 y6 y7 y8 y9) (truantlaw10_DomFronts.l0 (k + 1) y0 y1 y2 y3 y4 y5 y6 y7 y8 y9)) ∧ (∀ y0 y1 y2 y3 y4 y5 y6 y7 y8 y9 y10 y11, LeO (truantlaw10_DomFronts.l1 k y0 y1 y2 y3 y4 y5 y6 y7 y8 y9 y10 y11) (truantlaw10_DomFronts.l1 (k + 1) y0 y1 y2 y3 y4 y5 y6 y7 y8 y9 y10 y11)) ∧ (∀ y0 y1 y2 y3 y4 y5 y6 y7 y8 y9, LeO (truantlaw10_DomFronts.l2 k y0 y1 y2 y3 y4 y5 y6 y7 y8 y9) (truantlaw10_DomFronts.l2 (k + 1) y0 y1 y2 y3 y4 y5 y6 y7 y8 y9)) ∧ (∀ y0 y1 y2 y3 y4 y5 y6 y7 y8 y9 y10, LeO (truantlaw10_DomFronts.l3 k y0 y1 y2 y3 y4 y5 y6 y7 y8 y9 y10) (truantlaw10_DomFronts.l3 (k + 1) y0 y1 y2 y3 y4 y5 y6 y7 y8 y9 y10)) ∧ (∀ y0 y1 y2 y3 y4 y5 y6 y7 y8 y9 y10 y11 y12, LeO (truantlaw10_DomFronts.l4 k y0 y1 y2 y3 y4 y5 y6 y7 y8 y9 y10 y11 y12) (truantlaw10_DomFronts.l4 (k + 1) y0 y1 y2 y3 y4 y5 y6 y7 y8 y9 y10 y11 y12)) ∧ (∀ y0 y1 y2 y3 y4 y5 y6 y7 y8 y9 y10 y11 y12, LeO (truantlaw10_DomFronts.l5 k y0 y1 y2 y3 y4 y5 y6 y7 y8 y9 y10 y11 y12) (truantlaw10_DomFronts.l5 (k + 1) y0 y1 y2 y3 y4 y5 y6 y7 y8 y9 y10 y11 y12)) ∧ (∀ y0 y1 y2 y3, LeO (truantlaw10_DomFronts.l6 k y0 y1 y2 y3) (truantlaw10_DomFronts.l6 (k + 1) y0 y1 y2 y3))
 | 0 => ⟨fun _ _ _ _ _ _ _ _ _ _ r h => by simp [truantlaw10_DomFronts.l0] at h, fun _ _ _ _ _ _ _ _ _ _ _ _ r h => by simp [truantlaw10_DomFronts.l1] at h, fun _ _ _ _ _ _ _ _ _ _ r h => by simp [truantlaw10_DomFronts.l2] at h, fun _ _ _ _ _ _ _ _ _ _ _ r h => by simp [truantlaw10_DomFronts.l3] at h, fun _ _ _ _ _ _ _ _ _ _ _ _ _ r h => by simp [truantlaw10_DomFronts.l4] at h, fun _ _ _ _ _ _ _ _ _ _ _ _ _ r h => by simp [truantlaw10_DomFronts.l5] at h, fun _ _ _ _ r h => by simp [truantlaw10_DomFronts.l6] at h⟩
 | k + 1 => by
  obtain ⟨ih0, ih1, ih2, ih3, ih4, ih5, ih6⟩ := truantlaw10_DomFronts.mono_l k
  refine ⟨?_, ?_, ?_, ?_, ?_, ?_, ?_⟩
  ·intro y0 y1 y2 y3 y4 y5 y6 y7 y8 y9
   unfold truantlaw10_DomFronts.l0
   repeat' first
   | (with_reducible exact ih0 _ _ _ _ _ _ _ _ _ _)
   | (with_reducible exact ih1 _ _ _ _ _ _ _ _ _ _ _ _)
   | (with_reducible exact ih2 _ _ _ _ _ _ _ _ _ _)
   | (with_reducible exact ih3 _ _ _ _ _ _ _ _ _ _ _)
   | (with_reducible exact ih4 _ _ _ _ _ _ _ _ _ _ _ _ _)
   | (with_reducible exact ih5 _ _ _ _ _ _ _ _ _ _ _ _ _)
   | (with_reducible exact ih6 _ _ _ _)
   | (with_reducible exact truantlaw10_awake.mono _)
   | (with_reducible exact LeO.refl _)
   | (with_reducible exact LeO.none _)
   | (with_reducible refine LeO.ite ?_ ?_)
   | (with_reducible refine LeO.bind ?_ (fun _ => ?_))
   | exact ih0 _ _ _ _ _ _ _ _ _ _
   | exact ih1 _ _ _ _ _ _ _ _ _ _ _ _
   | exact ih2 _ _ _ _ _ _ _ _ _ _
   | exact ih3 _ _ _ _ _ _ _ _ _ _ _
   | exact ih4 _ _ _ _ _ _ _ _ _ _ _ _ _
   | exact ih5 _ _ _ _ _ _ _ _ _ _ _ _ _
   | exact ih6 _ _ _ _
   | exact truantlaw10_awake.mono _
   | exact LeO.none _
   | refine LeO.ite ?_ ?_
   | refine LeO.bind ?_ (fun _ => ?_)
  ·intro y0 y1 y2 y3 y4 y5 y6 y7 y8 y9 y10 y11
   unfold truantlaw10_DomFronts.l1
   repeat' first
   | (with_reducible exact ih0 _ _ _ _ _ _ _ _ _ _)
   | (with_reducible exact ih1 _ _ _ _ _ _ _ _ _ _ _ _)
   | (with_reducible exact ih2 _ _ _ _ _ _ _ _ _ _)
   | (with_reducible exact ih3 _ _ _ _ _ _ _ _ _ _ _)
   | (with_reducible exact ih4 _ _ _ _ _ _ _ _ _ _ _ _ _)
   | (with_reducible exact ih5 _ _ _ _ _ _ _ _ _ _ _ _ _)
   | (with_reducible exact ih6 _ _ _ _)
   | (with_reducible exact truantlaw10_awake.mono _)
   | (with_reducible exact LeO.refl _)
   | (with_reducible exact LeO.none _)
   | (with_reducible refine LeO.ite ?_ ?_)
   | (with_reducible refine LeO.bind ?_ (fun _ => ?_))
   | exact ih0 _ _ _ _ _ _ _ _ _ _
   | exact ih1 _ _ _ _ _ _ _ _ _ _ _ _
   | exact ih2 _ _ _ _ _ _ _ _ _ _
   | exact ih3 _ _ _ _ _ _ _ _ _ _ _
   | exact ih4 _ _ _ _ _ _ _ _ _ _ _ _ _
   | exact ih5 _ _ _ _ _ _ _ _ _ _ _ _ _
   | exact ih6 _ _ _ _
   | exact truantlaw10_awake.mono _
   | exact LeO.none _
   | refine LeO.ite ?_ ?_
   | refine LeO.bind ?_ (fun _ => ?_)
  ·intro y0 y1 y2 y3 y4 y5 y6 y7 y8 y9
   unfold truantlaw10_DomFronts.l2
   repeat' first
   | (with_reducible exact ih0 _ _ _ _ _ _ _ _ _ _)
   | (with_reducible exact ih1 _ _ _ _ _ _ _ _ _ _ _ _)
   | (with_reducible exact ih2 _ _ _ _ _ _ _ _ _ _)
   | (with_reducible exact ih3 _ _ _ _ _ _ _ _ _ _ _)
   | (with_reducible exact ih4 _ _ _ _ _ _ _ _ _ _ _ _ _)
   | (with_reducible exact ih5 _ _ _ _ _ _ _ _ _ _ _ _ _)
   | (with_reducible exact ih6 _ _ _ _)
   | (with_reducible exact truantlaw10_awake.mono _)
   | (with_reducible exact LeO.refl _)
   | (with_reducible exact LeO.none _)
   | (with_reducible refine LeO.ite ?_ ?_)
   | (with_reducible refine LeO.bind ?_ (fun _ => ?_))
   | exact ih0 _ _ _ _ _ _ _ _ _ _
   | exact ih1 _ _ _ _ _ _ _ _ _ _ _ _
   | exact ih2 _ _ _ _ _ _ _ _ _ _
   | exact ih3 _ _ _ _ _ _ _ _ _ _ _
   | exact ih4 _ _ _ _ _ _ _ _ _ _ _ _ _
   | exact ih5 _ _ _ _ _ _ _ _ _ _ _ _ _
   | exact ih6 _ _ _ _
   | exact truantlaw10_awake.mono _
   | exact LeO.none _
   | refine LeO.ite ?_ ?_
   | refine LeO.bind ?_ (fun _ => ?_)
  ·intro y0 y1 y2 y3 y4 y5 y6 y7 y8 y9 y10
   unfold truantlaw10_DomFronts.l3
   repeat' first
   | (with_reducible exact ih0 _ _ _ _ _ _ _ _ _ _)
   | (with_reducible exact ih1 _ _ _ _ _ _ _ _ _ _ _ _)
   | (with_reducible exact ih2 _ _ _ _ _ _ _ _ _ _)
   | (with_reducible exact ih3 _ _ _ _ _ _ _ _ _ _ _)
   | (with_reducible exact ih4 _ _ _ _ _ _ _ _ _ _ _ _ _)
   | (with_reducible exact ih5 _ _ _ _ _ _ _ _ _ _ _ _ _)
   | (with_reducible exact ih6 _ _ _ _)
   | (with_reducible exact truantlaw10_awake.mono _)
   | (with_reducible exact LeO.refl _)
   | (with_reducible exact LeO.none _)
   | (with_reducible refine LeO.ite ?_ ?_)
   | (with_reducible refine LeO.bind ?_ (fun _ => ?_))
   | exact ih0 _ _ _ _ _ _ _ _ _ _
   | exact ih1 _ _ _ _ _ _ _ _ _ _ _ _
   | exact ih2 _ _ _ _ _ _ _ _ _ _
   | exact ih3 _ _ _ _ _ _ _ _ _ _ _
   | exact ih4 _ _ _ _ _ _ _ _ _ _ _ _ _
   | exact ih5 _ _ _ _ _ _ _ _ _ _ _ _ _
   | exact ih6 _ _ _ _
   | exact truantlaw10_awake.mono _
   | exact LeO.none _
   | refine LeO.ite ?_ ?_
   | refine LeO.bind ?_ (fun _ => ?_)
  ·intro y0 y1 y2 y3 y4 y5 y6 y7 y8 y9 y10 y11 y12
   unfold truantlaw10_DomFronts.l4
   repeat' first
   | (with_reducible exact ih0 _ _ _ _ _ _ _ _ _ _)
   | (with_reducible exact ih1 _ _ _ _ _ _ _ _ _ _ _ _)
   | (with_reducible exact ih2 _ _ _ _ _ _ _ _ _ _)
   | (with_reducible exact ih3 _ _ _ _ _ _ _ _ _ _ _)
   | (with_reducible exact ih4 _ _ _ _ _ _ _ _ _ _ _ _ _)
   | (with_reducible exact ih5 _ _ _ _ _ _ _ _ _ _ _ _ _)
   | (with_reducible exact ih6 _ _ _ _)
   | (with_reducible exact truantlaw10_awake.mono _)
   | (with_reducible exact LeO.refl _)
   | (with_reducible exact LeO.none _)
   | (with_reducible refine LeO.ite ?_ ?_)
   | (with_reducible refine LeO.bind ?_ (fun _ => ?_))
   | exact ih0 _ _ _ _ _ _ _ _ _ _
   | exact ih1 _ _ _ _ _ _ _ _ _ _ _ _
   | exact ih2 _ _ _ _ _ _ _ _ _ _
   | exact ih3 _ _ _ _ _ _ _ _ _ _ _
   | exact ih4 _ _ _ _ _ _ _ _ _ _ _ _ _
   | exact ih5 _ _ _ _ _ _ _ _ _ _ _ _ _
   | exact ih6 _ _ _ _
   | exact truantlaw10_awake.mono _
   | exact LeO.none _
   | refine LeO.ite ?_ ?_
   | refine LeO.bind ?_ (fun _ => ?_)
  ·intro y0 y1 y2 y3 y4 y5 y6 y7 y8 y9 y10 y11 y12
   unfold truantlaw10_DomFronts.l5
   repeat' first
   | (with_reducible exact ih0 _ _ _ _ _ _ _ _ _ _)
   | (with_reducible exact ih1 _ _ _ _ _ _ _ _ _ _ _ _)
   | (with_reducible exact ih2 _ _ _ _ _ _ _ _ _ _)
   | (with_reducible exact ih3 _ _ _ _ _ _ _ _ _ _ _)
   | (with_reducible exact ih4 _ _ _ _ _ _ _ _ _ _ _ _ _)
   | (with_reducible exact ih5 _ _ _ _ _ _ _ _ _ _ _ _ _)
   | (with_reducible exact ih6 _ _ _ _)
   | (with_reducible exact truantlaw10_awake.mono _)
   | (with_reducible exact LeO.refl _)
   | (with_reducible exact LeO.none _)
   | (with_reducible refine LeO.ite ?_ ?_)
   | (with_reducible refine LeO.bind ?_ (fun _ => ?_))
   | exact ih0 _ _ _ _ _ _ _ _ _ _
   | exact ih1 _ _ _ _ _ _ _ _ _ _ _ _
   | exact ih2 _ _ _ _ _ _ _ _ _ _
   | exact ih3 _ _ _ _ _ _ _ _ _ _ _
   | exact ih4 _ _ _ _ _ _ _ _ _ _ _ _ _
   | exact ih5 _ _ _ _ _ _ _ _ _ _ _ _ _
   | exact ih6 _ _ _ _
   | exact truantlaw10_awake.mono _
   | exact LeO.none _
   | refine LeO.ite ?_ ?_
   | refine LeO.bind ?_ (fun _ => ?_)
  ·intro y0 y1 y2 y3
   unfold truantlaw10_DomFronts.l6
   repeat' first
   | (with_reducible exact ih0 _ _ _ _ _ _ _ _ _ _)
   | (with_reducible exact ih1 _ _ _ _ _ _ _ _ _ _ _ _)
   | (with_reducible exact ih2 _ _ _ _ _ _ _ _ _ _)
   | (with_reducible exact ih3 _ _ _ _ _ _ _ _ _ _ _)
   | (with_reducible exact ih4 _ _ _ _ _ _ _ _ _ _ _ _ _)
   | (with_reducible exact ih5 _ _ _ _ _ _ _ _ _ _ _ _ _)
   | (with_reducible exact ih6 _ _ _ _)
   | (with_reducible exact truantlaw10_awake.mono _)
   | (with_reducible exact LeO.refl _)
   | (with_reducible exact LeO.none _)
   | (with_reducible refine LeO.ite ?_ ?_)
   | (with_reducible refine LeO.bind ?_ (fun _ => ?_))
   | exact ih0 _ _ _ _ _ _ _ _ _ _
   | exact ih1 _ _ _ _ _ _ _ _ _ _ _ _
   | exact ih2 _ _ _ _ _ _ _ _ _ _
   | exact ih3 _ _ _ _ _ _ _ _ _ _ _
   | exact ih4 _ _ _ _ _ _ _ _ _ _ _ _ _
   | exact ih5 _ _ _ _ _ _ _ _ _ _ _ _ _
   | exact ih6 _ _ _ _
   | exact truantlaw10_awake.mono _
   | exact LeO.none _
   | refine LeO.ite ?_ ?_
   | refine LeO.bind ?_ (fun _ => ?_)
theorem truantlaw10_DomFronts.mono : ∀ a0 a1 a2 a3 a4 a5 a6 k, LeO (truantlaw10_DomFronts.f k a0 a1 a2 a3 a4 a5 a6) (truantlaw10_DomFronts.f (k + 1) a0 a1 a2 a3 a4 a5 a6) := by
 intro a0 a1 a2 a3 a4 a5 a6 k
 obtain ⟨ih0, ih1, ih2, ih3, ih4, ih5, ih6⟩ := truantlaw10_DomFronts.mono_l k
 unfold truantlaw10_DomFronts.f
 repeat' first
   | (with_reducible exact ih0 _ _ _ _ _ _ _ _ _ _)
   | (with_reducible exact ih1 _ _ _ _ _ _ _ _ _ _ _ _)
   | (with_reducible exact ih2 _ _ _ _ _ _ _ _ _ _)
   | (with_reducible exact ih3 _ _ _ _ _ _ _ _ _ _ _)
   | (with_reducible exact ih4 _ _ _ _ _ _ _ _ _ _ _ _ _)
   | (with_reducible exact ih5 _ _ _ _ _ _ _ _ _ _ _ _ _)
   | (with_reducible exact ih6 _ _ _ _)
   | (with_reducible exact truantlaw10_awake.mono _)
   | (with_reducible exact LeO.refl _)
   | (with_reducible exact LeO.none _)
   | (with_reducible refine LeO.ite ?_ ?_)
   | (with_reducible refine LeO.bind ?_ (fun _ => ?_))
   | exact ih0 _ _ _ _ _ _ _ _ _ _
   | exact ih1 _ _ _ _ _ _ _ _ _ _ _ _
   | exact ih2 _ _ _ _ _ _ _ _ _ _
   | exact ih3 _ _ _ _ _ _ _ _ _ _ _
   | exact ih4 _ _ _ _ _ _ _ _ _ _ _ _ _
   | exact ih5 _ _ _ _ _ _ _ _ _ _ _ _ _
   | exact ih6 _ _ _ _
   | exact truantlaw10_awake.mono _
   | exact LeO.none _
   | refine LeO.ite ?_ ?_
   | refine LeO.bind ?_ (fun _ => ?_)
set_option maxHeartbeats 8000000 in
set_option maxRecDepth 100000 in
theorem truantlaw10_DomFronts.calls (k : Nat) (a0_0 : ByteArray) (A0_1 : Option Addr) (c0_1 : Nat) (l0_1 : List ByteArray) (a0_2 : ByteArray) (A0_3 : Option Addr) (c0_3 : Nat) (l0_3 : List ByteArray) (A0_4 : Option Addr) (c0_4 : Nat) (l0_4 : List (S58)) (A0_5 : Option Addr) (c0_5 : Nat) (l0_5 : List (S40)) (A1 : Option Addr) (c1 : Nat) (l1 : List Int) (r : Bool) (w : World) (hr0_1 : Kd.C Kd.string w A0_1 l0_1.length l0_1) (hc0_1 : l0_1.length ≤ c0_1) (hr0_3 : Kd.C Kd.string w A0_3 l0_3.length l0_3) (hc0_3 : l0_3.length ≤ c0_3) (hr0_4 : Kd.C k58 w A0_4 l0_4.length l0_4) (hc0_4 : l0_4.length ≤ c0_4) (hr0_5 : Kd.C k40 w A0_5 l0_5.length l0_5) (hc0_5 : l0_5.length ≤ c0_5) (hr1 : Kd.C (Kd.int .i64) w A1 l1.length l1) (hc1 : l1.length ≤ c1) (h : truantlaw10_DomFronts.f k a0_0 l0_1 a0_2 l0_3 l0_4 l0_5 l1 = some r) :
  Calls Try.prog 11 #[.agg #[.string a0_0, .slice A0_1 l0_1.length c0_1, .string a0_2, .slice A0_3 l0_3.length c0_3, .slice A0_4 l0_4.length c0_4, .slice A0_5 l0_5.length c0_5], .slice A1 l1.length c1] w fun e w' => e = .returned (.bool r) ∧ Below w.heap.size w w' := by
 have hu26 := Try.underlying26
 have HR0_1 := Aside0.mk hr0_1
 have HC0_1 := Aside0.mk hc0_1
 clear hr0_1 hc0_1
 have HR0_3 := Aside0.mk hr0_3
 have HC0_3 := Aside0.mk hc0_3
 clear hr0_3 hc0_3
 have HR0_4 := Aside0.mk hr0_4
 have HC0_4 := Aside0.mk hc0_4
 clear hr0_4 hc0_4
 have HR0_5 := Aside0.mk hr0_5
 have HC0_5 := Aside0.mk hc0_5
 clear hr0_5 hc0_5
 have HR1 := Aside0.mk hr1
 have HC1 := Aside0.mk hc1
 clear hr1 hc1
 have HB := Aside0.mk (Below.refl w.heap.size w)
 have H : ((truantlaw10_awake.f k).bind fun t400 => (if t400 = true then ((truantlaw10_wide.f a0_0 l0_1 a0_2 l0_3 l0_4 l0_5).bind fun t401 => (if t401 = true then (some true) else (if (l1.length : Int) > 20 then (some true) else ((dom_Front.f a0_0 l0_1 a0_2 l0_3 l0_4 l0_5).bind fun t402 => ((truantref10_Front.f a0_0 l0_1 a0_2 l0_3 l0_4 l0_5).bind fun t405 => (if (t402.length : Int) = (t405.length : Int) then (truantlaw10_DomFronts.l0 k l1 t402 t405 0 a0_0 l0_1 a0_2 l0_3 l0_4 l0_5) else (none))))))) else (none))) = some r := h
 clear h
 replace H := Option.bind_eq_some_iff.mp H
 obtain ⟨t400, A30, H⟩ := H
 replace H : (if t400 = true then ((truantlaw10_wide.f a0_0 l0_1 a0_2 l0_3 l0_4 l0_5).bind fun t401 => (if t401 = true then (some true) else (if (l1.length : Int) > 20 then (some true) else ((dom_Front.f a0_0 l0_1 a0_2 l0_3 l0_4 l0_5).bind fun t402 => ((truantref10_Front.f a0_0 l0_1 a0_2 l0_3 l0_4 l0_5).bind fun t405 => (if (t402.length : Int) = (t405.length : Int) then (truantlaw10_DomFronts.l0 k l1 t402 t405 0 a0_0 l0_1 a0_2 l0_3 l0_4 l0_5) else (none))))))) else (none)) = some r := H
 have A3 := Aside0.mk A30
 clear A30
 by_cases c4 : t400 = true
 ·subst c4
  have H1 : ((truantlaw10_wide.f a0_0 l0_1 a0_2 l0_3 l0_4 l0_5).bind fun t401 => (if t401 = true then (some true) else (if (l1.length : Int) > 20 then (some true) else ((dom_Front.f a0_0 l0_1 a0_2 l0_3 l0_4 l0_5).bind fun t402 => ((truantref10_Front.f a0_0 l0_1 a0_2 l0_3 l0_4 l0_5).bind fun t405 => (if (t402.length : Int) = (t405.length : Int) then (truantlaw10_DomFronts.l0 k l1 t402 t405 0 a0_0 l0_1 a0_2 l0_3 l0_4 l0_5) else (none))))))) = some r := by rw [if_pos rfl] at H; exact H
  clear H
  have H := H1
  clear H1
  replace H := Option.bind_eq_some_iff.mp H
  obtain ⟨t401, A50, H⟩ := H
  replace H : (if t401 = true then (some true) else (if (l1.length : Int) > 20 then (some true) else ((dom_Front.f a0_0 l0_1 a0_2 l0_3 l0_4 l0_5).bind fun t402 => ((truantref10_Front.f a0_0 l0_1 a0_2 l0_3 l0_4 l0_5).bind fun t405 => (if (t402.length : Int) = (t405.length : Int) then (truantlaw10_DomFronts.l0 k l1 t402 t405 0 a0_0 l0_1 a0_2 l0_3 l0_4 l0_5) else (none)))))) = some r := H
  have A5 := Aside0.mk A50
  clear A50
  by_cases c6 : t401 = true
  ·subst c6
   have H1 : (some true) = some r := by rw [if_pos rfl] at H; exact H
   clear H
   have H := H1
   clear H1
   obtain rfl := Option.some.inj H
   go_enter Try.func11, Try.ntmps11
   go_wp2_with (first | ((with_reducible refine gate_dst (N := 2) rfl ?_); (try (refine gate_guard (by rfl) ?_; dsimp only)); refine box_event ?hg (N := 2) ?hd (cs := #[.string a0_0, .slice A0_1 l0_1.length c0_1, .string a0_2, .slice A0_3 l0_3.length c0_3, .slice A0_4 l0_4.length c0_4, .slice A0_5 l0_5.length c0_5]) (t := 26) ?hr ?_; (case hd => rfl); (case hg => rfl); (case hr => first | (go_simp; done) | (go_simp; rfl)); intro gb399 hg w7 hbox hb; have n0_ := Aside0.mk (below_step (by repeat (first | (with_reducible first | exact HB.out | apply below_alloc | apply pw_below_drewN | apply below_drew1) | exact HB.out)) hb); have n1_ := Aside0.mk (hbox); have n2_ := Aside0.mk ((by rw [hg]; exact (below_size (by repeat (first | (with_reducible first | exact HB.out | apply below_alloc | apply pw_below_drewN | apply below_drew1) | exact HB.out))) : w.heap.size ≤ gb399)); have n3_ := Aside0.mk ((by rw [hg]; exact (below_size (by repeat (first | (with_reducible first | exact HB.out | apply below_alloc | apply pw_below_drewN | apply below_drew1) | exact HB.out))) : w.heap.size ≤ gb399)); clear HB; have HB := n0_; have BK399 := n1_; have GW399 := n2_; have GE399 := n3_; clear n0_ n1_ n2_ n3_; clear hb hbox hg) | ((with_reducible refine gate_callee (f := 38) rfl ?_); refine goesL_ (some 19) rfl rfl Try.func38 (by kernel_rfl) rfl #[] rfl (by (try simp only [List.map_toArray, List.map_cons, List.map_nil]); first | done | rfl | (simp only [List.length_drop, List.length_take]; rfl)) ?_; (with_reducible refine (truantlaw10_awake.calls k  true _ A3.out).mono ?_); rintro e w8 ⟨rfl, hb⟩; refine ⟨_, rfl, ?_⟩; have n0_ := Aside0.mk (blk_below (g := gb399) (o := .cells #[.string a0_0, .slice A0_1 l0_1.length c0_1, .string a0_2, .slice A0_3 l0_3.length c0_3, .slice A0_4 l0_4.length c0_4, .slice A0_5 l0_5.length c0_5] 26 (0, 0)) (by (with_reducible repeat (first | refine blk_drewN ?_ _ | refine blk_drew ?_ | refine blk_alloc ?_ _)); exact BK399.out) hb); have n1_ := Aside0.mk (below_step (by repeat (first | (with_reducible first | exact HB.out | apply below_alloc | apply pw_below_drewN | apply below_drew1 | refine below_set ?_ GE399.out) | exact HB.out)) hb); clear BK399; clear HB; have BK399 := n0_; have HB := n1_; clear n0_ n1_; (try clear hb); (try clear hb2); (try clear hk); (try clear hi); have hcz9_0 : w8.cell? ⟨gb399, 0, none⟩ = some (.string a0_0) := (blk_cell BK399.out 0).trans rfl; have hcz9_1 : w8.cell? ⟨gb399, 1, none⟩ = some (.slice A0_1 l0_1.length c0_1) := (blk_cell BK399.out 1).trans rfl; have hcz9_2 : w8.cell? ⟨gb399, 2, none⟩ = some (.string a0_2) := (blk_cell BK399.out 2).trans rfl; have hcz9_3 : w8.cell? ⟨gb399, 3, none⟩ = some (.slice A0_3 l0_3.length c0_3) := (blk_cell BK399.out 3).trans rfl; have hcz9_4 : w8.cell? ⟨gb399, 4, none⟩ = some (.slice A0_4 l0_4.length c0_4) := (blk_cell BK399.out 4).trans rfl; have hcz9_5 : w8.cell? ⟨gb399, 5, none⟩ = some (.slice A0_5 l0_5.length c0_5) := (blk_cell BK399.out 5).trans rfl; have hfz9_0 := blk_frozen BK399.out 0; have hfz9_1 := blk_frozen BK399.out 1; have hfz9_2 := blk_frozen BK399.out 2; have hfz9_3 := blk_frozen BK399.out 3; have hfz9_4 := blk_frozen BK399.out 4; have hfz9_5 := blk_frozen BK399.out 5) | ((with_reducible refine gate_callee (f := 39) rfl ?_); refine goesL_ (some 22) rfl rfl Try.func39 (by kernel_rfl) rfl #[.agg #[.string a0_0, .slice A0_1 l0_1.length c0_1, .string a0_2, .slice A0_3 l0_3.length c0_3, .slice A0_4 l0_4.length c0_4, .slice A0_5 l0_5.length c0_5]] rfl (by (try simp only [List.map_toArray, List.map_cons, List.map_nil]); first | done | rfl | (simp only [List.length_drop, List.length_take]; rfl)) ?_; (with_reducible refine (truantlaw10_wide.calls a0_0 _ _ l0_1 a0_2 _ _ l0_3 _ _ l0_4 _ _ l0_5 true _ ?side1 ?side2 ?side3 ?side4 ?side5 ?side6 ?side7 ?side8 A5.out).mono ?_); (case side1 => repeat (first | exact (Kd.C_below HR0_1.out HB.out) | (with_reducible refine Kd.C_alloc ?_ _) | (with_reducible refine Kd.C_drewN ?_ _) | (with_reducible refine Kd.C_drew ?_))); (case side2 => exact HC0_1.out); (case side3 => repeat (first | exact (Kd.C_below HR0_3.out HB.out) | (with_reducible refine Kd.C_alloc ?_ _) | (with_reducible refine Kd.C_drewN ?_ _) | (with_reducible refine Kd.C_drew ?_))); (case side4 => exact HC0_3.out); (case side5 => repeat (first | exact (Kd.C_below HR0_4.out HB.out) | (with_reducible refine Kd.C_alloc ?_ _) | (with_reducible refine Kd.C_drewN ?_ _) | (with_reducible refine Kd.C_drew ?_))); (case side6 => exact HC0_4.out); (case side7 => repeat (first | exact (Kd.C_below HR0_5.out HB.out) | (with_reducible refine Kd.C_alloc ?_ _) | (with_reducible refine Kd.C_drewN ?_ _) | (with_reducible refine Kd.C_drew ?_))); (case side8 => exact HC0_5.out); rintro e w10 ⟨rfl, hb⟩; refine ⟨_, rfl, ?_⟩; have n0_ := Aside0.mk (blk_below (g := gb399) (o := .cells #[.string a0_0, .slice A0_1 l0_1.length c0_1, .string a0_2, .slice A0_3 l0_3.length c0_3, .slice A0_4 l0_4.length c0_4, .slice A0_5 l0_5.length c0_5] 26 (0, 0)) (by (with_reducible repeat (first | refine blk_drewN ?_ _ | refine blk_drew ?_ | refine blk_alloc ?_ _)); exact BK399.out) hb); have n1_ := Aside0.mk (below_step (by repeat (first | (with_reducible first | exact HB.out | apply below_alloc | apply pw_below_drewN | apply below_drew1 | refine below_set ?_ GE399.out) | exact HB.out)) hb); clear BK399; clear HB; have BK399 := n0_; have HB := n1_; clear n0_ n1_; (try clear hb); (try clear hb2); (try clear hk); (try clear hi)))
   go_ret
   exact ⟨by first | rfl | (simp [errW_none, errW_some] <;> rfl) | (simp [*, errW_none, errW_some] <;> rfl), by repeat (first | (with_reducible first | exact HB.out | apply below_alloc | apply pw_below_drewN | apply below_drew1 | refine below_set ?_ GE399.out) | exact HB.out)⟩
  ·replace c6 := Bool.eq_false_iff.mpr c6
   subst c6
   have H1 : (if (l1.length : Int) > 20 then (some true) else ((dom_Front.f a0_0 l0_1 a0_2 l0_3 l0_4 l0_5).bind fun t402 => ((truantref10_Front.f a0_0 l0_1 a0_2 l0_3 l0_4 l0_5).bind fun t405 => (if (t402.length : Int) = (t405.length : Int) then (truantlaw10_DomFronts.l0 k l1 t402 t405 0 a0_0 l0_1 a0_2 l0_3 l0_4 l0_5) else (none))))) = some r := by rw [if_neg (show ¬ (false = true) by decide)] at H; exact H
   clear H
   have H := H1
   clear H1
   by_cases c11 : (l1.length : Int) > 20
   ·rw [if_pos c11] at H
    have c11b0 : decide (20 < (l1.length : Int)) = true := decide_eq_true c11
    have c11b1 : decide (20 < l1.length) = true := decide_eq_true (by omega)
    clear c11
    obtain rfl := Option.some.inj H
    go_enter Try.func11, Try.ntmps11
    go_wp2_with (first | ((with_reducible refine gate_dst (N := 2) rfl ?_); (try (refine gate_guard (by rfl) ?_; dsimp only)); refine box_event ?hg (N := 2) ?hd (cs := #[.string a0_0, .slice A0_1 l0_1.length c0_1, .string a0_2, .slice A0_3 l0_3.length c0_3, .slice A0_4 l0_4.length c0_4, .slice A0_5 l0_5.length c0_5]) (t := 26) ?hr ?_; (case hd => rfl); (case hg => rfl); (case hr => first | (go_simp; done) | (go_simp; rfl)); intro gb399 hg w12 hbox hb; have n0_ := Aside0.mk (below_step (by repeat (first | (with_reducible first | exact HB.out | apply below_alloc | apply pw_below_drewN | apply below_drew1) | exact HB.out)) hb); have n1_ := Aside0.mk (hbox); have n2_ := Aside0.mk ((by rw [hg]; exact (below_size (by repeat (first | (with_reducible first | exact HB.out | apply below_alloc | apply pw_below_drewN | apply below_drew1) | exact HB.out))) : w.heap.size ≤ gb399)); have n3_ := Aside0.mk ((by rw [hg]; exact (below_size (by repeat (first | (with_reducible first | exact HB.out | apply below_alloc | apply pw_below_drewN | apply below_drew1) | exact HB.out))) : w.heap.size ≤ gb399)); clear HB; have HB := n0_; have BK399 := n1_; have GW399 := n2_; have GE399 := n3_; clear n0_ n1_ n2_ n3_; clear hb hbox hg) | ((with_reducible refine gate_callee (f := 38) rfl ?_); refine goesL_ (some 19) rfl rfl Try.func38 (by kernel_rfl) rfl #[] rfl (by (try simp only [List.map_toArray, List.map_cons, List.map_nil]); first | done | rfl | (simp only [List.length_drop, List.length_take]; rfl)) ?_; (with_reducible refine (truantlaw10_awake.calls k  true _ A3.out).mono ?_); rintro e w13 ⟨rfl, hb⟩; refine ⟨_, rfl, ?_⟩; have n0_ := Aside0.mk (blk_below (g := gb399) (o := .cells #[.string a0_0, .slice A0_1 l0_1.length c0_1, .string a0_2, .slice A0_3 l0_3.length c0_3, .slice A0_4 l0_4.length c0_4, .slice A0_5 l0_5.length c0_5] 26 (0, 0)) (by (with_reducible repeat (first | refine blk_drewN ?_ _ | refine blk_drew ?_ | refine blk_alloc ?_ _)); exact BK399.out) hb); have n1_ := Aside0.mk (below_step (by repeat (first | (with_reducible first | exact HB.out | apply below_alloc | apply pw_below_drewN | apply below_drew1 | refine below_set ?_ GE399.out) | exact HB.out)) hb); clear BK399; clear HB; have BK399 := n0_; have HB := n1_; clear n0_ n1_; (try clear hb); (try clear hb2); (try clear hk); (try clear hi); have hcz14_0 : w13.cell? ⟨gb399, 0, none⟩ = some (.string a0_0) := (blk_cell BK399.out 0).trans rfl; have hcz14_1 : w13.cell? ⟨gb399, 1, none⟩ = some (.slice A0_1 l0_1.length c0_1) := (blk_cell BK399.out 1).trans rfl; have hcz14_2 : w13.cell? ⟨gb399, 2, none⟩ = some (.string a0_2) := (blk_cell BK399.out 2).trans rfl; have hcz14_3 : w13.cell? ⟨gb399, 3, none⟩ = some (.slice A0_3 l0_3.length c0_3) := (blk_cell BK399.out 3).trans rfl; have hcz14_4 : w13.cell? ⟨gb399, 4, none⟩ = some (.slice A0_4 l0_4.length c0_4) := (blk_cell BK399.out 4).trans rfl; have hcz14_5 : w13.cell? ⟨gb399, 5, none⟩ = some (.slice A0_5 l0_5.length c0_5) := (blk_cell BK399.out 5).trans rfl; have hfz14_0 := blk_frozen BK399.out 0; have hfz14_1 := blk_frozen BK399.out 1; have hfz14_2 := blk_frozen BK399.out 2; have hfz14_3 := blk_frozen BK399.out 3; have hfz14_4 := blk_frozen BK399.out 4; have hfz14_5 := blk_frozen BK399.out 5) | ((with_reducible refine gate_callee (f := 39) rfl ?_); refine goesL_ (some 22) rfl rfl Try.func39 (by kernel_rfl) rfl #[.agg #[.string a0_0, .slice A0_1 l0_1.length c0_1, .string a0_2, .slice A0_3 l0_3.length c0_3, .slice A0_4 l0_4.length c0_4, .slice A0_5 l0_5.length c0_5]] rfl (by (try simp only [List.map_toArray, List.map_cons, List.map_nil]); first | done | rfl | (simp only [List.length_drop, List.length_take]; rfl)) ?_; (with_reducible refine (truantlaw10_wide.calls a0_0 _ _ l0_1 a0_2 _ _ l0_3 _ _ l0_4 _ _ l0_5 false _ ?side1 ?side2 ?side3 ?side4 ?side5 ?side6 ?side7 ?side8 A5.out).mono ?_); (case side1 => repeat (first | exact (Kd.C_below HR0_1.out HB.out) | (with_reducible refine Kd.C_alloc ?_ _) | (with_reducible refine Kd.C_drewN ?_ _) | (with_reducible refine Kd.C_drew ?_))); (case side2 => exact HC0_1.out); (case side3 => repeat (first | exact (Kd.C_below HR0_3.out HB.out) | (with_reducible refine Kd.C_alloc ?_ _) | (with_reducible refine Kd.C_drewN ?_ _) | (with_reducible refine Kd.C_drew ?_))); (case side4 => exact HC0_3.out); (case side5 => repeat (first | exact (Kd.C_below HR0_4.out HB.out) | (with_reducible refine Kd.C_alloc ?_ _) | (with_reducible refine Kd.C_drewN ?_ _) | (with_reducible refine Kd.C_drew ?_))); (case side6 => exact HC0_4.out); (case side7 => repeat (first | exact (Kd.C_below HR0_5.out HB.out) | (with_reducible refine Kd.C_alloc ?_ _) | (with_reducible refine Kd.C_drewN ?_ _) | (with_reducible refine Kd.C_drew ?_))); (case side8 => exact HC0_5.out); rintro e w15 ⟨rfl, hb⟩; refine ⟨_, rfl, ?_⟩; have n0_ := Aside0.mk (blk_below (g := gb399) (o := .cells #[.string a0_0, .slice A0_1 l0_1.length c0_1, .string a0_2, .slice A0_3 l0_3.length c0_3, .slice A0_4 l0_4.length c0_4, .slice A0_5 l0_5.length c0_5] 26 (0, 0)) (by (with_reducible repeat (first | refine blk_drewN ?_ _ | refine blk_drew ?_ | refine blk_alloc ?_ _)); exact BK399.out) hb); have n1_ := Aside0.mk (below_step (by repeat (first | (with_reducible first | exact HB.out | apply below_alloc | apply pw_below_drewN | apply below_drew1 | refine below_set ?_ GE399.out) | exact HB.out)) hb); clear BK399; clear HB; have BK399 := n0_; have HB := n1_; clear n0_ n1_; (try clear hb); (try clear hb2); (try clear hk); (try clear hi)))
    go_ret
    exact ⟨by first | rfl | (simp [errW_none, errW_some] <;> rfl) | (simp [*, errW_none, errW_some] <;> rfl), by repeat (first | (with_reducible first | exact HB.out | apply below_alloc | apply pw_below_drewN | apply below_drew1 | refine below_set ?_ GE399.out) | exact HB.out)⟩
   ·rw [if_neg c11] at H
    have c11b0 : decide (20 < (l1.length : Int)) = false := decide_eq_false c11
    have c11b1 : decide (20 < l1.length) = false := decide_eq_false (by omega)
    clear c11
    replace H := Option.bind_eq_some_iff.mp H
    obtain ⟨t402, A160, H⟩ := H
    replace H : ((truantref10_Front.f a0_0 l0_1 a0_2 l0_3 l0_4 l0_5).bind fun t405 => (if (t402.length : Int) = (t405.length : Int) then (truantlaw10_DomFronts.l0 k l1 t402 t405 0 a0_0 l0_1 a0_2 l0_3 l0_4 l0_5) else (none))) = some r := H
    have A16 := Aside0.mk A160
    clear A160
    replace H := Option.bind_eq_some_iff.mp H
    obtain ⟨t405, A170, H⟩ := H
    replace H : (if (t402.length : Int) = (t405.length : Int) then (truantlaw10_DomFronts.l0 k l1 t402 t405 0 a0_0 l0_1 a0_2 l0_3 l0_4 l0_5) else (none)) = some r := H
    have A17 := Aside0.mk A170
    clear A170
    by_cases c18 : (t402.length : Int) = (t405.length : Int)
    ·rw [if_pos c18] at H
     have c18b0 : ((t402.length : Int) == (t405.length : Int)) = true := beq_iff_eq.mpr c18
     have c18b1 : ((t402.length : Int) != (t405.length : Int)) = false := bne_eq_false_iff_eq.mpr c18
     have c18b2 : (t402.length == t405.length) = true := by first | simpa using c18 | (simp at c18 ⊢; omega)
     clear c18
     have H' := Aside0.mk H
     clear H
     go_enter Try.func11, Try.ntmps11
     go_wp2_with (first | ((with_reducible refine gate_dst (N := 2) rfl ?_); (try (refine gate_guard (by rfl) ?_; dsimp only)); refine box_event ?hg (N := 2) ?hd (cs := #[.string a0_0, .slice A0_1 l0_1.length c0_1, .string a0_2, .slice A0_3 l0_3.length c0_3, .slice A0_4 l0_4.length c0_4, .slice A0_5 l0_5.length c0_5]) (t := 26) ?hr ?_; (case hd => rfl); (case hg => rfl); (case hr => first | (go_simp; done) | (go_simp; rfl)); intro gb399 hg w19 hbox hb; have n0_ := Aside0.mk (below_step (by repeat (first | (with_reducible first | exact HB.out | apply below_alloc | apply pw_below_drewN | apply below_drew1) | exact HB.out)) hb); have n1_ := Aside0.mk (hbox); have n2_ := Aside0.mk ((by rw [hg]; exact (below_size (by repeat (first | (with_reducible first | exact HB.out | apply below_alloc | apply pw_below_drewN | apply below_drew1) | exact HB.out))) : w.heap.size ≤ gb399)); have n3_ := Aside0.mk ((by rw [hg]; exact (below_size (by repeat (first | (with_reducible first | exact HB.out | apply below_alloc | apply pw_below_drewN | apply below_drew1) | exact HB.out))) : w.heap.size ≤ gb399)); clear HB; have HB := n0_; have BK399 := n1_; have GW399 := n2_; have GE399 := n3_; clear n0_ n1_ n2_ n3_; clear hb hbox hg) | ((with_reducible refine gate_callee (f := 38) rfl ?_); refine goesL_ (some 19) rfl rfl Try.func38 (by kernel_rfl) rfl #[] rfl (by (try simp only [List.map_toArray, List.map_cons, List.map_nil]); first | done | rfl | (simp only [List.length_drop, List.length_take]; rfl)) ?_; (with_reducible refine (truantlaw10_awake.calls k  true _ A3.out).mono ?_); rintro e w20 ⟨rfl, hb⟩; refine ⟨_, rfl, ?_⟩; have n0_ := Aside0.mk (blk_below (g := gb399) (o := .cells #[.string a0_0, .slice A0_1 l0_1.length c0_1, .string a0_2, .slice A0_3 l0_3.length c0_3, .slice A0_4 l0_4.length c0_4, .slice A0_5 l0_5.length c0_5] 26 (0, 0)) (by (with_reducible repeat (first | refine blk_drewN ?_ _ | refine blk_drew ?_ | refine blk_alloc ?_ _)); exact BK399.out) hb); have n1_ := Aside0.mk (below_step (by repeat (first | (with_reducible first | exact HB.out | apply below_alloc | apply pw_below_drewN | apply below_drew1 | refine below_set ?_ GE399.out) | exact HB.out)) hb); clear BK399; clear HB; have BK399 := n0_; have HB := n1_; clear n0_ n1_; (try clear hb); (try clear hb2); (try clear hk); (try clear hi); have hcz21_0 : w20.cell? ⟨gb399, 0, none⟩ = some (.string a0_0) := (blk_cell BK399.out 0).trans rfl; have hcz21_1 : w20.cell? ⟨gb399, 1, none⟩ = some (.slice A0_1 l0_1.length c0_1) := (blk_cell BK399.out 1).trans rfl; have hcz21_2 : w20.cell? ⟨gb399, 2, none⟩ = some (.string a0_2) := (blk_cell BK399.out 2).trans rfl; have hcz21_3 : w20.cell? ⟨gb399, 3, none⟩ = some (.slice A0_3 l0_3.length c0_3) := (blk_cell BK399.out 3).trans rfl; have hcz21_4 : w20.cell? ⟨gb399, 4, none⟩ = some (.slice A0_4 l0_4.length c0_4) := (blk_cell BK399.out 4).trans rfl; have hcz21_5 : w20.cell? ⟨gb399, 5, none⟩ = some (.slice A0_5 l0_5.length c0_5) := (blk_cell BK399.out 5).trans rfl; have hfz21_0 := blk_frozen BK399.out 0; have hfz21_1 := blk_frozen BK399.out 1; have hfz21_2 := blk_frozen BK399.out 2; have hfz21_3 := blk_frozen BK399.out 3; have hfz21_4 := blk_frozen BK399.out 4; have hfz21_5 := blk_frozen BK399.out 5) | ((with_reducible refine gate_callee (f := 39) rfl ?_); refine goesL_ (some 22) rfl rfl Try.func39 (by kernel_rfl) rfl #[.agg #[.string a0_0, .slice A0_1 l0_1.length c0_1, .string a0_2, .slice A0_3 l0_3.length c0_3, .slice A0_4 l0_4.length c0_4, .slice A0_5 l0_5.length c0_5]] rfl (by (try simp only [List.map_toArray, List.map_cons, List.map_nil]); first | done | rfl | (simp only [List.length_drop, List.length_take]; rfl)) ?_; (with_reducible refine (truantlaw10_wide.calls a0_0 _ _ l0_1 a0_2 _ _ l0_3 _ _ l0_4 _ _ l0_5 false _ ?side1 ?side2 ?side3 ?side4 ?side5 ?side6 ?side7 ?side8 A5.out).mono ?_); (case side1 => repeat (first | exact (Kd.C_below HR0_1.out HB.out) | (with_reducible refine Kd.C_alloc ?_ _) | (with_reducible refine Kd.C_drewN ?_ _) | (with_reducible refine Kd.C_drew ?_))); (case side2 => exact HC0_1.out); (case side3 => repeat (first | exact (Kd.C_below HR0_3.out HB.out) | (with_reducible refine Kd.C_alloc ?_ _) | (with_reducible refine Kd.C_drewN ?_ _) | (with_reducible refine Kd.C_drew ?_))); (case side4 => exact HC0_3.out); (case side5 => repeat (first | exact (Kd.C_below HR0_4.out HB.out) | (with_reducible refine Kd.C_alloc ?_ _) | (with_reducible refine Kd.C_drewN ?_ _) | (with_reducible refine Kd.C_drew ?_))); (case side6 => exact HC0_4.out); (case side7 => repeat (first | exact (Kd.C_below HR0_5.out HB.out) | (with_reducible refine Kd.C_alloc ?_ _) | (with_reducible refine Kd.C_drewN ?_ _) | (with_reducible refine Kd.C_drew ?_))); (case side8 => exact HC0_5.out); rintro e w22 ⟨rfl, hb⟩; refine ⟨_, rfl, ?_⟩; have n0_ := Aside0.mk (blk_below (g := gb399) (o := .cells #[.string a0_0, .slice A0_1 l0_1.length c0_1, .string a0_2, .slice A0_3 l0_3.length c0_3, .slice A0_4 l0_4.length c0_4, .slice A0_5 l0_5.length c0_5] 26 (0, 0)) (by (with_reducible repeat (first | refine blk_drewN ?_ _ | refine blk_drew ?_ | refine blk_alloc ?_ _)); exact BK399.out) hb); have n1_ := Aside0.mk (below_step (by repeat (first | (with_reducible first | exact HB.out | apply below_alloc | apply pw_below_drewN | apply below_drew1 | refine below_set ?_ GE399.out) | exact HB.out)) hb); clear BK399; clear HB; have BK399 := n0_; have HB := n1_; clear n0_ n1_; (try clear hb); (try clear hb2); (try clear hk); (try clear hi); have hcz23_0 : w22.cell? ⟨gb399, 0, none⟩ = some (.string a0_0) := (blk_cell BK399.out 0).trans rfl; have hcz23_1 : w22.cell? ⟨gb399, 1, none⟩ = some (.slice A0_1 l0_1.length c0_1) := (blk_cell BK399.out 1).trans rfl; have hcz23_2 : w22.cell? ⟨gb399, 2, none⟩ = some (.string a0_2) := (blk_cell BK399.out 2).trans rfl; have hcz23_3 : w22.cell? ⟨gb399, 3, none⟩ = some (.slice A0_3 l0_3.length c0_3) := (blk_cell BK399.out 3).trans rfl; have hcz23_4 : w22.cell? ⟨gb399, 4, none⟩ = some (.slice A0_4 l0_4.length c0_4) := (blk_cell BK399.out 4).trans rfl; have hcz23_5 : w22.cell? ⟨gb399, 5, none⟩ = some (.slice A0_5 l0_5.length c0_5) := (blk_cell BK399.out 5).trans rfl; have hfz23_0 := blk_frozen BK399.out 0; have hfz23_1 := blk_frozen BK399.out 1; have hfz23_2 := blk_frozen BK399.out 2; have hfz23_3 := blk_frozen BK399.out 3; have hfz23_4 := blk_frozen BK399.out 4; have hfz23_5 := blk_frozen BK399.out 5) | ((with_reducible refine gate_callee (f := 45) rfl ?_); refine goesL_ (some 29) rfl rfl Try.func45 (by kernel_rfl) rfl #[.agg #[.string a0_0, .slice A0_1 l0_1.length c0_1, .string a0_2, .slice A0_3 l0_3.length c0_3, .slice A0_4 l0_4.length c0_4, .slice A0_5 l0_5.length c0_5]] rfl (by (try simp only [List.map_toArray, List.map_cons, List.map_nil]); first | done | rfl | (simp only [List.length_drop, List.length_take]; rfl)) ?_; (with_reducible refine (dom_Front.calls a0_0 _ _ l0_1 a0_2 _ _ l0_3 _ _ l0_4 _ _ l0_5 t402 _ ?side1 ?side2 ?side3 ?side4 ?side5 ?side6 ?side7 ?side8 A16.out).mono ?_); (case side1 => repeat (first | exact (Kd.C_below HR0_1.out HB.out) | (with_reducible refine Kd.C_alloc ?_ _) | (with_reducible refine Kd.C_drewN ?_ _) | (with_reducible refine Kd.C_drew ?_))); (case side2 => exact HC0_1.out); (case side3 => repeat (first | exact (Kd.C_below HR0_3.out HB.out) | (with_reducible refine Kd.C_alloc ?_ _) | (with_reducible refine Kd.C_drewN ?_ _) | (with_reducible refine Kd.C_drew ?_))); (case side4 => exact HC0_3.out); (case side5 => repeat (first | exact (Kd.C_below HR0_4.out HB.out) | (with_reducible refine Kd.C_alloc ?_ _) | (with_reducible refine Kd.C_drewN ?_ _) | (with_reducible refine Kd.C_drew ?_))); (case side6 => exact HC0_4.out); (case side7 => repeat (first | exact (Kd.C_below HR0_5.out HB.out) | (with_reducible refine Kd.C_alloc ?_ _) | (with_reducible refine Kd.C_drewN ?_ _) | (with_reducible refine Kd.C_drew ?_))); (case side8 => exact HC0_5.out); rintro e w24 ⟨v403, rfl, ho0, hb⟩; refine ⟨_, rfl, ?_⟩; have n0_ := Aside0.mk (Kd.S_lower ho0 (below_size (by repeat (first | (with_reducible first | exact HB.out | apply below_alloc | apply pw_below_drewN | apply below_drew1 | refine below_set ?_ GE399.out) | exact HB.out)))); have n1_ := Aside0.mk (blk_below (g := gb399) (o := .cells #[.string a0_0, .slice A0_1 l0_1.length c0_1, .string a0_2, .slice A0_3 l0_3.length c0_3, .slice A0_4 l0_4.length c0_4, .slice A0_5 l0_5.length c0_5] 26 (0, 0)) (by (with_reducible repeat (first | refine blk_drewN ?_ _ | refine blk_drew ?_ | refine blk_alloc ?_ _)); exact BK399.out) hb); have n2_ := Aside0.mk (below_step (by repeat (first | (with_reducible first | exact HB.out | apply below_alloc | apply pw_below_drewN | apply below_drew1 | refine below_set ?_ GE399.out) | exact HB.out)) hb); clear BK399; clear HB; have HO404 := n0_; have BK399 := n1_; have HB := n2_; clear n0_ n1_ n2_; (try clear hb); (try clear hb2); (try clear hk); (try clear hi); (try clear ho0); have hcz25_0 : w24.cell? ⟨gb399, 0, none⟩ = some (.string a0_0) := (blk_cell BK399.out 0).trans rfl; have hcz25_1 : w24.cell? ⟨gb399, 1, none⟩ = some (.slice A0_1 l0_1.length c0_1) := (blk_cell BK399.out 1).trans rfl; have hcz25_2 : w24.cell? ⟨gb399, 2, none⟩ = some (.string a0_2) := (blk_cell BK399.out 2).trans rfl; have hcz25_3 : w24.cell? ⟨gb399, 3, none⟩ = some (.slice A0_3 l0_3.length c0_3) := (blk_cell BK399.out 3).trans rfl; have hcz25_4 : w24.cell? ⟨gb399, 4, none⟩ = some (.slice A0_4 l0_4.length c0_4) := (blk_cell BK399.out 4).trans rfl; have hcz25_5 : w24.cell? ⟨gb399, 5, none⟩ = some (.slice A0_5 l0_5.length c0_5) := (blk_cell BK399.out 5).trans rfl; have hfz25_0 := blk_frozen BK399.out 0; have hfz25_1 := blk_frozen BK399.out 1; have hfz25_2 := blk_frozen BK399.out 2; have hfz25_3 := blk_frozen BK399.out 3; have hfz25_4 := blk_frozen BK399.out 4; have hfz25_5 := blk_frozen BK399.out 5) | ((with_reducible refine gate_callee (f := 46) rfl ?_); refine goesL_ (some 31) rfl rfl Try.func46 (by kernel_rfl) rfl #[.agg #[.string a0_0, .slice A0_1 l0_1.length c0_1, .string a0_2, .slice A0_3 l0_3.length c0_3, .slice A0_4 l0_4.length c0_4, .slice A0_5 l0_5.length c0_5]] rfl (by (try simp only [List.map_toArray, List.map_cons, List.map_nil]); first | done | rfl | (simp only [List.length_drop, List.length_take]; rfl)) ?_; (with_reducible refine (truantref10_Front.calls a0_0 _ _ l0_1 a0_2 _ _ l0_3 _ _ l0_4 _ _ l0_5 t405 _ ?side1 ?side2 ?side3 ?side4 ?side5 ?side6 ?side7 ?side8 A17.out).mono ?_); (case side1 => repeat (first | exact (Kd.C_below HR0_1.out HB.out) | (with_reducible refine Kd.C_alloc ?_ _) | (with_reducible refine Kd.C_drewN ?_ _) | (with_reducible refine Kd.C_drew ?_))); (case side2 => exact HC0_1.out); (case side3 => repeat (first | exact (Kd.C_below HR0_3.out HB.out) | (with_reducible refine Kd.C_alloc ?_ _) | (with_reducible refine Kd.C_drewN ?_ _) | (with_reducible refine Kd.C_drew ?_))); (case side4 => exact HC0_3.out); (case side5 => repeat (first | exact (Kd.C_below HR0_4.out HB.out) | (with_reducible refine Kd.C_alloc ?_ _) | (with_reducible refine Kd.C_drewN ?_ _) | (with_reducible refine Kd.C_drew ?_))); (case side6 => exact HC0_4.out); (case side7 => repeat (first | exact (Kd.C_below HR0_5.out HB.out) | (with_reducible refine Kd.C_alloc ?_ _) | (with_reducible refine Kd.C_drewN ?_ _) | (with_reducible refine Kd.C_drew ?_))); (case side8 => exact HC0_5.out); rintro e w26 ⟨v406, rfl, ho0, hb⟩; refine ⟨_, rfl, ?_⟩; have n0_ := Aside0.mk (Kd.S_below (by (with_reducible repeat (first | apply Kd.S_alloc | apply Kd.S_drewN | apply Kd.S_drew)); exact HO404.out) hb); have n1_ := Aside0.mk (Kd.S_lower ho0 (below_size (by repeat (first | (with_reducible first | exact HB.out | apply below_alloc | apply pw_below_drewN | apply below_drew1 | refine below_set ?_ GE399.out) | exact HB.out)))); have n2_ := Aside0.mk (blk_below (g := gb399) (o := .cells #[.string a0_0, .slice A0_1 l0_1.length c0_1, .string a0_2, .slice A0_3 l0_3.length c0_3, .slice A0_4 l0_4.length c0_4, .slice A0_5 l0_5.length c0_5] 26 (0, 0)) (by (with_reducible repeat (first | refine blk_drewN ?_ _ | refine blk_drew ?_ | refine blk_alloc ?_ _)); exact BK399.out) hb); have n3_ := Aside0.mk (below_step (by repeat (first | (with_reducible first | exact HB.out | apply below_alloc | apply pw_below_drewN | apply below_drew1 | refine below_set ?_ GE399.out) | exact HB.out)) hb); clear HO404; clear BK399; clear HB; have HO404 := n0_; have HO407 := n1_; have BK399 := n2_; have HB := n3_; clear n0_ n1_ n2_ n3_; (try clear hb); (try clear hb2); (try clear hk); (try clear hi); (try clear ho0); obtain ⟨Ao27, co27, eo27⟩ := Kd.S_slice HO404.out; subst eo27; obtain ⟨Ao28, co28, eo28⟩ := Kd.S_slice HO407.out; subst eo28))
     go_loopg [7] k (fun kq v7 w' => ∃ (x7_1 : Int), v7 = .int .i64 x7_1 ∧ Aside0 (truantlaw10_DomFronts.l0 kq l1 t402 t405 x7_1 a0_0 l0_1 a0_2 l0_3 l0_4 l0_5 = some r) ∧ Aside0 (kq ≤ k) ∧ Aside0 (Kd.S (Kd.slice 3 (Kd.int .i64)) 34 w' w.heap.size (fun _ => True) (.slice Ao27 t402.length co27) t402) ∧ Aside0 (Kd.S (Kd.slice 4 Kd.bool) 31 w' w.heap.size (fun _ => True) (.slice Ao28 t405.length co28) t405) ∧ Aside0 (w'.heap[gb399]? = some (.cells #[.string a0_0, (.slice A0_1 l0_1.length c0_1), .string a0_2, (.slice A0_3 l0_3.length c0_3), (.slice A0_4 l0_4.length c0_4), (.slice A0_5 l0_5.length c0_5)] 26 (0, 0))) ∧ Aside0 (Below w.heap.size w w'))
     case atStart => exact ⟨(0), (by first | rfl | (simp; done) | (simp [*]; done)), H', ⟨Nat.le_refl _⟩, ⟨by (with_reducible repeat (first | apply Kd.S_alloc | apply Kd.S_drewN | apply Kd.S_drew)); exact HO404.out⟩, ⟨by (with_reducible repeat (first | apply Kd.S_alloc | apply Kd.S_drewN | apply Kd.S_drew)); exact HO407.out⟩, ⟨by (with_reducible repeat (first | refine blk_drewN ?_ _ | refine blk_drew ?_ | refine blk_alloc ?_ _)); exact BK399.out⟩, ⟨by repeat (first | (with_reducible first | exact HB.out | apply below_alloc | apply pw_below_drewN | apply below_drew1 | refine below_set ?_ GE399.out) | exact HB.out)⟩⟩
     case round =>
      clear H'
      try clear c1
      try clear p2
      try clear c3
      try clear c4
      try clear c6
      try clear c11
      try clear c11b0
      try clear c11b1
      try clear c18
      try clear c18b0
      try clear c18b1
      try clear c18b2
      try clear hcz14_0
      try clear hcz14_1
      try clear hcz14_2
      try clear hcz14_3
      try clear hcz14_4
      try clear hcz14_5
      try clear hcz21_0
      try clear hcz21_1
      try clear hcz21_2
      try clear hcz21_3
      try clear hcz21_4
      try clear hcz21_5
      try clear hcz23_0
      try clear hcz23_1
      try clear hcz23_2
      try clear hcz23_3
      try clear hcz23_4
      try clear hcz23_5
      try clear hcz25_0
      try clear hcz25_1
      try clear hcz25_2
      try clear hcz25_3
      try clear hcz25_4
      try clear hcz25_5
      try clear hcz9_0
      try clear hcz9_1
      try clear hcz9_2
      try clear hcz9_3
      try clear hcz9_4
      try clear hcz9_5
      try clear hfz14_0
      try clear hfz14_1
      try clear hfz14_2
      try clear hfz14_3
      try clear hfz14_4
      try clear hfz14_5
      try clear hfz21_0
      try clear hfz21_1
      try clear hfz21_2
      try clear hfz21_3
      try clear hfz21_4
      try clear hfz21_5
      try clear hfz23_0
      try clear hfz23_1
      try clear hfz23_2
      try clear hfz23_3
      try clear hfz23_4
      try clear hfz23_5
      try clear hfz25_0
      try clear hfz25_1
      try clear hfz25_2
      try clear hfz25_3
      try clear hfz25_4
      try clear hfz25_5
      try clear hfz9_0
      try clear hfz9_1
      try clear hfz9_2
      try clear hfz9_3
      try clear hfz9_4
      try clear hfz9_5
      obtain ⟨x7_1, rfl, HA, HK1, HO_5, HO_6, BK399, HB⟩ := hrel
      cases gk with
      | zero => exact absurd HA.out (by simp [truantlaw10_DomFronts.l0])
      | succ k1 =>
       have H := HA.out
       clear HA
       simp only [truantlaw10_DomFronts.l0] at H
       by_cases c29 : x7_1 < (t405.length : Int)
       ·rw [if_pos c29] at H
        have c29b0 : decide (x7_1 < (t405.length : Int)) = true := decide_eq_true c29
        clear c29
        have H' := Aside0.mk H
        clear H
        go_wp2
        go_loopg [8, 9] k1 (fun kq v8 v9 w' => ∃ (x8_2 : Int) (x9_2 : Int), v8 = .int .i64 x8_2 ∧ v9 = .int .i64 x9_2 ∧ Aside0 (truantlaw10_DomFronts.l1 kq l1 t402 t405 x7_1 x8_2 x9_2 a0_0 l0_1 a0_2 l0_3 l0_4 l0_5 = some r) ∧ Aside0 (kq ≤ k1) ∧ Aside0 (Kd.S (Kd.slice 3 (Kd.int .i64)) 34 w' w.heap.size (fun _ => True) (.slice Ao27 t402.length co27) t402) ∧ Aside0 (Kd.S (Kd.slice 4 Kd.bool) 31 w' w.heap.size (fun _ => True) (.slice Ao28 t405.length co28) t405) ∧ Aside0 (w'.heap[gb399]? = some (.cells #[.string a0_0, (.slice A0_1 l0_1.length c0_1), .string a0_2, (.slice A0_3 l0_3.length c0_3), (.slice A0_4 l0_4.length c0_4), (.slice A0_5 l0_5.length c0_5)] 26 (0, 0))) ∧ Aside0 (Below w.heap.size w w'))
        case atStart => exact ⟨(0), (0), (by first | rfl | (simp; done) | (simp [*]; done)), (by first | rfl | (simp; done) | (simp [*]; done)), H', ⟨Nat.le_refl _⟩, ⟨by (with_reducible repeat (first | apply Kd.S_alloc | apply Kd.S_drewN | apply Kd.S_drew)); exact HO_5.out⟩, ⟨by (with_reducible repeat (first | apply Kd.S_alloc | apply Kd.S_drewN | apply Kd.S_drew)); exact HO_6.out⟩, ⟨by (with_reducible repeat (first | refine blk_drewN ?_ _ | refine blk_drew ?_ | refine blk_alloc ?_ _)); exact BK399.out⟩, ⟨by repeat (first | (with_reducible first | exact HB.out | apply below_alloc | apply pw_below_drewN | apply below_drew1 | refine below_set ?_ GE399.out) | exact HB.out)⟩⟩
        case round =>
         clear H'
         try clear c1
         try clear c2
         try clear p2
         try clear c3
         try clear c4
         try clear c6
         try clear c11
         try clear c11b0
         try clear c11b1
         try clear c18
         try clear c18b0
         try clear c18b1
         try clear c18b2
         try clear c29
         try clear c29b0
         try clear hcz14_0
         try clear hcz14_1
         try clear hcz14_2
         try clear hcz14_3
         try clear hcz14_4
         try clear hcz14_5
         try clear hcz21_0
         try clear hcz21_1
         try clear hcz21_2
         try clear hcz21_3
         try clear hcz21_4
         try clear hcz21_5
         try clear hcz23_0
         try clear hcz23_1
         try clear hcz23_2
         try clear hcz23_3
         try clear hcz23_4
         try clear hcz23_5
         try clear hcz25_0
         try clear hcz25_1
         try clear hcz25_2
         try clear hcz25_3
         try clear hcz25_4
         try clear hcz25_5
         try clear hcz9_0
         try clear hcz9_1
         try clear hcz9_2
         try clear hcz9_3
         try clear hcz9_4
         try clear hcz9_5
         try clear hfz14_0
         try clear hfz14_1
         try clear hfz14_2
         try clear hfz14_3
         try clear hfz14_4
         try clear hfz14_5
         try clear hfz21_0
         try clear hfz21_1
         try clear hfz21_2
         try clear hfz21_3
         try clear hfz21_4
         try clear hfz21_5
         try clear hfz23_0
         try clear hfz23_1
         try clear hfz23_2
         try clear hfz23_3
         try clear hfz23_4
         try clear hfz23_5
         try clear hfz25_0
         try clear hfz25_1
         try clear hfz25_2
         try clear hfz25_3
         try clear hfz25_4
         try clear hfz25_5
         try clear hfz9_0
         try clear hfz9_1
         try clear hfz9_2
         try clear hfz9_3
         try clear hfz9_4
         try clear hfz9_5
         try clear p2
         obtain ⟨x8_2, x9_2, rfl, rfl, HA, HK2, HO_5, HO_6, BK399, HB⟩ := hrel
         cases gk with
         | zero => exact absurd HA.out (by simp [truantlaw10_DomFronts.l1])
         | succ k2 =>
          have H := HA.out
          clear HA
          simp only [truantlaw10_DomFronts.l1] at H
          by_cases c30 : x9_2 < (t405.length : Int)
          ·rw [if_pos c30] at H
           have c30b0 : decide (x9_2 < (t405.length : Int)) = true := decide_eq_true c30
           clear c30
           by_cases c31 : 0 ≤ x7_1
           ·rw [if_pos c31] at H
            have c31b0 : decide (0 ≤ x7_1) = true := decide_eq_true c31
            clear c31
            by_cases c32 : x7_1 < (t405.length : Int)
            ·rw [if_pos c32] at H
             have c32b0 : decide (x7_1 < (t405.length : Int)) = true := decide_eq_true c32
             clear c32
             by_cases c33 : 0 ≤ x9_2
             ·rw [if_pos c33] at H
              have c33b0 : decide (0 ≤ x9_2) = true := decide_eq_true c33
              clear c33
              by_cases c34 : x9_2 < ((rd_L7 t405 x7_1).length : Int)
              ·rw [if_pos c34] at H
               have c34b0 : decide (x9_2 < ((rd_L7 t405 x7_1).length : Int)) = true := decide_eq_true c34
               clear c34
               obtain ⟨bq35, hbq35⟩ : ∃ b_ : Bool, b_ = (rdOf false (rd_L7 t405 x7_1) x9_2) := ⟨_, rfl⟩
               replace H : (if (bq35 = true) then (if x7_1 < (t402.length : Int) then (if x8_2 ≥ ((rd_L2 t402 x7_1).length : Int) then (none) else (if 0 ≤ x8_2 then (if x8_2 < ((rd_L2 t402 x7_1).length : Int) then (if (rd (rd_L2 t402 x7_1) x8_2) = x9_2 then (truantlaw10_DomFronts.l1 k2 l1 t402 t405 x7_1 (wrap64 (x8_2 + 1)) (wrap64 (x9_2 + 1)) a0_0 l0_1 a0_2 l0_3 l0_4 l0_5) else (none)) else (none)) else (none))) else (none)) else (truantlaw10_DomFronts.l1 k2 l1 t402 t405 x7_1 x8_2 (wrap64 (x9_2 + 1)) a0_0 l0_1 a0_2 l0_3 l0_4 l0_5)) = some r := by rw [← hbq35] at H; exact H
               have Nbq35 := Aside0.mk hbq35
               clear hbq35
               by_cases c36 : (bq35 = true)
               ·subst c36
                have H1 : (if x7_1 < (t402.length : Int) then (if x8_2 ≥ ((rd_L2 t402 x7_1).length : Int) then (none) else (if 0 ≤ x8_2 then (if x8_2 < ((rd_L2 t402 x7_1).length : Int) then (if (rd (rd_L2 t402 x7_1) x8_2) = x9_2 then (truantlaw10_DomFronts.l1 k2 l1 t402 t405 x7_1 (wrap64 (x8_2 + 1)) (wrap64 (x9_2 + 1)) a0_0 l0_1 a0_2 l0_3 l0_4 l0_5) else (none)) else (none)) else (none))) else (none)) = some r := by rw [if_pos rfl] at H; exact H
                clear H
                have H := H1
                clear H1
                by_cases c37 : x7_1 < (t402.length : Int)
                ·rw [if_pos c37] at H
                 have c37b0 : decide (x7_1 < (t402.length : Int)) = true := decide_eq_true c37
                 clear c37
                 by_cases c38 : x8_2 ≥ ((rd_L2 t402 x7_1).length : Int)
                 ·rw [if_pos c38] at H
                  exact absurd H (by simp)
                 ·rw [if_neg c38] at H
                  have c38b0 : decide (((rd_L2 t402 x7_1).length : Int) ≤ x8_2) = false := decide_eq_false c38
                  clear c38
                  by_cases c39 : 0 ≤ x8_2
                  ·rw [if_pos c39] at H
                   have c39b0 : decide (0 ≤ x8_2) = true := decide_eq_true c39
                   clear c39
                   by_cases c40 : x8_2 < ((rd_L2 t402 x7_1).length : Int)
                   ·rw [if_pos c40] at H
                    have c40b0 : decide (x8_2 < ((rd_L2 t402 x7_1).length : Int)) = true := decide_eq_true c40
                    clear c40
                    by_cases c41 : (rd (rd_L2 t402 x7_1) x8_2) = x9_2
                    ·rw [if_pos c41] at H
                     have c41b0 : ((rd (rd_L2 t402 x7_1) x8_2) == x9_2) = true := beq_iff_eq.mpr c41
                     have c41b1 : ((rd (rd_L2 t402 x7_1) x8_2) != x9_2) = false := bne_eq_false_iff_eq.mpr c41
                     clear c41
                     have H' := Aside0.mk H
                     clear H
                     have p408 : 0 ≤ (x7_1 : Int) := of_decide_eq_true (by first | (with_reducible assumption) | assumption)
                     have q408 : x7_1 < (t405.length : Int) := of_decide_eq_true (by first | (with_reducible assumption) | assumption)
                     obtain ⟨ad408, A408_0, c408_0, e408, hx408_0, hl408_0, hi408_0⟩ := at_L7 (Kd.S_reads' HO_6.out).2.2 x7_1 p408 q408
                     cases e408
                     obtain ⟨ce408, hce408, hMe408, hcc408⟩ := Kd.S_get HO_6.out [] x7_1 p408 (by first | exact q408 | exact of_decide_eq_true (by first | (with_reducible assumption) | assumption) | (have e_ := (Kd.S_reads' HO_6.out).1; omega))
                     obtain ⟨ve408_0, rfl, ge408_0⟩ := hMe408
                     have hv408_0 := hcc408 0 _ rfl
                     rw [Nat.add_zero, show ((Kd.slice 4 Kd.bool)).sz = 1 from rfl, Nat.mul_one] at hv408_0
                     replace hv408_0 := Option.some.inj (hv408_0.symm.trans hx408_0)
                     rw [hv408_0] at ge408_0
                     have HL408_0 := Aside0.mk (show Kd.R Kd.bool 4 _ _ _ _ (rd_L7 t405 x7_1) from ge408_0)
                     clear hv408_0 ge408_0
                     clear hcc408 hce408
                     have HR408_0 := Aside0.mk hi408_0
                     have HC408_0 := Aside0.mk hl408_0
                     clear hi408_0 hl408_0
                     replace p408 := eq_true p408
                     replace q408 := eq_true q408
                     have p409 : 0 ≤ (x9_2 : Int) := of_decide_eq_true (by first | (with_reducible assumption) | assumption)
                     have q409 : x9_2 < ((rd_L7 t405 x7_1).length : Int) := of_decide_eq_true (by first | (with_reducible assumption) | assumption)
                     obtain ⟨ad409, e409, hx409_0⟩ := Kd.at_bool (by repeat (first | (with_reducible exact HR408_0.out) | (with_reducible refine Kd.C_alloc ?_ _) | (with_reducible refine Kd.C_drewN ?_ _) | (with_reducible refine Kd.C_drew ?_) | exact HR408_0.out)) x9_2 p409 q409
                     (try rw [← Nbq35.out] at hx409_0)
                     cases e409
                     replace p409 := eq_true p409
                     replace q409 := eq_true q409
                     have p410 : 0 ≤ (x7_1 : Int) := of_decide_eq_true (by first | (with_reducible assumption) | assumption)
                     have q410 : x7_1 < (t402.length : Int) := of_decide_eq_true (by first | (with_reducible assumption) | assumption)
                     obtain ⟨ad410, A410_0, c410_0, e410, hx410_0, hl410_0, hi410_0⟩ := at_L2 (Kd.S_reads' HO_5.out).2.2 x7_1 p410 q410
                     cases e410
                     obtain ⟨ce410, hce410, hMe410, hcc410⟩ := Kd.S_get HO_5.out [] x7_1 p410 (by first | exact q410 | exact of_decide_eq_true (by first | (with_reducible assumption) | assumption) | (have e_ := (Kd.S_reads' HO_5.out).1; omega))
                     obtain ⟨ve410_0, rfl, ge410_0⟩ := hMe410
                     have hv410_0 := hcc410 0 _ rfl
                     rw [Nat.add_zero, show ((Kd.slice 3 (Kd.int .i64))).sz = 1 from rfl, Nat.mul_one] at hv410_0
                     replace hv410_0 := Option.some.inj (hv410_0.symm.trans hx410_0)
                     rw [hv410_0] at ge410_0
                     have HL410_0 := Aside0.mk (show Kd.R (Kd.int .i64) 3 _ _ _ _ (rd_L2 t402 x7_1) from ge410_0)
                     clear hv410_0 ge410_0
                     clear hcc410 hce410
                     have HR410_0 := Aside0.mk hi410_0
                     have HC410_0 := Aside0.mk hl410_0
                     clear hi410_0 hl410_0
                     replace p410 := eq_true p410
                     replace q410 := eq_true q410
                     have p411 : 0 ≤ (x7_1 : Int) := of_decide_eq_true (by first | (with_reducible assumption) | assumption)
                     have q411 : x7_1 < (t402.length : Int) := of_decide_eq_true (by first | (with_reducible assumption) | assumption)
                     obtain ⟨ad411, A411_0, c411_0, e411, hx411_0, hl411_0, hi411_0⟩ := at_L2 (Kd.S_reads' HO_5.out).2.2 x7_1 p411 q411
                     obtain rfl : ad410 = ad411 := (by injection e411)
                     obtain ⟨ce411, hce411, hMe411, hcc411⟩ := Kd.S_get HO_5.out [] x7_1 p411 (by first | exact q411 | exact of_decide_eq_true (by first | (with_reducible assumption) | assumption) | (have e_ := (Kd.S_reads' HO_5.out).1; omega))
                     obtain ⟨ve411_0, rfl, ge411_0⟩ := hMe411
                     have hv411_0 := hcc411 0 _ rfl
                     rw [Nat.add_zero, show ((Kd.slice 3 (Kd.int .i64))).sz = 1 from rfl, Nat.mul_one] at hv411_0
                     replace hv411_0 := Option.some.inj (hv411_0.symm.trans hx411_0)
                     rw [hv411_0] at ge411_0
                     have HL411_0 := Aside0.mk (show Kd.R (Kd.int .i64) 3 _ _ _ _ (rd_L2 t402 x7_1) from ge411_0)
                     clear hv411_0 ge411_0
                     clear hcc411 hce411
                     have HR411_0 := Aside0.mk hi411_0
                     have HC411_0 := Aside0.mk hl411_0
                     clear hi411_0 hl411_0
                     replace p411 := eq_true p411
                     replace q411 := eq_true q411
                     have ea_ := Option.some.inj (hx410_0.symm.trans hx411_0)
                     injection ea_ with ea_ en_ ec_
                     subst ea_
                     subst ec_
                     clear en_
                     have p412 : 0 ≤ (x8_2 : Int) := of_decide_eq_true (by first | (with_reducible assumption) | assumption)
                     have q412 : x8_2 < ((rd_L2 t402 x7_1).length : Int) := of_decide_eq_true (by first | (with_reducible assumption) | assumption)
                     obtain ⟨ad412, e412, hx412_0⟩ := Kd.at_int (by repeat (first | (with_reducible exact HR411_0.out) | (with_reducible refine Kd.C_alloc ?_ _) | (with_reducible refine Kd.C_drewN ?_ _) | (with_reducible refine Kd.C_drew ?_) | exact HR411_0.out)) x8_2 p412 q412
                     cases e412
                     replace p412 := eq_true p412
                     replace q412 := eq_true q412
                     go_wp2
                     go_roundg k2
                     case measure => have := HK1.out; have := HK2.out; omega
                     case rel => exact ⟨(wrap64 (x8_2 + 1)), (wrap64 (x9_2 + 1)), (by first | rfl | (simp; done) | (simp [*]; done)), (by first | rfl | (simp; done) | (simp [*]; done)), H', ⟨by have := HK1.out; have := HK2.out; omega⟩, ⟨by (with_reducible repeat (first | apply Kd.S_alloc | apply Kd.S_drewN | apply Kd.S_drew)); exact HO_5.out⟩, ⟨by (with_reducible repeat (first | apply Kd.S_alloc | apply Kd.S_drewN | apply Kd.S_drew)); exact HO_6.out⟩, ⟨by (with_reducible repeat (first | refine blk_drewN ?_ _ | refine blk_drew ?_ | refine blk_alloc ?_ _)); exact BK399.out⟩, ⟨by repeat (first | (with_reducible first | exact HB.out | apply below_alloc | apply pw_below_drewN | apply below_drew1 | refine below_set ?_ GE399.out) | exact HB.out)⟩⟩
                    ·rw [if_neg c41] at H
                     exact absurd H (by simp)
                   ·rw [if_neg c40] at H
                    exact absurd H (by simp)
                  ·rw [if_neg c39] at H
                   exact absurd H (by simp)
                ·rw [if_neg c37] at H
                 exact absurd H (by simp)
               ·replace c36 := Bool.eq_false_iff.mpr c36
                subst c36
                have H1 : (truantlaw10_DomFronts.l1 k2 l1 t402 t405 x7_1 x8_2 (wrap64 (x9_2 + 1)) a0_0 l0_1 a0_2 l0_3 l0_4 l0_5) = some r := by rw [if_neg (show ¬ (false = true) by decide)] at H; exact H
                clear H
                have H := H1
                clear H1
                have H' := Aside0.mk H
                clear H
                have p408 : 0 ≤ (x7_1 : Int) := of_decide_eq_true (by first | (with_reducible assumption) | assumption)
                have q408 : x7_1 < (t405.length : Int) := of_decide_eq_true (by first | (with_reducible assumption) | assumption)
                obtain ⟨ad408, A408_0, c408_0, e408, hx408_0, hl408_0, hi408_0⟩ := at_L7 (Kd.S_reads' HO_6.out).2.2 x7_1 p408 q408
                cases e408
                obtain ⟨ce408, hce408, hMe408, hcc408⟩ := Kd.S_get HO_6.out [] x7_1 p408 (by first | exact q408 | exact of_decide_eq_true (by first | (with_reducible assumption) | assumption) | (have e_ := (Kd.S_reads' HO_6.out).1; omega))
                obtain ⟨ve408_0, rfl, ge408_0⟩ := hMe408
                have hv408_0 := hcc408 0 _ rfl
                rw [Nat.add_zero, show ((Kd.slice 4 Kd.bool)).sz = 1 from rfl, Nat.mul_one] at hv408_0
                replace hv408_0 := Option.some.inj (hv408_0.symm.trans hx408_0)
                rw [hv408_0] at ge408_0
                have HL408_0 := Aside0.mk (show Kd.R Kd.bool 4 _ _ _ _ (rd_L7 t405 x7_1) from ge408_0)
                clear hv408_0 ge408_0
                clear hcc408 hce408
                have HR408_0 := Aside0.mk hi408_0
                have HC408_0 := Aside0.mk hl408_0
                clear hi408_0 hl408_0
                replace p408 := eq_true p408
                replace q408 := eq_true q408
                have p409 : 0 ≤ (x9_2 : Int) := of_decide_eq_true (by first | (with_reducible assumption) | assumption)
                have q409 : x9_2 < ((rd_L7 t405 x7_1).length : Int) := of_decide_eq_true (by first | (with_reducible assumption) | assumption)
                obtain ⟨ad409, e409, hx409_0⟩ := Kd.at_bool (by repeat (first | (with_reducible exact HR408_0.out) | (with_reducible refine Kd.C_alloc ?_ _) | (with_reducible refine Kd.C_drewN ?_ _) | (with_reducible refine Kd.C_drew ?_) | exact HR408_0.out)) x9_2 p409 q409
                (try rw [← Nbq35.out] at hx409_0)
                cases e409
                replace p409 := eq_true p409
                replace q409 := eq_true q409
                go_wp2
                go_roundg k2
                case measure => have := HK1.out; have := HK2.out; omega
                case rel => exact ⟨(x8_2), (wrap64 (x9_2 + 1)), (by first | rfl | (simp; done) | (simp [*]; done)), (by first | rfl | (simp; done) | (simp [*]; done)), H', ⟨by have := HK1.out; have := HK2.out; omega⟩, ⟨by (with_reducible repeat (first | apply Kd.S_alloc | apply Kd.S_drewN | apply Kd.S_drew)); exact HO_5.out⟩, ⟨by (with_reducible repeat (first | apply Kd.S_alloc | apply Kd.S_drewN | apply Kd.S_drew)); exact HO_6.out⟩, ⟨by (with_reducible repeat (first | refine blk_drewN ?_ _ | refine blk_drew ?_ | refine blk_alloc ?_ _)); exact BK399.out⟩, ⟨by repeat (first | (with_reducible first | exact HB.out | apply below_alloc | apply pw_below_drewN | apply below_drew1 | refine below_set ?_ GE399.out) | exact HB.out)⟩⟩
              ·rw [if_neg c34] at H
               exact absurd H (by simp)
             ·rw [if_neg c33] at H
              exact absurd H (by simp)
            ·rw [if_neg c32] at H
             exact absurd H (by simp)
           ·rw [if_neg c31] at H
            exact absurd H (by simp)
          ·rw [if_neg c30] at H
           have c30b0 : decide (x9_2 < (t405.length : Int)) = false := decide_eq_false c30
           clear c30
           by_cases c42 : 0 ≤ x7_1
           ·rw [if_pos c42] at H
            have c42b0 : decide (0 ≤ x7_1) = true := decide_eq_true c42
            clear c42
            by_cases c43 : x7_1 < (t402.length : Int)
            ·rw [if_pos c43] at H
             have c43b0 : decide (x7_1 < (t402.length : Int)) = true := decide_eq_true c43
             clear c43
             by_cases c44 : x8_2 = ((rd_L2 t402 x7_1).length : Int)
             ·rw [if_pos c44] at H
              have c44b0 : (x8_2 == ((rd_L2 t402 x7_1).length : Int)) = true := beq_iff_eq.mpr c44
              have c44b1 : (x8_2 != ((rd_L2 t402 x7_1).length : Int)) = false := bne_eq_false_iff_eq.mpr c44
              clear c44
              have H' := Aside0.mk H
              clear H
              have p413 : 0 ≤ (x7_1 : Int) := of_decide_eq_true (by first | (with_reducible assumption) | assumption)
              have q413 : x7_1 < (t402.length : Int) := of_decide_eq_true (by first | (with_reducible assumption) | assumption)
              obtain ⟨ad413, A413_0, c413_0, e413, hx413_0, hl413_0, hi413_0⟩ := at_L2 (Kd.S_reads' HO_5.out).2.2 x7_1 p413 q413
              cases e413
              obtain ⟨ce413, hce413, hMe413, hcc413⟩ := Kd.S_get HO_5.out [] x7_1 p413 (by first | exact q413 | exact of_decide_eq_true (by first | (with_reducible assumption) | assumption) | (have e_ := (Kd.S_reads' HO_5.out).1; omega))
              obtain ⟨ve413_0, rfl, ge413_0⟩ := hMe413
              have hv413_0 := hcc413 0 _ rfl
              rw [Nat.add_zero, show ((Kd.slice 3 (Kd.int .i64))).sz = 1 from rfl, Nat.mul_one] at hv413_0
              replace hv413_0 := Option.some.inj (hv413_0.symm.trans hx413_0)
              rw [hv413_0] at ge413_0
              have HL413_0 := Aside0.mk (show Kd.R (Kd.int .i64) 3 _ _ _ _ (rd_L2 t402 x7_1) from ge413_0)
              clear hv413_0 ge413_0
              clear hcc413 hce413
              have HR413_0 := Aside0.mk hi413_0
              have HC413_0 := Aside0.mk hl413_0
              clear hi413_0 hl413_0
              replace p413 := eq_true p413
              replace q413 := eq_true q413
              go_wp2
              go_roundg k2
              case measure => have := HK1.out; have := HK2.out; omega
              case rel => exact ⟨(wrap64 (x7_1 + 1)), (by first | rfl | (simp; done) | (simp [*]; done)), H', ⟨by have := HK1.out; have := HK2.out; omega⟩, ⟨by (with_reducible repeat (first | apply Kd.S_alloc | apply Kd.S_drewN | apply Kd.S_drew)); exact HO_5.out⟩, ⟨by (with_reducible repeat (first | apply Kd.S_alloc | apply Kd.S_drewN | apply Kd.S_drew)); exact HO_6.out⟩, ⟨by (with_reducible repeat (first | refine blk_drewN ?_ _ | refine blk_drew ?_ | refine blk_alloc ?_ _)); exact BK399.out⟩, ⟨by repeat (first | (with_reducible first | exact HB.out | apply below_alloc | apply pw_below_drewN | apply below_drew1 | refine below_set ?_ GE399.out) | exact HB.out)⟩⟩
             ·rw [if_neg c44] at H
              exact absurd H (by simp)
            ·rw [if_neg c43] at H
             exact absurd H (by simp)
           ·rw [if_neg c42] at H
            exact absurd H (by simp)
       ·rw [if_neg c29] at H
        have c29b0 : decide (x7_1 < (t405.length : Int)) = false := decide_eq_false c29
        clear c29
        by_cases c45 : 0 ≤ (t405.length : Int)
        ·rw [if_pos c45] at H
         have c45b0 := eq_true c45
         have c45b1 : decide (0 ≤ (t405.length : Int)) = true := decide_eq_true c45
         clear c45
         by_cases c46 : ((t405.length : Int) : Int).toNat ≤ 281474976710656
         ·rw [if_pos c46] at H
          have c46b0 := eq_true c46
          have c46b1 : decide (((t405.length : Int) : Int).toNat ≤ 281474976710656) = true := decide_eq_true c46
          clear c46
          obtain ⟨y414, hy414⟩ : ∃ y_ : List Bool, y_ = (List.replicate ((t405.length : Int) : Int).toNat false) := ⟨_, rfl⟩
          replace H : (truantlaw10_DomFronts.l2 k1 l1 t405 y414 0 a0_0 l0_1 a0_2 l0_3 l0_4 l0_5) = some r := by first | (rw [hy414]; with_reducible exact H) | (have H2_ := (Option.bind_some _ _).symm.trans H; rw [hy414]; with_reducible exact H2_) | (have H2_ := (Option.bind_some _ _).symm.trans H; with_reducible exact H2_) | with_reducible exact H | (rw [hy414]; exact H) | exact H
          have Ny414 := Aside0.mk hy414
          clear hy414
          have H' := Aside0.mk H
          clear H
          go_wp2_with (first | ((with_reducible refine gate_dst (N := 86) rfl ?_); (try (refine gate_guard (by rfl) ?_; dsimp only)); refine Kd.R_make Kd.bool _ 4 rfl (N := 86) rfl 31 _ _ rfl (t405.length : Int) rfl rfl Try.underlying31 (.bool false) 1 info4 rfl (by decide) (by omega) false (ok := fun _ => True) (okp := fun _ => True) rfl (fun _ hk => hk) trivial (of_decide_eq_true (by first | (with_reducible assumption) | assumption)) (Nat.le_trans (Nat.mul_le_mul_right _ (of_decide_eq_true (by first | (with_reducible assumption) | assumption) : (t405.length : Int).toNat ≤ 281474976710656)) (by omega)) (Below.refl _ _) (Nat.le_refl _) ?_; intro v415 w47 ho48 hb hg_ hnew_; clear hg_ hnew_; (first | rw [← Ny414.out] at ho48 | (simp only [Int.reduceToNat] at ho48; rw [← Ny414.out] at ho48)); have n0_ := Aside0.mk (Kd.S_below (by (with_reducible repeat (first | apply Kd.S_alloc | apply Kd.S_drewN | apply Kd.S_drew)); exact HO_5.out) hb); have n1_ := Aside0.mk (Kd.S_elder' (by (with_reducible repeat (first | apply Kd.S_alloc | apply Kd.S_drewN | apply Kd.S_drew)); exact HO_6.out) (Kd.R_base ho48) hb); have n2_ := Aside0.mk (Kd.R_lower ho48 (below_size (by repeat (first | (with_reducible first | exact HB.out | apply below_alloc | apply pw_below_drewN | apply below_drew1 | refine below_set ?_ GE399.out) | exact HB.out)))); have n3_ := Aside0.mk (blk_below (g := gb399) (o := .cells #[.string a0_0, .slice A0_1 l0_1.length c0_1, .string a0_2, .slice A0_3 l0_3.length c0_3, .slice A0_4 l0_4.length c0_4, .slice A0_5 l0_5.length c0_5] 26 (0, 0)) (by (with_reducible repeat (first | refine blk_drewN ?_ _ | refine blk_drew ?_ | refine blk_alloc ?_ _)); exact BK399.out) hb); have n4_ := Aside0.mk (below_step (by repeat (first | (with_reducible first | exact HB.out | apply below_alloc | apply pw_below_drewN | apply below_drew1 | refine below_set ?_ GE399.out) | exact HB.out)) hb); clear HO_5; clear HO_6; clear BK399; clear HB; have HO_5 := n0_; have HO_6 := n1_; have HO416 := n2_; have BK399 := n3_; have HB := n4_; clear n0_ n1_ n2_ n3_ n4_; clear hb ho48))
          go_loopg [11] k1 (fun kq v11 w' => ∃ (x10_2 : List Bool) (x11_2 : Int), v11 = .int .i64 x11_2 ∧ Aside0 (truantlaw10_DomFronts.l2 kq l1 t405 x10_2 x11_2 a0_0 l0_1 a0_2 l0_3 l0_4 l0_5 = some r) ∧ Aside0 (kq ≤ k1) ∧ Aside0 (Kd.S (Kd.slice 4 Kd.bool) 31 w' w.heap.size (fun k_ => some k_ ≠ (v415 : Value).ownBlock) (.slice Ao28 t405.length co28) t405) ∧ Aside0 (Kd.R Kd.bool 4 w' w.heap.size (fun _ => True) v415 x10_2) ∧ Aside0 (w'.heap[gb399]? = some (.cells #[.string a0_0, (.slice A0_1 l0_1.length c0_1), .string a0_2, (.slice A0_3 l0_3.length c0_3), (.slice A0_4 l0_4.length c0_4), (.slice A0_5 l0_5.length c0_5)] 26 (0, 0))) ∧ Aside0 (Below w.heap.size w w'))
          case atStart => exact ⟨(y414), (0), (by first | rfl | (simp; done) | (simp [*]; done)), H', ⟨Nat.le_refl _⟩, ⟨by (with_reducible repeat (first | apply Kd.S_alloc | apply Kd.S_drewN | apply Kd.S_drew)); exact Kd.S_mono HO_6.out (fun _ hk => hk.2)⟩, ⟨by (with_reducible repeat (first | apply Kd.R_alloc | apply Kd.R_drewN | apply Kd.R_drew)); exact HO416.out⟩, ⟨by (with_reducible repeat (first | refine blk_drewN ?_ _ | refine blk_drew ?_ | refine blk_alloc ?_ _)); exact BK399.out⟩, ⟨by repeat (first | (with_reducible first | exact HB.out | apply below_alloc | apply pw_below_drewN | apply below_drew1 | refine below_set ?_ GE399.out) | exact HB.out)⟩⟩
          case round =>
           clear H'
           try clear c1
           try clear c2
           try clear p2
           try clear c3
           try clear q3
           try clear c4
           try clear p4
           try clear q4
           try clear hx4
           try clear c6
           try clear p6
           try clear c11
           try clear c11b0
           try clear c11b1
           try clear c18
           try clear c18b0
           try clear c18b1
           try clear c18b2
           try clear c29
           try clear c29b0
           try clear c30
           try clear c30b0
           try clear c31
           try clear c31b0
           try clear c32
           try clear c32b0
           try clear c33
           try clear c33b0
           try clear c34
           try clear c34b0
           try clear q35
           try clear c36
           try clear c37
           try clear c37b0
           try clear c38
           try clear c38b0
           try clear c39
           try clear c39b0
           try clear c40
           try clear c40b0
           try clear p40
           try clear q40
           try clear hx40
           try clear c41
           try clear c41b0
           try clear c41b1
           try clear p41
           try clear q41
           try clear hx41
           try clear c42
           try clear c42b0
           try clear c43
           try clear c43b0
           try clear c44
           try clear c44b0
           try clear c44b1
           try clear c45
           try clear c45b0
           try clear c45b1
           try clear c46
           try clear c46b0
           try clear c46b1
           try clear hcz14_0
           try clear hcz14_1
           try clear hcz14_2
           try clear hcz14_3
           try clear hcz14_4
           try clear hcz14_5
           try clear hcz21_0
           try clear hcz21_1
           try clear hcz21_2
           try clear hcz21_3
           try clear hcz21_4
           try clear hcz21_5
           try clear hcz23_0
           try clear hcz23_1
           try clear hcz23_2
           try clear hcz23_3
           try clear hcz23_4
           try clear hcz23_5
           try clear hcz25_0
           try clear hcz25_1
           try clear hcz25_2
           try clear hcz25_3
           try clear hcz25_4
           try clear hcz25_5
           try clear hcz9_0
           try clear hcz9_1
           try clear hcz9_2
           try clear hcz9_3
           try clear hcz9_4
           try clear hcz9_5
           try clear hfz14_0
           try clear hfz14_1
           try clear hfz14_2
           try clear hfz14_3
           try clear hfz14_4
           try clear hfz14_5
           try clear hfz21_0
           try clear hfz21_1
           try clear hfz21_2
           try clear hfz21_3
           try clear hfz21_4
           try clear hfz21_5
           try clear hfz23_0
           try clear hfz23_1
           try clear hfz23_2
           try clear hfz23_3
           try clear hfz23_4
           try clear hfz23_5
           try clear hfz25_0
           try clear hfz25_1
           try clear hfz25_2
           try clear hfz25_3
           try clear hfz25_4
           try clear hfz25_5
           try clear hfz9_0
           try clear hfz9_1
           try clear hfz9_2
           try clear hfz9_3
           try clear hfz9_4
           try clear hfz9_5
           try clear hx408_0
           try clear hx409_0
           try clear hx410_0
           try clear hx411_0
           try clear hx412_0
           try clear hx413_0
           try clear p2
           try clear p408
           try clear p409
           try clear p410
           try clear p411
           try clear p412
           try clear p413
           try clear q408
           try clear q409
           try clear q410
           try clear q411
           try clear q412
           try clear q413
           obtain ⟨x10_2, x11_2, rfl, HA, HK2, HO_6, HO_10, BK399, HB⟩ := hrel
           cases gk with
           | zero => exact absurd HA.out (by simp [truantlaw10_DomFronts.l2])
           | succ k2 =>
            have H := HA.out
            clear HA
            simp only [truantlaw10_DomFronts.l2] at H
            by_cases c49 : x11_2 ≤ (t405.length : Int)
            ·rw [if_pos c49] at H
             have c49b0 : decide (x11_2 ≤ (t405.length : Int)) = true := decide_eq_true c49
             clear c49
             have H' := Aside0.mk H
             clear H
             go_wp2
             go_loopg [12] k2 (fun kq v12 w' => ∃ (x10_3 : List Bool) (x12_3 : Int), v12 = .int .i64 x12_3 ∧ Aside0 (truantlaw10_DomFronts.l3 kq l1 t405 x10_3 x11_2 x12_3 a0_0 l0_1 a0_2 l0_3 l0_4 l0_5 = some r) ∧ Aside0 (kq ≤ k2) ∧ Aside0 (Kd.S (Kd.slice 4 Kd.bool) 31 w' w.heap.size (fun k_ => some k_ ≠ (v415 : Value).ownBlock) (.slice Ao28 t405.length co28) t405) ∧ Aside0 (Kd.R Kd.bool 4 w' w.heap.size (fun _ => True) v415 x10_3) ∧ Aside0 (w'.heap[gb399]? = some (.cells #[.string a0_0, (.slice A0_1 l0_1.length c0_1), .string a0_2, (.slice A0_3 l0_3.length c0_3), (.slice A0_4 l0_4.length c0_4), (.slice A0_5 l0_5.length c0_5)] 26 (0, 0))) ∧ Aside0 (Below w.heap.size w w'))
             case atStart => exact ⟨(x10_2), (0), (by first | rfl | (simp; done) | (simp [*]; done)), H', ⟨Nat.le_refl _⟩, ⟨by (with_reducible repeat (first | apply Kd.S_alloc | apply Kd.S_drewN | apply Kd.S_drew)); exact HO_6.out⟩, ⟨by (with_reducible repeat (first | apply Kd.R_alloc | apply Kd.R_drewN | apply Kd.R_drew)); exact HO_10.out⟩, ⟨by (with_reducible repeat (first | refine blk_drewN ?_ _ | refine blk_drew ?_ | refine blk_alloc ?_ _)); exact BK399.out⟩, ⟨by repeat (first | (with_reducible first | exact HB.out | apply below_alloc | apply pw_below_drewN | apply below_drew1 | refine below_set ?_ GE399.out) | exact HB.out)⟩⟩
             case round =>
              clear H'
              try clear c1
              try clear c2
              try clear p2
              try clear c3
              try clear q3
              try clear c4
              try clear p4
              try clear q4
              try clear hx4
              try clear c6
              try clear p6
              try clear c11
              try clear c11b0
              try clear c11b1
              try clear c18
              try clear c18b0
              try clear c18b1
              try clear c18b2
              try clear c29
              try clear c29b0
              try clear c30
              try clear c30b0
              try clear c31
              try clear c31b0
              try clear c32
              try clear c32b0
              try clear c33
              try clear c33b0
              try clear c34
              try clear c34b0
              try clear q35
              try clear c36
              try clear c37
              try clear c37b0
              try clear c38
              try clear c38b0
              try clear c39
              try clear c39b0
              try clear c40
              try clear c40b0
              try clear p40
              try clear q40
              try clear hx40
              try clear c41
              try clear c41b0
              try clear c41b1
              try clear p41
              try clear q41
              try clear hx41
              try clear c42
              try clear c42b0
              try clear c43
              try clear c43b0
              try clear c44
              try clear c44b0
              try clear c44b1
              try clear c45
              try clear c45b0
              try clear c45b1
              try clear c46
              try clear c46b0
              try clear c46b1
              try clear c49
              try clear c49b0
              try clear hcz14_0
              try clear hcz14_1
              try clear hcz14_2
              try clear hcz14_3
              try clear hcz14_4
              try clear hcz14_5
              try clear hcz21_0
              try clear hcz21_1
              try clear hcz21_2
              try clear hcz21_3
              try clear hcz21_4
              try clear hcz21_5
              try clear hcz23_0
              try clear hcz23_1
              try clear hcz23_2
              try clear hcz23_3
              try clear hcz23_4
              try clear hcz23_5
              try clear hcz25_0
              try clear hcz25_1
              try clear hcz25_2
              try clear hcz25_3
              try clear hcz25_4
              try clear hcz25_5
              try clear hcz9_0
              try clear hcz9_1
              try clear hcz9_2
              try clear hcz9_3
              try clear hcz9_4
              try clear hcz9_5
              try clear hfz14_0
              try clear hfz14_1
              try clear hfz14_2
              try clear hfz14_3
              try clear hfz14_4
              try clear hfz14_5
              try clear hfz21_0
              try clear hfz21_1
              try clear hfz21_2
              try clear hfz21_3
              try clear hfz21_4
              try clear hfz21_5
              try clear hfz23_0
              try clear hfz23_1
              try clear hfz23_2
              try clear hfz23_3
              try clear hfz23_4
              try clear hfz23_5
              try clear hfz25_0
              try clear hfz25_1
              try clear hfz25_2
              try clear hfz25_3
              try clear hfz25_4
              try clear hfz25_5
              try clear hfz9_0
              try clear hfz9_1
              try clear hfz9_2
              try clear hfz9_3
              try clear hfz9_4
              try clear hfz9_5
              try clear hx408_0
              try clear hx409_0
              try clear hx410_0
              try clear hx411_0
              try clear hx412_0
              try clear hx413_0
              try clear p2
              try clear p4
              try clear p40
              try clear p408
              try clear p409
              try clear p41
              try clear p410
              try clear p411
              try clear p412
              try clear p413
              try clear p6
              try clear q3
              try clear q35
              try clear q4
              try clear q40
              try clear q408
              try clear q409
              try clear q41
              try clear q410
              try clear q411
              try clear q412
              try clear q413
              obtain ⟨x10_3, x12_3, rfl, HA, HK3, HO_6, HO_10, BK399, HB⟩ := hrel
              cases gk with
              | zero => exact absurd HA.out (by simp [truantlaw10_DomFronts.l3])
              | succ k3 =>
               have H := HA.out
               clear HA
               simp only [truantlaw10_DomFronts.l3] at H
               by_cases c50 : x12_3 < (t405.length : Int)
               ·rw [if_pos c50] at H
                have c50b0 : decide (x12_3 < (t405.length : Int)) = true := decide_eq_true c50
                clear c50
                by_cases c51 : 0 ≤ x12_3
                ·rw [if_pos c51] at H
                 have c51b0 : decide (0 ≤ x12_3) = true := decide_eq_true c51
                 clear c51
                 by_cases c52 : x12_3 < (x10_3.length : Int)
                 ·rw [if_pos c52] at H
                  have c52b0 : decide (x12_3 < (x10_3.length : Int)) = true := decide_eq_true c52
                  clear c52
                  have H' := Aside0.mk H
                  clear H
                  obtain ⟨Ao53, co53, eo53⟩ := Kd.R_slice HO_10.out
                  subst eo53
                  have p417 : 0 ≤ (x12_3 : Int) := of_decide_eq_true (by first | (with_reducible assumption) | assumption)
                  have q417 : x12_3 < (x10_3.length : Int) := of_decide_eq_true (by first | (with_reducible assumption) | assumption)
                  obtain ⟨ad417, e417, hx417_0⟩ := Kd.at_bool (Kd.R_reads' HO_10.out).2.2 x12_3 p417 q417
                  cases e417
                  replace p417 := eq_true p417
                  replace q417 := eq_true q417
                  go_wp2
                  go_loopg [13, 14] k3 (fun kq v13 v14 w' => ∃ (x13_4 : Bool) (x14_4 : Int), v13 = .bool x13_4 ∧ v14 = .int .i64 x14_4 ∧ Aside0 (truantlaw10_DomFronts.l4 kq l1 t405 x10_3 x11_2 x12_3 x13_4 x14_4 a0_0 l0_1 a0_2 l0_3 l0_4 l0_5 = some r) ∧ Aside0 (kq ≤ k3) ∧ Aside0 (Kd.S (Kd.slice 4 Kd.bool) 31 w' w.heap.size (fun k_ => some k_ ≠ ((.slice (some ad417) x10_3.length co53) : Value).ownBlock) (.slice Ao28 t405.length co28) t405) ∧ Aside0 (Kd.R Kd.bool 4 w' w.heap.size (fun _ => True) (.slice (some ad417) x10_3.length co53) x10_3) ∧ Aside0 (w'.heap[gb399]? = some (.cells #[.string a0_0, (.slice A0_1 l0_1.length c0_1), .string a0_2, (.slice A0_3 l0_3.length c0_3), (.slice A0_4 l0_4.length c0_4), (.slice A0_5 l0_5.length c0_5)] 26 (0, 0))) ∧ Aside0 (Below w.heap.size w w'))
                  case atStart => exact ⟨(rdOf false x10_3 x12_3), (0), (by first | rfl | (simp; done) | (simp [*]; done)), (by first | rfl | (simp; done) | (simp [*]; done)), H', ⟨Nat.le_refl _⟩, ⟨by (with_reducible repeat (first | apply Kd.S_alloc | apply Kd.S_drewN | apply Kd.S_drew)); exact HO_6.out⟩, ⟨by (with_reducible repeat (first | apply Kd.R_alloc | apply Kd.R_drewN | apply Kd.R_drew)); exact HO_10.out⟩, ⟨by (with_reducible repeat (first | refine blk_drewN ?_ _ | refine blk_drew ?_ | refine blk_alloc ?_ _)); exact BK399.out⟩, ⟨by repeat (first | (with_reducible first | exact HB.out | apply below_alloc | apply pw_below_drewN | apply below_drew1 | refine below_set ?_ GE399.out) | exact HB.out)⟩⟩
                  case round =>
                   clear H'
                   try clear c1
                   try clear c2
                   try clear p2
                   try clear c3
                   try clear q3
                   try clear c4
                   try clear p4
                   try clear q4
                   try clear hx4
                   try clear c5
                   try clear c6
                   try clear p6
                   try clear c11
                   try clear c11b0
                   try clear c11b1
                   try clear c18
                   try clear c18b0
                   try clear c18b1
                   try clear c18b2
                   try clear c29
                   try clear c29b0
                   try clear c30
                   try clear c30b0
                   try clear c31
                   try clear c31b0
                   try clear c32
                   try clear c32b0
                   try clear c33
                   try clear c33b0
                   try clear c34
                   try clear c34b0
                   try clear q35
                   try clear c36
                   try clear c37
                   try clear c37b0
                   try clear c38
                   try clear c38b0
                   try clear c39
                   try clear c39b0
                   try clear c40
                   try clear c40b0
                   try clear p40
                   try clear q40
                   try clear hx40
                   try clear c41
                   try clear c41b0
                   try clear c41b1
                   try clear p41
                   try clear q41
                   try clear hx41
                   try clear c42
                   try clear c42b0
                   try clear c43
                   try clear c43b0
                   try clear c44
                   try clear c44b0
                   try clear c44b1
                   try clear c45
                   try clear c45b0
                   try clear c45b1
                   try clear c46
                   try clear c46b0
                   try clear c46b1
                   try clear c49
                   try clear c49b0
                   try clear c50
                   try clear c50b0
                   try clear c51
                   try clear c51b0
                   try clear c52
                   try clear c52b0
                   try clear hcz14_0
                   try clear hcz14_1
                   try clear hcz14_2
                   try clear hcz14_3
                   try clear hcz14_4
                   try clear hcz14_5
                   try clear hcz21_0
                   try clear hcz21_1
                   try clear hcz21_2
                   try clear hcz21_3
                   try clear hcz21_4
                   try clear hcz21_5
                   try clear hcz23_0
                   try clear hcz23_1
                   try clear hcz23_2
                   try clear hcz23_3
                   try clear hcz23_4
                   try clear hcz23_5
                   try clear hcz25_0
                   try clear hcz25_1
                   try clear hcz25_2
                   try clear hcz25_3
                   try clear hcz25_4
                   try clear hcz25_5
                   try clear hcz9_0
                   try clear hcz9_1
                   try clear hcz9_2
                   try clear hcz9_3
                   try clear hcz9_4
                   try clear hcz9_5
                   try clear hfz14_0
                   try clear hfz14_1
                   try clear hfz14_2
                   try clear hfz14_3
                   try clear hfz14_4
                   try clear hfz14_5
                   try clear hfz21_0
                   try clear hfz21_1
                   try clear hfz21_2
                   try clear hfz21_3
                   try clear hfz21_4
                   try clear hfz21_5
                   try clear hfz23_0
                   try clear hfz23_1
                   try clear hfz23_2
                   try clear hfz23_3
                   try clear hfz23_4
                   try clear hfz23_5
                   try clear hfz25_0
                   try clear hfz25_1
                   try clear hfz25_2
                   try clear hfz25_3
                   try clear hfz25_4
                   try clear hfz25_5
                   try clear hfz9_0
                   try clear hfz9_1
                   try clear hfz9_2
                   try clear hfz9_3
                   try clear hfz9_4
                   try clear hfz9_5
                   try clear hx408_0
                   try clear hx409_0
                   try clear hx410_0
                   try clear hx411_0
                   try clear hx412_0
                   try clear hx413_0
                   try clear hx417_0
                   try clear p2
                   try clear p4
                   try clear p40
                   try clear p408
                   try clear p409
                   try clear p41
                   try clear p410
                   try clear p411
                   try clear p412
                   try clear p413
                   try clear p417
                   try clear p6
                   try clear q3
                   try clear q35
                   try clear q4
                   try clear q40
                   try clear q408
                   try clear q409
                   try clear q41
                   try clear q410
                   try clear q411
                   try clear q412
                   try clear q413
                   try clear q417
                   obtain ⟨x13_4, x14_4, rfl, rfl, HA, HK4, HO_6, HO_10, BK399, HB⟩ := hrel
                   cases gk with
                   | zero => exact absurd HA.out (by simp [truantlaw10_DomFronts.l4])
                   | succ k4 =>
                    have H := HA.out
                    clear HA
                    simp only [truantlaw10_DomFronts.l4] at H
                    by_cases c54 : x14_4 < (l1.length : Int)
                    ·rw [if_pos c54] at H
                     have c54b0 : decide (x14_4 < (l1.length : Int)) = true := decide_eq_true c54
                     clear c54
                     by_cases c55 : x13_4 = true
                     ·subst c55
                      have H1 : (truantlaw10_DomFronts.l4 k4 l1 t405 x10_3 x11_2 x12_3 true (wrap64 (x14_4 + 1)) a0_0 l0_1 a0_2 l0_3 l0_4 l0_5) = some r := by rw [if_pos rfl] at H; exact H
                      clear H
                      have H := H1
                      clear H1
                      have H' := Aside0.mk H
                      clear H
                      go_wp2
                      go_roundg k4
                      case measure => have := HK1.out; have := HK2.out; have := HK3.out; have := HK4.out; omega
                      case rel => exact ⟨(true), (wrap64 (x14_4 + 1)), (by first | rfl | (simp; done) | (simp [*]; done)), (by first | rfl | (simp; done) | (simp [*]; done)), H', ⟨by have := HK1.out; have := HK2.out; have := HK3.out; have := HK4.out; omega⟩, ⟨by (with_reducible repeat (first | apply Kd.S_alloc | apply Kd.S_drewN | apply Kd.S_drew)); exact HO_6.out⟩, ⟨by (with_reducible repeat (first | apply Kd.R_alloc | apply Kd.R_drewN | apply Kd.R_drew)); exact HO_10.out⟩, ⟨by (with_reducible repeat (first | refine blk_drewN ?_ _ | refine blk_drew ?_ | refine blk_alloc ?_ _)); exact BK399.out⟩, ⟨by repeat (first | (with_reducible first | exact HB.out | apply below_alloc | apply pw_below_drewN | apply below_drew1 | refine below_set ?_ GE399.out) | exact HB.out)⟩⟩
                     ·replace c55 := Bool.eq_false_iff.mpr c55
                      subst c55
                      have H1 : (if 0 ≤ x14_4 then (truantlaw10_DomFronts.l4 k4 l1 t405 x10_3 x11_2 x12_3 ((rd l1 x14_4) == x12_3) (wrap64 (x14_4 + 1)) a0_0 l0_1 a0_2 l0_3 l0_4 l0_5) else (none)) = some r := by rw [if_neg (show ¬ (false = true) by decide)] at H; exact H
                      clear H
                      have H := H1
                      clear H1
                      by_cases c56 : 0 ≤ x14_4
                      ·rw [if_pos c56] at H
                       have c56b0 : decide (0 ≤ x14_4) = true := decide_eq_true c56
                       clear c56
                       have H' := Aside0.mk H
                       clear H
                       have p418 : 0 ≤ (x14_4 : Int) := of_decide_eq_true (by first | (with_reducible assumption) | assumption)
                       have q418 : x14_4 < (l1.length : Int) := of_decide_eq_true (by first | (with_reducible assumption) | assumption)
                       obtain ⟨ad418, e418, hx418_0⟩ := Kd.at_int HR1.out x14_4 p418 q418
                       cases e418
                       replace hx418_0 := (HB.out.cell (World.block_lt_of_cell? w _ hx418_0)).trans hx418_0
                       replace p418 := eq_true p418
                       replace q418 := eq_true q418
                       go_wp2
                       go_roundg k4
                       case measure => have := HK1.out; have := HK2.out; have := HK3.out; have := HK4.out; omega
                       case rel => exact ⟨(((rd l1 x14_4) == x12_3)), (wrap64 (x14_4 + 1)), (by first | rfl | (simp; done) | (simp [*]; done)), (by first | rfl | (simp; done) | (simp [*]; done)), H', ⟨by have := HK1.out; have := HK2.out; have := HK3.out; have := HK4.out; omega⟩, ⟨by (with_reducible repeat (first | apply Kd.S_alloc | apply Kd.S_drewN | apply Kd.S_drew)); exact HO_6.out⟩, ⟨by (with_reducible repeat (first | apply Kd.R_alloc | apply Kd.R_drewN | apply Kd.R_drew)); exact HO_10.out⟩, ⟨by (with_reducible repeat (first | refine blk_drewN ?_ _ | refine blk_drew ?_ | refine blk_alloc ?_ _)); exact BK399.out⟩, ⟨by repeat (first | (with_reducible first | exact HB.out | apply below_alloc | apply pw_below_drewN | apply below_drew1 | refine below_set ?_ GE399.out) | exact HB.out)⟩⟩
                      ·rw [if_neg c56] at H
                       exact absurd H (by simp)
                    ·rw [if_neg c54] at H
                     have c54b0 : decide (x14_4 < (l1.length : Int)) = false := decide_eq_false c54
                     clear c54
                     have H' := Aside0.mk H
                     clear H
                     go_wp2
                     (try generalize Value.pointer (some (ad417.add (x12_3 : Int).toNat)) = v101_)
                     go_loopg [15] k4 (fun kq v15 w' => ∃ (x10_5 : List Bool) (x15_5 : Int), v15 = .int .i64 x15_5 ∧ Aside0 (truantlaw10_DomFronts.l5 kq l1 t405 x10_5 x11_2 x12_3 x13_4 x15_5 a0_0 l0_1 a0_2 l0_3 l0_4 l0_5 = some r) ∧ Aside0 (kq ≤ k4) ∧ Aside0 (Kd.S (Kd.slice 4 Kd.bool) 31 w' w.heap.size (fun k_ => some k_ ≠ ((.slice (some ad417) x10_3.length co53) : Value).ownBlock) (.slice Ao28 t405.length co28) t405) ∧ Aside0 (Kd.R Kd.bool 4 w' w.heap.size (fun _ => True) (.slice (some ad417) x10_3.length co53) x10_5) ∧ Aside0 (w'.heap[gb399]? = some (.cells #[.string a0_0, (.slice A0_1 l0_1.length c0_1), .string a0_2, (.slice A0_3 l0_3.length c0_3), (.slice A0_4 l0_4.length c0_4), (.slice A0_5 l0_5.length c0_5)] 26 (0, 0))) ∧ Aside0 (Below w.heap.size w w'))
                     case atStart => exact ⟨(x10_3), (0), (by first | rfl | (simp; done) | (simp [*]; done)), H', ⟨Nat.le_refl _⟩, ⟨by (with_reducible repeat (first | apply Kd.S_alloc | apply Kd.S_drewN | apply Kd.S_drew)); exact HO_6.out⟩, ⟨by (with_reducible repeat (first | apply Kd.R_alloc | apply Kd.R_drewN | apply Kd.R_drew)); exact HO_10.out⟩, ⟨by (with_reducible repeat (first | refine blk_drewN ?_ _ | refine blk_drew ?_ | refine blk_alloc ?_ _)); exact BK399.out⟩, ⟨by repeat (first | (with_reducible first | exact HB.out | apply below_alloc | apply pw_below_drewN | apply below_drew1 | refine below_set ?_ GE399.out) | exact HB.out)⟩⟩
                     case round =>
                      clear H'
                      try clear c1
                      try clear c2
                      try clear p2
                      try clear c3
                      try clear q3
                      try clear c4
                      try clear p4
                      try clear q4
                      try clear hx4
                      try clear c5
                      try clear c6
                      try clear p6
                      try clear c11
                      try clear c11b0
                      try clear c11b1
                      try clear c18
                      try clear c18b0
                      try clear c18b1
                      try clear c18b2
                      try clear c29
                      try clear c29b0
                      try clear c30
                      try clear c30b0
                      try clear c31
                      try clear c31b0
                      try clear c32
                      try clear c32b0
                      try clear c33
                      try clear c33b0
                      try clear c34
                      try clear c34b0
                      try clear q35
                      try clear c36
                      try clear c37
                      try clear c37b0
                      try clear c38
                      try clear c38b0
                      try clear c39
                      try clear c39b0
                      try clear c40
                      try clear c40b0
                      try clear p40
                      try clear q40
                      try clear hx40
                      try clear c41
                      try clear c41b0
                      try clear c41b1
                      try clear p41
                      try clear q41
                      try clear hx41
                      try clear c42
                      try clear c42b0
                      try clear c43
                      try clear c43b0
                      try clear c44
                      try clear c44b0
                      try clear c44b1
                      try clear c45
                      try clear c45b0
                      try clear c45b1
                      try clear c46
                      try clear c46b0
                      try clear c46b1
                      try clear c49
                      try clear c49b0
                      try clear c50
                      try clear c50b0
                      try clear c51
                      try clear c51b0
                      try clear c52
                      try clear c52b0
                      try clear c54
                      try clear c54b0
                      try clear c55
                      try clear c56
                      try clear c56b0
                      try clear hcz14_0
                      try clear hcz14_1
                      try clear hcz14_2
                      try clear hcz14_3
                      try clear hcz14_4
                      try clear hcz14_5
                      try clear hcz21_0
                      try clear hcz21_1
                      try clear hcz21_2
                      try clear hcz21_3
                      try clear hcz21_4
                      try clear hcz21_5
                      try clear hcz23_0
                      try clear hcz23_1
                      try clear hcz23_2
                      try clear hcz23_3
                      try clear hcz23_4
                      try clear hcz23_5
                      try clear hcz25_0
                      try clear hcz25_1
                      try clear hcz25_2
                      try clear hcz25_3
                      try clear hcz25_4
                      try clear hcz25_5
                      try clear hcz9_0
                      try clear hcz9_1
                      try clear hcz9_2
                      try clear hcz9_3
                      try clear hcz9_4
                      try clear hcz9_5
                      try clear hfz14_0
                      try clear hfz14_1
                      try clear hfz14_2
                      try clear hfz14_3
                      try clear hfz14_4
                      try clear hfz14_5
                      try clear hfz21_0
                      try clear hfz21_1
                      try clear hfz21_2
                      try clear hfz21_3
                      try clear hfz21_4
                      try clear hfz21_5
                      try clear hfz23_0
                      try clear hfz23_1
                      try clear hfz23_2
                      try clear hfz23_3
                      try clear hfz23_4
                      try clear hfz23_5
                      try clear hfz25_0
                      try clear hfz25_1
                      try clear hfz25_2
                      try clear hfz25_3
                      try clear hfz25_4
                      try clear hfz25_5
                      try clear hfz9_0
                      try clear hfz9_1
                      try clear hfz9_2
                      try clear hfz9_3
                      try clear hfz9_4
                      try clear hfz9_5
                      try clear hx408_0
                      try clear hx409_0
                      try clear hx410_0
                      try clear hx411_0
                      try clear hx412_0
                      try clear hx413_0
                      try clear hx417_0
                      try clear hx418_0
                      try clear p2
                      try clear p4
                      try clear p40
                      try clear p408
                      try clear p409
                      try clear p41
                      try clear p410
                      try clear p411
                      try clear p412
                      try clear p413
                      try clear p417
                      try clear p418
                      try clear p6
                      try clear q3
                      try clear q35
                      try clear q4
                      try clear q40
                      try clear q408
                      try clear q409
                      try clear q41
                      try clear q410
                      try clear q411
                      try clear q412
                      try clear q413
                      try clear q417
                      try clear q418
                      obtain ⟨x10_5, x15_5, rfl, HA, HK5, HO_6, HO_10, BK399, HB⟩ := hrel
                      have hl10_5 := (Kd.R_reads' HO_10.out).1
                      rw [hl10_5] at HO_10
                      (try simp only [hl10_5])
                      (try simp only [hl10_5] at BK399)
                      (try simp only [hl10_5] at HO_6)
                      cases gk with
                      | zero => exact absurd HA.out (by simp [truantlaw10_DomFronts.l5])
                      | succ k5 =>
                       have H := HA.out
                       clear HA
                       simp only [truantlaw10_DomFronts.l5] at H
                       by_cases c57 : x13_4 = true
                       ·subst c57
                        have H1 : (if x15_5 < (t405.length : Int) then (if 0 ≤ x15_5 then (if x15_5 < (x10_5.length : Int) then (if rdOf false x10_5 x15_5 = true then (truantlaw10_DomFronts.l5 k5 l1 t405 (x10_5.set (x15_5 : Int).toNat true) x11_2 x12_3 true (wrap64 (x15_5 + 1)) a0_0 l0_1 a0_2 l0_3 l0_4 l0_5) else (if 0 ≤ x12_3 then (if x12_3 < (t405.length : Int) then (if x15_5 < ((rd_L7 t405 x12_3).length : Int) then (truantlaw10_DomFronts.l5 k5 l1 t405 (x10_5.set (x15_5 : Int).toNat (rdOf false (rd_L7 t405 x12_3) x15_5)) x11_2 x12_3 true (wrap64 (x15_5 + 1)) a0_0 l0_1 a0_2 l0_3 l0_4 l0_5) else (none)) else (none)) else (none))) else (none)) else (none)) else (truantlaw10_DomFronts.l3 k5 l1 t405 x10_5 x11_2 (wrap64 (x12_3 + 1)) a0_0 l0_1 a0_2 l0_3 l0_4 l0_5)) = some r := by rw [if_pos rfl] at H; exact H
                        clear H
                        have H := H1
                        clear H1
                        by_cases c58 : x15_5 < (t405.length : Int)
                        ·rw [if_pos c58] at H
                         have c58b0 : decide (x15_5 < (t405.length : Int)) = true := decide_eq_true c58
                         clear c58
                         by_cases c59 : 0 ≤ x15_5
                         ·rw [if_pos c59] at H
                          have c59b0 : decide (0 ≤ x15_5) = true := decide_eq_true c59
                          clear c59
                          by_cases c60 : x15_5 < (x10_5.length : Int)
                          ·rw [if_pos c60] at H
                           have c60b0 : decide (x15_5 < (x10_5.length : Int)) = true := decide_eq_true c60
                           clear c60
                           obtain ⟨bq61, hbq61⟩ : ∃ b_ : Bool, b_ = (rdOf false x10_5 x15_5) := ⟨_, rfl⟩
                           replace H : (if bq61 = true then (truantlaw10_DomFronts.l5 k5 l1 t405 (x10_5.set (x15_5 : Int).toNat true) x11_2 x12_3 true (wrap64 (x15_5 + 1)) a0_0 l0_1 a0_2 l0_3 l0_4 l0_5) else (if 0 ≤ x12_3 then (if x12_3 < (t405.length : Int) then (if x15_5 < ((rd_L7 t405 x12_3).length : Int) then (truantlaw10_DomFronts.l5 k5 l1 t405 (x10_5.set (x15_5 : Int).toNat (rdOf false (rd_L7 t405 x12_3) x15_5)) x11_2 x12_3 true (wrap64 (x15_5 + 1)) a0_0 l0_1 a0_2 l0_3 l0_4 l0_5) else (none)) else (none)) else (none))) = some r := by rw [← hbq61] at H; exact H
                           have Nbq61 := Aside0.mk hbq61
                           clear hbq61
                           by_cases c62 : bq61 = true
                           ·subst c62
                            have H1 : (truantlaw10_DomFronts.l5 k5 l1 t405 (x10_5.set (x15_5 : Int).toNat true) x11_2 x12_3 true (wrap64 (x15_5 + 1)) a0_0 l0_1 a0_2 l0_3 l0_4 l0_5) = some r := by rw [if_pos rfl] at H; exact H
                            clear H
                            have H := H1
                            clear H1
                            obtain ⟨y420, hy420⟩ : ∃ y_ : List Bool, y_ = (x10_5.set (x15_5 : Int).toNat true) := ⟨_, rfl⟩
                            replace H : (truantlaw10_DomFronts.l5 k5 l1 t405 y420 x11_2 x12_3 true (wrap64 (x15_5 + 1)) a0_0 l0_1 a0_2 l0_3 l0_4 l0_5) = some r := by first | (rw [hy420]; with_reducible exact H) | (have H2_ := (Option.bind_some _ _).symm.trans H; rw [hy420]; with_reducible exact H2_) | (have H2_ := (Option.bind_some _ _).symm.trans H; with_reducible exact H2_) | with_reducible exact H | (rw [hy420]; exact H) | exact H
                            have Ny420 := Aside0.mk hy420
                            clear hy420
                            have H' := Aside0.mk H
                            clear H
                            have p419 : 0 ≤ (x15_5 : Int) := of_decide_eq_true (by first | (with_reducible assumption) | assumption)
                            have q419 : x15_5 < (x10_5.length : Int) := of_decide_eq_true (by first | (with_reducible assumption) | assumption)
                            obtain ⟨ad419, e419, hx419_0⟩ := Kd.at_bool (Kd.R_reads' HO_10.out).2.2 x15_5 p419 q419
                            (try rw [← Nbq61.out] at hx419_0)
                            obtain rfl : ad417 = ad419 := (by injection e419)
                            replace p419 := eq_true p419
                            replace q419 := eq_true q419
                            have p63 : 0 ≤ (x15_5 : Int) := of_decide_eq_true (by first | (with_reducible assumption) | assumption)
                            have q63 : (x15_5 : Int) < ((x10_5.length : Int) : Int) := of_decide_eq_true (by first | (with_reducible assumption) | assumption)
                            obtain ⟨go63, co63, eo63, gb63, gl63, cl63, HG63⟩ := Kd.R_form HO_10.out (by omega)
                            (first | cases eo63 | (injection eo63 with ea_ en_ ec_; (first | subst ea_ | (injection ea_ with ea_; subst ea_)); subst ec_; clear en_))
                            have GB63 := Aside0.mk gb63
                            have GG63 := Aside0.mk HG63
                            clear gb63 gl63 HG63
                            (first | simp only [add_plain] at hx417_0 | skip)
                            (first | simp only [add_plain] at hx419_0 | skip)
                            obtain ⟨hx63_0, hf63_0⟩ := Kd.R_celln false HO_10.out (x15_5 : Int) p63 q63
                            replace p63 := eq_true p63
                            replace q63 := eq_true q63
                            have HP64 := Kd.R_putg HO_10.out (x15_5 : Int) true
                            go_wp2_with (first | ((with_reducible refine gate_store (t := 4) (p := 142) rfl ?_); refine store_event (t := 4) (p := 142) (v := ?vo_w65) (w1 := (wr.setCell ⟨go63, (x15_5 : Int).toNat, none⟩ (.bool true))) ?hg ?ho ?hn ?hr ?_; (case ho => rfl); (case hg => rfl); (case hn => rfl); (case hr => first | (go_simp; done) | (go_simp; rfl)); intro w65 hw; have hg : wr.grownBy w65 (some go63) := (by rw [hw]; exact HP64.2); have hp_ : Kd.R Kd.bool 4 w65 w.heap.size (fun _ => True) (.slice (some ⟨go63, 0, none⟩) x10_5.length co53) y420 := (by rw [hw, Ny420.out]; exact HP64.1); clear HP64; have n0_ := Aside0.mk (Kd.S_after (v := (.slice (some ⟨go63, 0, none⟩) x10_5.length co53)) (v1 := (.slice (some ⟨go63, 0, none⟩) x10_5.length co53)) (ok := (fun _ => True)) (by (with_reducible repeat (first | apply Kd.S_alloc | apply Kd.S_drewN | apply Kd.S_drew)); exact Kd.S_mono HO_6.out (fun _ hk => ⟨trivial, hk⟩)) hg (.inl rfl)); have n1_ := Aside0.mk (hp_); have n2_ := Aside0.mk (blk_grown (g := gb399) (o := .cells #[.string a0_0, .slice A0_1 l0_1.length c0_1, .string a0_2, .slice A0_3 l0_3.length c0_3, .slice A0_4 l0_4.length c0_4, .slice A0_5 l0_5.length c0_5] 26 (0, 0)) (by (with_reducible repeat (first | refine blk_drewN ?_ _ | refine blk_drew ?_ | refine blk_alloc ?_ _)); exact BK399.out) hg (Kd.R_ne HO_10.out BK399.out (by decide))); have n3_ := Aside0.mk ((by rw [hw]; exact below_set (HB.out) GB63.out : Below w.heap.size w w65)); clear HO_6; clear HO_10; clear BK399; clear HB; have HO_6 := n0_; have HO_10 := n1_; have BK399 := n2_; have HB := n3_; clear n0_ n1_ n2_ n3_; clear hg hw hp_))
                            (try simp only [← hl10_5])
                            go_roundg k5
                            case measure => have := HK1.out; have := HK2.out; have := HK3.out; have := HK4.out; have := HK5.out; omega
                            case rel => exact ⟨(y420), (wrap64 (x15_5 + 1)), (by first | rfl | (simp; done) | (simp [*]; done)), H', ⟨by have := HK1.out; have := HK2.out; have := HK3.out; have := HK4.out; have := HK5.out; omega⟩, ⟨by (try simp only [hl10_5]); (with_reducible repeat (first | apply Kd.S_alloc | apply Kd.S_drewN | apply Kd.S_drew)); exact Kd.S_mono HO_6.out (fun _ hk => hk.2)⟩, ⟨by (try simp only [hl10_5]); (with_reducible repeat (first | apply Kd.R_alloc | apply Kd.R_drewN | apply Kd.R_drew)); exact HO_10.out⟩, ⟨by (try simp only [hl10_5]); (with_reducible repeat (first | refine blk_drewN ?_ _ | refine blk_drew ?_ | refine blk_alloc ?_ _)); exact BK399.out⟩, ⟨by repeat (first | (with_reducible first | exact HB.out | apply below_alloc | apply pw_below_drewN | apply below_drew1 | refine below_set ?_ GE399.out) | exact HB.out)⟩⟩
                           ·replace c62 := Bool.eq_false_iff.mpr c62
                            subst c62
                            have H1 : (if 0 ≤ x12_3 then (if x12_3 < (t405.length : Int) then (if x15_5 < ((rd_L7 t405 x12_3).length : Int) then (truantlaw10_DomFronts.l5 k5 l1 t405 (x10_5.set (x15_5 : Int).toNat (rdOf false (rd_L7 t405 x12_3) x15_5)) x11_2 x12_3 true (wrap64 (x15_5 + 1)) a0_0 l0_1 a0_2 l0_3 l0_4 l0_5) else (none)) else (none)) else (none)) = some r := by rw [if_neg (show ¬ (false = true) by decide)] at H; exact H
                            clear H
                            have H := H1
                            clear H1
                            by_cases c66 : 0 ≤ x12_3
                            ·rw [if_pos c66] at H
                             have c66b0 : decide (0 ≤ x12_3) = true := decide_eq_true c66
                             clear c66
                             by_cases c67 : x12_3 < (t405.length : Int)
                             ·rw [if_pos c67] at H
                              have c67b0 : decide (x12_3 < (t405.length : Int)) = true := decide_eq_true c67
                              clear c67
                              by_cases c68 : x15_5 < ((rd_L7 t405 x12_3).length : Int)
                              ·rw [if_pos c68] at H
                               have c68b0 : decide (x15_5 < ((rd_L7 t405 x12_3).length : Int)) = true := decide_eq_true c68
                               clear c68
                               obtain ⟨y423, hy423⟩ : ∃ y_ : List Bool, y_ = (x10_5.set (x15_5 : Int).toNat (rdOf false (rd_L7 t405 x12_3) x15_5)) := ⟨_, rfl⟩
                               replace H : (truantlaw10_DomFronts.l5 k5 l1 t405 y423 x11_2 x12_3 true (wrap64 (x15_5 + 1)) a0_0 l0_1 a0_2 l0_3 l0_4 l0_5) = some r := by first | (rw [hy423]; with_reducible exact H) | (have H2_ := (Option.bind_some _ _).symm.trans H; rw [hy423]; with_reducible exact H2_) | (have H2_ := (Option.bind_some _ _).symm.trans H; with_reducible exact H2_) | with_reducible exact H | (rw [hy423]; exact H) | exact H
                               have Ny423 := Aside0.mk hy423
                               clear hy423
                               have H' := Aside0.mk H
                               clear H
                               have p419 : 0 ≤ (x15_5 : Int) := of_decide_eq_true (by first | (with_reducible assumption) | assumption)
                               have q419 : x15_5 < (x10_5.length : Int) := of_decide_eq_true (by first | (with_reducible assumption) | assumption)
                               obtain ⟨ad419, e419, hx419_0⟩ := Kd.at_bool (Kd.R_reads' HO_10.out).2.2 x15_5 p419 q419
                               (try rw [← Nbq61.out] at hx419_0)
                               obtain rfl : ad417 = ad419 := (by injection e419)
                               replace p419 := eq_true p419
                               replace q419 := eq_true q419
                               have p421 : 0 ≤ (x12_3 : Int) := of_decide_eq_true (by first | (with_reducible assumption) | assumption)
                               have q421 : x12_3 < (t405.length : Int) := of_decide_eq_true (by first | (with_reducible assumption) | assumption)
                               obtain ⟨ad421, A421_0, c421_0, e421, hx421_0, hl421_0, hi421_0⟩ := at_L7 (Kd.S_reads' HO_6.out).2.2 x12_3 p421 q421
                               cases e421
                               obtain ⟨ce421, hce421, hMe421, hcc421⟩ := Kd.S_get HO_6.out [] x12_3 p421 (by first | exact q421 | exact of_decide_eq_true (by first | (with_reducible assumption) | assumption) | (have e_ := (Kd.S_reads' HO_6.out).1; omega))
                               obtain ⟨ve421_0, rfl, ge421_0⟩ := hMe421
                               have hv421_0 := hcc421 0 _ rfl
                               rw [Nat.add_zero, show ((Kd.slice 4 Kd.bool)).sz = 1 from rfl, Nat.mul_one] at hv421_0
                               replace hv421_0 := Option.some.inj (hv421_0.symm.trans hx421_0)
                               rw [hv421_0] at ge421_0
                               have HL421_0 := Aside0.mk (show Kd.R Kd.bool 4 _ _ _ _ (rd_L7 t405 x12_3) from ge421_0)
                               clear hv421_0 ge421_0
                               clear hcc421 hce421
                               have HR421_0 := Aside0.mk hi421_0
                               have HC421_0 := Aside0.mk hl421_0
                               clear hi421_0 hl421_0
                               replace p421 := eq_true p421
                               replace q421 := eq_true q421
                               have p422 : 0 ≤ (x15_5 : Int) := of_decide_eq_true (by first | (with_reducible assumption) | assumption)
                               have q422 : x15_5 < ((rd_L7 t405 x12_3).length : Int) := of_decide_eq_true (by first | (with_reducible assumption) | assumption)
                               obtain ⟨ad422, e422, hx422_0⟩ := Kd.at_bool (by repeat (first | (with_reducible exact HR421_0.out) | (with_reducible refine Kd.C_alloc ?_ _) | (with_reducible refine Kd.C_drewN ?_ _) | (with_reducible refine Kd.C_drew ?_) | exact HR421_0.out)) x15_5 p422 q422
                               (try rw [← Nbq61.out] at hx422_0)
                               cases e422
                               replace p422 := eq_true p422
                               replace q422 := eq_true q422
                               have p69 : 0 ≤ (x15_5 : Int) := of_decide_eq_true (by first | (with_reducible assumption) | assumption)
                               have q69 : (x15_5 : Int) < ((x10_5.length : Int) : Int) := of_decide_eq_true (by first | (with_reducible assumption) | assumption)
                               obtain ⟨go69, co69, eo69, gb69, gl69, cl69, HG69⟩ := Kd.R_form HO_10.out (by omega)
                               (first | cases eo69 | (injection eo69 with ea_ en_ ec_; (first | subst ea_ | (injection ea_ with ea_; subst ea_)); subst ec_; clear en_))
                               have GB69 := Aside0.mk gb69
                               have GG69 := Aside0.mk HG69
                               clear gb69 gl69 HG69
                               (first | simp only [add_plain] at hx419_0 | skip)
                               obtain ⟨hx69_0, hf69_0⟩ := Kd.R_celln false HO_10.out (x15_5 : Int) p69 q69
                               replace p69 := eq_true p69
                               replace q69 := eq_true q69
                               have HP70 := Kd.R_putg HO_10.out (x15_5 : Int) (rdOf false (rd_L7 t405 x12_3) x15_5)
                               go_wp2_with (first | ((with_reducible refine gate_store (t := 4) (p := 142) rfl ?_); refine store_event (t := 4) (p := 142) (v := ?vo_w71) (w1 := (wr.setCell ⟨go69, (x15_5 : Int).toNat, none⟩ (.bool (rdOf false (rd_L7 t405 x12_3) x15_5)))) ?hg ?ho ?hn ?hr ?_; (case ho => rfl); (case hg => rfl); (case hn => rfl); (case hr => first | (go_simp; done) | (go_simp; rfl)); intro w71 hw; have hg : wr.grownBy w71 (some go69) := (by rw [hw]; exact HP70.2); have hp_ : Kd.R Kd.bool 4 w71 w.heap.size (fun _ => True) (.slice (some ⟨go69, 0, none⟩) x10_5.length co53) y423 := (by rw [hw, Ny423.out]; exact HP70.1); clear HP70; have n0_ := Aside0.mk (Kd.S_after (v := (.slice (some ⟨go69, 0, none⟩) x10_5.length co53)) (v1 := (.slice (some ⟨go69, 0, none⟩) x10_5.length co53)) (ok := (fun _ => True)) (by (with_reducible repeat (first | apply Kd.S_alloc | apply Kd.S_drewN | apply Kd.S_drew)); exact Kd.S_mono HO_6.out (fun _ hk => ⟨trivial, hk⟩)) hg (.inl rfl)); have n1_ := Aside0.mk (hp_); have n2_ := Aside0.mk (blk_grown (g := gb399) (o := .cells #[.string a0_0, .slice A0_1 l0_1.length c0_1, .string a0_2, .slice A0_3 l0_3.length c0_3, .slice A0_4 l0_4.length c0_4, .slice A0_5 l0_5.length c0_5] 26 (0, 0)) (by (with_reducible repeat (first | refine blk_drewN ?_ _ | refine blk_drew ?_ | refine blk_alloc ?_ _)); exact BK399.out) hg (Kd.R_ne HO_10.out BK399.out (by decide))); have n3_ := Aside0.mk (Kd.R_after (v := (.slice (some ⟨go69, 0, none⟩) x10_5.length co53)) (v1 := (.slice (some ⟨go69, 0, none⟩) x10_5.length co53)) (ok := (fun k_ => some k_ ≠ (.slice (some ad421) t405.length co28 : Value).ownBlock)) (by (with_reducible repeat (first | apply Kd.R_alloc | apply Kd.R_drewN | apply Kd.R_drew)); exact Kd.R_mono HL421_0.out (fun _ hk => ⟨hk.2, hk.1⟩)) hg (.inl rfl)); have n4_ := Aside0.mk ((by rw [hw]; exact below_set (HB.out) GB69.out : Below w.heap.size w w71)); clear HO_6; clear HO_10; clear BK399; clear HL421_0; clear HB; have HO_6 := n0_; have HO_10 := n1_; have BK399 := n2_; have HL421_0 := n3_; have HB := n4_; clear n0_ n1_ n2_ n3_ n4_; clear hg hw hp_))
                               (try simp only [← hl10_5])
                               go_roundg k5
                               case measure => have := HK1.out; have := HK2.out; have := HK3.out; have := HK4.out; have := HK5.out; omega
                               case rel => exact ⟨(y423), (wrap64 (x15_5 + 1)), (by first | rfl | (simp; done) | (simp [*]; done)), H', ⟨by have := HK1.out; have := HK2.out; have := HK3.out; have := HK4.out; have := HK5.out; omega⟩, ⟨by (try simp only [hl10_5]); (with_reducible repeat (first | apply Kd.S_alloc | apply Kd.S_drewN | apply Kd.S_drew)); exact Kd.S_mono HO_6.out (fun _ hk => hk.2)⟩, ⟨by (try simp only [hl10_5]); (with_reducible repeat (first | apply Kd.R_alloc | apply Kd.R_drewN | apply Kd.R_drew)); exact HO_10.out⟩, ⟨by (try simp only [hl10_5]); (with_reducible repeat (first | refine blk_drewN ?_ _ | refine blk_drew ?_ | refine blk_alloc ?_ _)); exact BK399.out⟩, ⟨by repeat (first | (with_reducible first | exact HB.out | apply below_alloc | apply pw_below_drewN | apply below_drew1 | refine below_set ?_ GE399.out) | exact HB.out)⟩⟩
                              ·rw [if_neg c68] at H
                               exact absurd H (by simp)
                             ·rw [if_neg c67] at H
                              exact absurd H (by simp)
                            ·rw [if_neg c66] at H
                             exact absurd H (by simp)
                          ·rw [if_neg c60] at H
                           exact absurd H (by simp)
                         ·rw [if_neg c59] at H
                          exact absurd H (by simp)
                        ·rw [if_neg c58] at H
                         have c58b0 : decide (x15_5 < (t405.length : Int)) = false := decide_eq_false c58
                         clear c58
                         have H' := Aside0.mk H
                         clear H
                         go_wp2
                         (try simp only [← hl10_5])
                         go_roundg k5
                         case measure => have := HK1.out; have := HK2.out; have := HK3.out; have := HK4.out; have := HK5.out; omega
                         case rel => exact ⟨(x10_5), (wrap64 (x12_3 + 1)), (by first | rfl | (simp; done) | (simp [*]; done)), H', ⟨by have := HK1.out; have := HK2.out; have := HK3.out; have := HK4.out; have := HK5.out; omega⟩, ⟨by (try simp only [hl10_5]); (with_reducible repeat (first | apply Kd.S_alloc | apply Kd.S_drewN | apply Kd.S_drew)); exact HO_6.out⟩, ⟨by (try simp only [hl10_5]); (with_reducible repeat (first | apply Kd.R_alloc | apply Kd.R_drewN | apply Kd.R_drew)); exact HO_10.out⟩, ⟨by (try simp only [hl10_5]); (with_reducible repeat (first | refine blk_drewN ?_ _ | refine blk_drew ?_ | refine blk_alloc ?_ _)); exact BK399.out⟩, ⟨by repeat (first | (with_reducible first | exact HB.out | apply below_alloc | apply pw_below_drewN | apply below_drew1 | refine below_set ?_ GE399.out) | exact HB.out)⟩⟩
                       ·replace c57 := Bool.eq_false_iff.mpr c57
                        subst c57
                        have H1 : (truantlaw10_DomFronts.l3 k5 l1 t405 x10_5 x11_2 (wrap64 (x12_3 + 1)) a0_0 l0_1 a0_2 l0_3 l0_4 l0_5) = some r := by rw [if_neg (show ¬ (false = true) by decide)] at H; exact H
                        clear H
                        have H := H1
                        clear H1
                        have H' := Aside0.mk H
                        clear H
                        go_wp2
                        (try simp only [← hl10_5])
                        go_roundg k5
                        case measure => have := HK1.out; have := HK2.out; have := HK3.out; have := HK4.out; have := HK5.out; omega
                        case rel => exact ⟨(x10_5), (wrap64 (x12_3 + 1)), (by first | rfl | (simp; done) | (simp [*]; done)), H', ⟨by have := HK1.out; have := HK2.out; have := HK3.out; have := HK4.out; have := HK5.out; omega⟩, ⟨by (try simp only [hl10_5]); (with_reducible repeat (first | apply Kd.S_alloc | apply Kd.S_drewN | apply Kd.S_drew)); exact HO_6.out⟩, ⟨by (try simp only [hl10_5]); (with_reducible repeat (first | apply Kd.R_alloc | apply Kd.R_drewN | apply Kd.R_drew)); exact HO_10.out⟩, ⟨by (try simp only [hl10_5]); (with_reducible repeat (first | refine blk_drewN ?_ _ | refine blk_drew ?_ | refine blk_alloc ?_ _)); exact BK399.out⟩, ⟨by repeat (first | (with_reducible first | exact HB.out | apply below_alloc | apply pw_below_drewN | apply below_drew1 | refine below_set ?_ GE399.out) | exact HB.out)⟩⟩
                 ·rw [if_neg c52] at H
                  exact absurd H (by simp)
                ·rw [if_neg c51] at H
                 exact absurd H (by simp)
               ·rw [if_neg c50] at H
                have c50b0 : decide (x12_3 < (t405.length : Int)) = false := decide_eq_false c50
                clear c50
                have H' := Aside0.mk H
                clear H
                go_wp2
                go_roundg k3
                case measure => have := HK1.out; have := HK2.out; have := HK3.out; omega
                case rel => exact ⟨(x10_3), (wrap64 (x11_2 + 1)), (by first | rfl | (simp; done) | (simp [*]; done)), H', ⟨by have := HK1.out; have := HK2.out; have := HK3.out; omega⟩, ⟨by (with_reducible repeat (first | apply Kd.S_alloc | apply Kd.S_drewN | apply Kd.S_drew)); exact HO_6.out⟩, ⟨by (with_reducible repeat (first | apply Kd.R_alloc | apply Kd.R_drewN | apply Kd.R_drew)); exact HO_10.out⟩, ⟨by (with_reducible repeat (first | refine blk_drewN ?_ _ | refine blk_drew ?_ | refine blk_alloc ?_ _)); exact BK399.out⟩, ⟨by repeat (first | (with_reducible first | exact HB.out | apply below_alloc | apply pw_below_drewN | apply below_drew1 | refine below_set ?_ GE399.out) | exact HB.out)⟩⟩
            ·rw [if_neg c49] at H
             have c49b0 : decide (x11_2 ≤ (t405.length : Int)) = false := decide_eq_false c49
             clear c49
             replace H := Option.bind_eq_some_iff.mp H
             obtain ⟨t424, A720, H⟩ := H
             replace H : (truantlaw10_DomFronts.l6 k2 x10_2 t424 0 0) = some r := H
             have A72 := Aside0.mk A720
             clear A720
             have H' := Aside0.mk H
             clear H
             have hcz73_0 : wr.cell? ⟨gb399, 0, none⟩ = some (.string a0_0) := (blk_cell BK399.out 0).trans rfl
             have hcz73_1 : wr.cell? ⟨gb399, 1, none⟩ = some (.slice A0_1 l0_1.length c0_1) := (blk_cell BK399.out 1).trans rfl
             have hcz73_2 : wr.cell? ⟨gb399, 2, none⟩ = some (.string a0_2) := (blk_cell BK399.out 2).trans rfl
             have hcz73_3 : wr.cell? ⟨gb399, 3, none⟩ = some (.slice A0_3 l0_3.length c0_3) := (blk_cell BK399.out 3).trans rfl
             have hcz73_4 : wr.cell? ⟨gb399, 4, none⟩ = some (.slice A0_4 l0_4.length c0_4) := (blk_cell BK399.out 4).trans rfl
             have hcz73_5 : wr.cell? ⟨gb399, 5, none⟩ = some (.slice A0_5 l0_5.length c0_5) := (blk_cell BK399.out 5).trans rfl
             have hfz73_0 := blk_frozen BK399.out 0
             have hfz73_1 := blk_frozen BK399.out 1
             have hfz73_2 := blk_frozen BK399.out 2
             have hfz73_3 := blk_frozen BK399.out 3
             have hfz73_4 := blk_frozen BK399.out 4
             have hfz73_5 := blk_frozen BK399.out 5
             go_wp2_with (first | ((with_reducible refine gate_callee (f := 47) rfl ?_); refine goesL_ (some 145) rfl rfl Try.func47 (by kernel_rfl) rfl #[.agg #[.string a0_0, .slice A0_1 l0_1.length c0_1, .string a0_2, .slice A0_3 l0_3.length c0_3, .slice A0_4 l0_4.length c0_4, .slice A0_5 l0_5.length c0_5], .slice A1 l1.length c1] rfl (by (try simp only [List.map_toArray, List.map_cons, List.map_nil]); first | done | rfl | (simp only [List.length_drop, List.length_take]; rfl)) ?_; (with_reducible refine (dom_Fronts.calls a0_0 _ _ l0_1 a0_2 _ _ l0_3 _ _ l0_4 _ _ l0_5 _ _ l1 t424 _ ?side1 ?side2 ?side3 ?side4 ?side5 ?side6 ?side7 ?side8 ?side9 ?side10 A72.out).mono ?_); (case side1 => repeat (first | exact (Kd.C_below HR0_1.out HB.out) | (with_reducible refine Kd.C_alloc ?_ _) | (with_reducible refine Kd.C_drewN ?_ _) | (with_reducible refine Kd.C_drew ?_))); (case side2 => exact HC0_1.out); (case side3 => repeat (first | exact (Kd.C_below HR0_3.out HB.out) | (with_reducible refine Kd.C_alloc ?_ _) | (with_reducible refine Kd.C_drewN ?_ _) | (with_reducible refine Kd.C_drew ?_))); (case side4 => exact HC0_3.out); (case side5 => repeat (first | exact (Kd.C_below HR0_4.out HB.out) | (with_reducible refine Kd.C_alloc ?_ _) | (with_reducible refine Kd.C_drewN ?_ _) | (with_reducible refine Kd.C_drew ?_))); (case side6 => exact HC0_4.out); (case side7 => repeat (first | exact (Kd.C_below HR0_5.out HB.out) | (with_reducible refine Kd.C_alloc ?_ _) | (with_reducible refine Kd.C_drewN ?_ _) | (with_reducible refine Kd.C_drew ?_))); (case side8 => exact HC0_5.out); (case side9 => repeat (first | exact (Kd.C_below HR1.out HB.out) | (with_reducible refine Kd.C_alloc ?_ _) | (with_reducible refine Kd.C_drewN ?_ _) | (with_reducible refine Kd.C_drew ?_))); (case side10 => exact HC1.out); rintro e w74 ⟨v425, rfl, ho0, hb⟩; refine ⟨_, rfl, ?_⟩; have n0_ := Aside0.mk (Kd.S_below (by (with_reducible repeat (first | apply Kd.S_alloc | apply Kd.S_drewN | apply Kd.S_drew)); exact HO_6.out) hb); have n1_ := Aside0.mk (Kd.R_below (by (with_reducible repeat (first | apply Kd.R_alloc | apply Kd.R_drewN | apply Kd.R_drew)); exact HO_10.out) hb); have n2_ := Aside0.mk (Kd.R_lower ho0 (below_size (by repeat (first | (with_reducible first | exact HB.out | apply below_alloc | apply pw_below_drewN | apply below_drew1 | refine below_set ?_ GE399.out) | exact HB.out)))); have n3_ := Aside0.mk (blk_below (g := gb399) (o := .cells #[.string a0_0, .slice A0_1 l0_1.length c0_1, .string a0_2, .slice A0_3 l0_3.length c0_3, .slice A0_4 l0_4.length c0_4, .slice A0_5 l0_5.length c0_5] 26 (0, 0)) (by (with_reducible repeat (first | refine blk_drewN ?_ _ | refine blk_drew ?_ | refine blk_alloc ?_ _)); exact BK399.out) hb); have n4_ := Aside0.mk (below_step (by repeat (first | (with_reducible first | exact HB.out | apply below_alloc | apply pw_below_drewN | apply below_drew1 | refine below_set ?_ GE399.out) | exact HB.out)) hb); clear HO_6; clear HO_10; clear BK399; clear HB; have HO_6 := n0_; have HO_10 := n1_; have HO426 := n2_; have BK399 := n3_; have HB := n4_; clear n0_ n1_ n2_ n3_ n4_; (try clear hb); (try clear hb2); (try clear hk); (try clear hi); (try clear ho0)))
             go_loopg [17, 18] k2 (fun kq v17 v18 w' => ∃ (x17_3 : Int) (x18_3 : Int), v17 = .int .i64 x17_3 ∧ v18 = .int .i64 x18_3 ∧ Aside0 (truantlaw10_DomFronts.l6 kq x10_2 t424 x17_3 x18_3 = some r) ∧ Aside0 (kq ≤ k2) ∧ Aside0 (Kd.R Kd.bool 4 w' w.heap.size (fun _ => True) v415 x10_2) ∧ Aside0 (Kd.R (Kd.int .i64) 3 w' w.heap.size (fun _ => True) v425 t424) ∧ Aside0 (w'.heap[gb399]? = some (.cells #[.string a0_0, (.slice A0_1 l0_1.length c0_1), .string a0_2, (.slice A0_3 l0_3.length c0_3), (.slice A0_4 l0_4.length c0_4), (.slice A0_5 l0_5.length c0_5)] 26 (0, 0))) ∧ Aside0 (Below w.heap.size w w'))
             case atStart => exact ⟨(0), (0), (by first | rfl | (simp; done) | (simp [*]; done)), (by first | rfl | (simp; done) | (simp [*]; done)), H', ⟨Nat.le_refl _⟩, ⟨by (with_reducible repeat (first | apply Kd.R_alloc | apply Kd.R_drewN | apply Kd.R_drew)); exact HO_10.out⟩, ⟨by (with_reducible repeat (first | apply Kd.R_alloc | apply Kd.R_drewN | apply Kd.R_drew)); exact HO426.out⟩, ⟨by (with_reducible repeat (first | refine blk_drewN ?_ _ | refine blk_drew ?_ | refine blk_alloc ?_ _)); exact BK399.out⟩, ⟨by repeat (first | (with_reducible first | exact HB.out | apply below_alloc | apply pw_below_drewN | apply below_drew1 | refine below_set ?_ GE399.out) | exact HB.out)⟩⟩
             case round =>
              clear H'
              try clear c1
              try clear c2
              try clear p2
              try clear c3
              try clear q3
              try clear c4
              try clear p4
              try clear q4
              try clear hx4
              try clear c5
              try clear c6
              try clear p6
              try clear q6
              try clear hx6
              try clear hf6
              try clear c11
              try clear c11b0
              try clear c11b1
              try clear c18
              try clear c18b0
              try clear c18b1
              try clear c18b2
              try clear c29
              try clear c29b0
              try clear c30
              try clear c30b0
              try clear c31
              try clear c31b0
              try clear c32
              try clear c32b0
              try clear c33
              try clear c33b0
              try clear c34
              try clear c34b0
              try clear q35
              try clear c36
              try clear c37
              try clear c37b0
              try clear c38
              try clear c38b0
              try clear c39
              try clear c39b0
              try clear c40
              try clear c40b0
              try clear p40
              try clear q40
              try clear hx40
              try clear c41
              try clear c41b0
              try clear c41b1
              try clear p41
              try clear q41
              try clear hx41
              try clear c42
              try clear c42b0
              try clear p42
              try clear q42
              try clear hx42
              try clear c43
              try clear c43b0
              try clear c44
              try clear c44b0
              try clear c44b1
              try clear c45
              try clear c45b0
              try clear c45b1
              try clear c46
              try clear c46b0
              try clear c46b1
              try clear c47
              try clear c49
              try clear c49b0
              try clear c50
              try clear c50b0
              try clear c51
              try clear c51b0
              try clear c52
              try clear c52b0
              try clear c54
              try clear c54b0
              try clear c55
              try clear c56
              try clear c56b0
              try clear c57
              try clear c58
              try clear c58b0
              try clear c59
              try clear c59b0
              try clear c60
              try clear c60b0
              try clear q61
              try clear c62
              try clear p63
              try clear q63
              try clear hx63
              try clear hf63
              try clear p64
              try clear c66
              try clear c66b0
              try clear c67
              try clear c67b0
              try clear c68
              try clear c68b0
              try clear p69
              try clear q69
              try clear hx69
              try clear hf69
              try clear hcz14_0
              try clear hcz14_1
              try clear hcz14_2
              try clear hcz14_3
              try clear hcz14_4
              try clear hcz14_5
              try clear hcz21_0
              try clear hcz21_1
              try clear hcz21_2
              try clear hcz21_3
              try clear hcz21_4
              try clear hcz21_5
              try clear hcz23_0
              try clear hcz23_1
              try clear hcz23_2
              try clear hcz23_3
              try clear hcz23_4
              try clear hcz23_5
              try clear hcz25_0
              try clear hcz25_1
              try clear hcz25_2
              try clear hcz25_3
              try clear hcz25_4
              try clear hcz25_5
              try clear hcz73_0
              try clear hcz73_1
              try clear hcz73_2
              try clear hcz73_3
              try clear hcz73_4
              try clear hcz73_5
              try clear hcz9_0
              try clear hcz9_1
              try clear hcz9_2
              try clear hcz9_3
              try clear hcz9_4
              try clear hcz9_5
              try clear hfz14_0
              try clear hfz14_1
              try clear hfz14_2
              try clear hfz14_3
              try clear hfz14_4
              try clear hfz14_5
              try clear hfz21_0
              try clear hfz21_1
              try clear hfz21_2
              try clear hfz21_3
              try clear hfz21_4
              try clear hfz21_5
              try clear hfz23_0
              try clear hfz23_1
              try clear hfz23_2
              try clear hfz23_3
              try clear hfz23_4
              try clear hfz23_5
              try clear hfz25_0
              try clear hfz25_1
              try clear hfz25_2
              try clear hfz25_3
              try clear hfz25_4
              try clear hfz25_5
              try clear hfz73_0
              try clear hfz73_1
              try clear hfz73_2
              try clear hfz73_3
              try clear hfz73_4
              try clear hfz73_5
              try clear hfz9_0
              try clear hfz9_1
              try clear hfz9_2
              try clear hfz9_3
              try clear hfz9_4
              try clear hfz9_5
              try clear hx408_0
              try clear hx409_0
              try clear hx410_0
              try clear hx411_0
              try clear hx412_0
              try clear hx413_0
              try clear hx417_0
              try clear hx418_0
              try clear hx419_0
              try clear hx421_0
              try clear hx422_0
              try clear hx63_0
              try clear hx69_0
              try clear p2
              try clear p4
              try clear p40
              try clear p408
              try clear p409
              try clear p41
              try clear p410
              try clear p411
              try clear p412
              try clear p413
              try clear p417
              try clear p418
              try clear p419
              try clear p421
              try clear p422
              try clear p6
              try clear p63
              try clear p69
              try clear q3
              try clear q35
              try clear q4
              try clear q40
              try clear q408
              try clear q409
              try clear q41
              try clear q410
              try clear q411
              try clear q412
              try clear q413
              try clear q417
              try clear q418
              try clear q419
              try clear q421
              try clear q422
              try clear q63
              try clear q69
              obtain ⟨x17_3, x18_3, rfl, rfl, HA, HK3, HO_10, HO_16, BK399, HB⟩ := hrel
              cases gk with
              | zero => exact absurd HA.out (by simp [truantlaw10_DomFronts.l6])
              | succ k3 =>
               have H := HA.out
               clear HA
               simp only [truantlaw10_DomFronts.l6] at H
               by_cases c75 : x18_3 < (x10_2.length : Int)
               ·rw [if_pos c75] at H
                have c75b0 : decide (x18_3 < (x10_2.length : Int)) = true := decide_eq_true c75
                clear c75
                by_cases c76 : 0 ≤ x18_3
                ·rw [if_pos c76] at H
                 have c76b0 : decide (0 ≤ x18_3) = true := decide_eq_true c76
                 clear c76
                 obtain ⟨bq77, hbq77⟩ : ∃ b_ : Bool, b_ = (rdOf false x10_2 x18_3) := ⟨_, rfl⟩
                 replace H : (if bq77 = true then (if x17_3 ≥ (t424.length : Int) then (none) else (if 0 ≤ x17_3 then (if x17_3 < (t424.length : Int) then (if (rd t424 x17_3) = x18_3 then (truantlaw10_DomFronts.l6 k3 x10_2 t424 (wrap64 (x17_3 + 1)) (wrap64 (x18_3 + 1))) else (none)) else (none)) else (none))) else (truantlaw10_DomFronts.l6 k3 x10_2 t424 x17_3 (wrap64 (x18_3 + 1)))) = some r := by rw [← hbq77] at H; exact H
                 have Nbq77 := Aside0.mk hbq77
                 clear hbq77
                 by_cases c78 : bq77 = true
                 ·subst c78
                  have H1 : (if x17_3 ≥ (t424.length : Int) then (none) else (if 0 ≤ x17_3 then (if x17_3 < (t424.length : Int) then (if (rd t424 x17_3) = x18_3 then (truantlaw10_DomFronts.l6 k3 x10_2 t424 (wrap64 (x17_3 + 1)) (wrap64 (x18_3 + 1))) else (none)) else (none)) else (none))) = some r := by rw [if_pos rfl] at H; exact H
                  clear H
                  have H := H1
                  clear H1
                  by_cases c79 : x17_3 ≥ (t424.length : Int)
                  ·rw [if_pos c79] at H
                   exact absurd H (by simp)
                  ·rw [if_neg c79] at H
                   have c79b0 : decide ((t424.length : Int) ≤ x17_3) = false := decide_eq_false c79
                   clear c79
                   by_cases c80 : 0 ≤ x17_3
                   ·rw [if_pos c80] at H
                    have c80b0 : decide (0 ≤ x17_3) = true := decide_eq_true c80
                    clear c80
                    by_cases c81 : x17_3 < (t424.length : Int)
                    ·rw [if_pos c81] at H
                     have c81b0 : decide (x17_3 < (t424.length : Int)) = true := decide_eq_true c81
                     clear c81
                     by_cases c82 : (rd t424 x17_3) = x18_3
                     ·rw [if_pos c82] at H
                      have c82b0 : ((rd t424 x17_3) == x18_3) = true := beq_iff_eq.mpr c82
                      have c82b1 : ((rd t424 x17_3) != x18_3) = false := bne_eq_false_iff_eq.mpr c82
                      clear c82
                      have H' := Aside0.mk H
                      clear H
                      obtain ⟨Ao83, co83, eo83⟩ := Kd.R_slice HO_10.out
                      subst eo83
                      have p427 : 0 ≤ (x18_3 : Int) := of_decide_eq_true (by first | (with_reducible assumption) | assumption)
                      have q427 : x18_3 < (x10_2.length : Int) := of_decide_eq_true (by first | (with_reducible assumption) | assumption)
                      obtain ⟨ad427, e427, hx427_0⟩ := Kd.at_bool (Kd.R_reads' HO_10.out).2.2 x18_3 p427 q427
                      (try rw [← Nbq77.out] at hx427_0)
                      cases e427
                      replace p427 := eq_true p427
                      replace q427 := eq_true q427
                      obtain ⟨Ao84, co84, eo84⟩ := Kd.R_slice HO_16.out
                      subst eo84
                      have p428 : 0 ≤ (x17_3 : Int) := of_decide_eq_true (by first | (with_reducible assumption) | assumption)
                      have q428 : x17_3 < (t424.length : Int) := of_decide_eq_true (by first | (with_reducible assumption) | assumption)
                      obtain ⟨ad428, e428, hx428_0⟩ := Kd.at_int (Kd.R_reads' HO_16.out).2.2 x17_3 p428 q428
                      cases e428
                      replace p428 := eq_true p428
                      replace q428 := eq_true q428
                      go_wp2
                      go_roundg k3
                      case measure => have := HK1.out; have := HK2.out; have := HK3.out; omega
                      case rel => exact ⟨(wrap64 (x17_3 + 1)), (wrap64 (x18_3 + 1)), (by first | rfl | (simp; done) | (simp [*]; done)), (by first | rfl | (simp; done) | (simp [*]; done)), H', ⟨by have := HK1.out; have := HK2.out; have := HK3.out; omega⟩, ⟨by (with_reducible repeat (first | apply Kd.R_alloc | apply Kd.R_drewN | apply Kd.R_drew)); exact HO_10.out⟩, ⟨by (with_reducible repeat (first | apply Kd.R_alloc | apply Kd.R_drewN | apply Kd.R_drew)); exact HO_16.out⟩, ⟨by (with_reducible repeat (first | refine blk_drewN ?_ _ | refine blk_drew ?_ | refine blk_alloc ?_ _)); exact BK399.out⟩, ⟨by repeat (first | (with_reducible first | exact HB.out | apply below_alloc | apply pw_below_drewN | apply below_drew1 | refine below_set ?_ GE399.out) | exact HB.out)⟩⟩
                     ·rw [if_neg c82] at H
                      exact absurd H (by simp)
                    ·rw [if_neg c81] at H
                     exact absurd H (by simp)
                   ·rw [if_neg c80] at H
                    exact absurd H (by simp)
                 ·replace c78 := Bool.eq_false_iff.mpr c78
                  subst c78
                  have H1 : (truantlaw10_DomFronts.l6 k3 x10_2 t424 x17_3 (wrap64 (x18_3 + 1))) = some r := by rw [if_neg (show ¬ (false = true) by decide)] at H; exact H
                  clear H
                  have H := H1
                  clear H1
                  have H' := Aside0.mk H
                  clear H
                  obtain ⟨Ao85, co85, eo85⟩ := Kd.R_slice HO_10.out
                  subst eo85
                  have p427 : 0 ≤ (x18_3 : Int) := of_decide_eq_true (by first | (with_reducible assumption) | assumption)
                  have q427 : x18_3 < (x10_2.length : Int) := of_decide_eq_true (by first | (with_reducible assumption) | assumption)
                  obtain ⟨ad427, e427, hx427_0⟩ := Kd.at_bool (Kd.R_reads' HO_10.out).2.2 x18_3 p427 q427
                  (try rw [← Nbq77.out] at hx427_0)
                  cases e427
                  replace p427 := eq_true p427
                  replace q427 := eq_true q427
                  go_wp2
                  go_roundg k3
                  case measure => have := HK1.out; have := HK2.out; have := HK3.out; omega
                  case rel => exact ⟨(x17_3), (wrap64 (x18_3 + 1)), (by first | rfl | (simp; done) | (simp [*]; done)), (by first | rfl | (simp; done) | (simp [*]; done)), H', ⟨by have := HK1.out; have := HK2.out; have := HK3.out; omega⟩, ⟨by (with_reducible repeat (first | apply Kd.R_alloc | apply Kd.R_drewN | apply Kd.R_drew)); exact HO_10.out⟩, ⟨by (with_reducible repeat (first | apply Kd.R_alloc | apply Kd.R_drewN | apply Kd.R_drew)); exact HO_16.out⟩, ⟨by (with_reducible repeat (first | refine blk_drewN ?_ _ | refine blk_drew ?_ | refine blk_alloc ?_ _)); exact BK399.out⟩, ⟨by repeat (first | (with_reducible first | exact HB.out | apply below_alloc | apply pw_below_drewN | apply below_drew1 | refine below_set ?_ GE399.out) | exact HB.out)⟩⟩
                ·rw [if_neg c76] at H
                 exact absurd H (by simp)
               ·rw [if_neg c75] at H
                have c75b0 : decide (x18_3 < (x10_2.length : Int)) = false := decide_eq_false c75
                clear c75
                obtain rfl := Option.some.inj H
                obtain ⟨Ao86, co86, eo86⟩ := Kd.R_slice HO_10.out
                subst eo86
                obtain ⟨Ao87, co87, eo87⟩ := Kd.R_slice HO_16.out
                subst eo87
                go_wp2
                go_ret
                exact ⟨by first | rfl | (simp [errW_none, errW_some] <;> rfl) | (simp [*, errW_none, errW_some] <;> rfl), by repeat (first | (with_reducible first | exact HB.out | apply below_alloc | apply pw_below_drewN | apply below_drew1 | refine below_set ?_ GE399.out) | exact HB.out)⟩
         ·rw [if_neg c46] at H
          exact absurd H (by simp)
        ·rw [if_neg c45] at H
         exact absurd H (by simp)
    ·rw [if_neg c18] at H
     exact absurd H (by simp)
 ·replace c4 := Bool.eq_false_iff.mpr c4
  subst c4
  have H1 : (none) = some r := by rw [if_neg (show ¬ (false = true) by decide)] at H; exact H
  clear H
  have H := H1
  clear H1
  exact absurd H (by simp)

end Go.Proofs.Ytclhjalgflebfaa.Q

/- How an argument of a type reads: out of the form's reading comes the value that the printed walks take. -/
namespace Go.Proofs.Ytclhjalgflebfaa.Q
open Go.RowKit Go.Proofs.YtclhjalgflebfaaW.PrintWords Go.Proofs.YtclhjalgflebfaaW.PrintLast Go.Proofs.YtclhjalgflebfaaW.PrintMore
set_option linter.unusedVariables false
set_option linter.unusedSimpArgs false
/-- What reads at type t reads as a value of kind K, of which Q holds. -/
structure Opens {α : Type} (P : Program) (t : TypeId) (K : Kd α) (Q : α → Prop) : Prop where
 out : ∀ {H : Type} {enc : TypeId × Value → H} {W : World} {base : Nat} {sp : Nat → Bool} {held : Bool} {fuel : Nat} {cs : List Value} {x : DataW H × List MemPlace},
  (∀ n ∈ x.1.weights P t, n ≤ reachBytes) → DataW.trod enc P W base sp held fuel t cs = some x → ∃ y, K.K W y cs ∧ Q y
section
variable {P : Program}
theorem opens_string {t : TypeId} (ht : P.underlying t = some .string) : Opens P t Kd.string (fun s => s.size ≤ 140737488351232) := by
 constructor
 intro H enc W base sp held fuel cs x hw h
 obtain ⟨s, rfl, rfl, hs⟩ : ∃ s : ByteArray, cs = [.string s] ∧ x = (.lit (.string s.data.toList), []) ∧ s.size ≤ maxLen := by
  cases fuel with
  | zero => simp [DataW.trod] at h
  | succ n =>
   unfold DataW.trod at h
   rw [ht] at h
   split at h <;> simp_all
 refine ⟨s, rfl, ?_⟩
 have := hw s.data.toList.length (by simp [DataW.weights])
 rw [Array.length_toList] at this
 exact this
theorem opens_int {t : TypeId} {q : IntKind} (ht : P.underlying t = some (.int q)) : Opens P t (Kd.int q) (fun n => (Lit.int q n).wf = true) := by
 constructor
 intro H enc W base sp held fuel cs x hw h
 obtain ⟨n, rfl, hs⟩ : ∃ n : Int, cs = [.int q n] ∧ (Lit.int q n).wf = true := by
  cases fuel with
  | zero => simp [DataW.trod] at h
  | succ n =>
   unfold DataW.trod at h
   rw [ht] at h
   split at h <;> simp_all
 exact ⟨n, rfl, hs⟩
theorem weights_all {H : Type} {e : TypeId} : ∀ {ds : List (DataW H)} {d : DataW H}, d ∈ ds → ∀ n ∈ d.weights P e, n ∈ DataW.weightsAll P e ds
 | d0 :: ds, d, hd, n, hn => by
  simp only [DataW.weightsAll, List.mem_append]
  rcases List.mem_cons.mp hd with rfl | h
  ·exact .inl hn
  ·exact .inr (weights_all h n hn)
theorem choose_list {α : Type} {p : Nat → α → Prop} : ∀ {n : Nat}, (∀ i, i < n → ∃ y, p i y) → ∃ ys : List α, ys.length = n ∧ ∀ i y, ys[i]? = some y → p i y
 | 0, _ => ⟨[], rfl, fun i y h => by simp at h⟩
 | n + 1, h => by
  obtain ⟨ys, hl, hy⟩ := choose_list (n := n) (fun i hi => h i (by omega))
  obtain ⟨y, hp⟩ := h n (by omega)
  refine ⟨ys ++ [y], by simp [hl], fun i z hz => ?_⟩
  by_cases hi : i < n
  ·rw [List.getElem?_append_left (by omega)] at hz
   exact hy i z hz
  ·have := (List.getElem?_eq_some_iff.mp hz).1
   simp at this
   have e : i = n := by omega
   subst e
   rw [List.getElem?_append_right (by omega)] at hz
   simp [hl] at hz
   subst hz
   exact hp
theorem opens_slice {α : Type} {t e : TypeId} {K : Kd α} {Q : α → Prop} (he : Opens P e K Q) (ht : P.underlying t = some (.slice e)) (hc : P.cellsOf e = K.sz) (bytes : Nat) (hb : P.bytesOf e = bytes) :
  Opens P t (Kd.slice e K) (fun l => l.length * bytes ≤ 140737488351232 ∧ ∀ x ∈ l, Q x) := by
 constructor
 intro H enc W base sp held fuel cs x hw h
 rcases Deep.open_slice ht h with ⟨rfl, rfl⟩ | ⟨a, len, cap, m, n, D, Pl, rfl, _, hl, hm, hmm, rfl, hel⟩
 ·exact ⟨[], ⟨none, 0, rfl, Nat.le_refl _, Kd.C_nil K W⟩, by simp, by simp⟩
 ·have hlm : len ≤ m := by rw [hmm]; split <;> omega
  have hw' : ∀ i, i < len → ∀ k ∈ (D i).weights P e, k ≤ reachBytes := fun i hi k hk => hw k (by
   simp only [DataW.weights, ht, List.mem_cons, List.mem_append]
   exact .inr (.inl (weights_all (List.mem_map.mpr ⟨i, by simpa using hi, rfl⟩) k hk)))
  obtain ⟨ys, hys, hY⟩ := choose_list (n := len) (p := fun i y => (∃ c, c.length = K.sz ∧ K.K W y c ∧ ∀ j u, c[j]? = some u → W.cell? (a.add (i * K.sz + j)) = some u) ∧ Q y) (fun i hi => by
   obtain ⟨c, h1, h2⟩ := hel i (by omega)
   obtain ⟨y, hy, hq⟩ := he.out (hw' i hi) h2
   obtain ⟨_, h3, h4⟩ := World.cells?_some h1
   rw [hc] at h3 h4
   refine ⟨y, ⟨c, h3, hy, fun j u hu => ?_⟩, hq⟩
   have hj : j < K.sz := by
    have := (List.getElem?_eq_some_iff.mp hu).1
    omega
   have h5 := h4 j hj
   rw [Addr.add_add] at h5
   rw [h5, hu])
  have hlen : len ≤ maxLen := by omega
  refine ⟨ys, ⟨some a, cap, by rw [hys], by omega, rfl, by rw [hys]; unfold maxLen at hlen; omega, fun _ => ⟨a, rfl, fun j p hj => (hY j p hj).1⟩⟩, ?_, ?_⟩
  ·have := hw ((((List.range len).map D).length + ((List.range (m - len)).map fun j => D (len + j)).length) * P.bytesOf e) (by simp [DataW.weights, ht])
   rw [hb] at this
   simp only [List.length_map, List.length_range] at this
   have h2 : len * bytes ≤ (len + (m - len)) * bytes := Nat.mul_le_mul_right _ (by omega)
   rw [hys]
   unfold reachBytes at this
   omega
  ·intro x hx
   obtain ⟨i, hi, rfl⟩ := List.mem_iff_getElem.mp hx
   exact (hY i _ (List.getElem?_eq_getElem hi)).2
/-- The fields from one on. -/
structure OpensF {α : Type} (P : Program) (fs : List Field) (off : Nat) (K : Kd α) (Q : α → Prop) : Prop where
 out : ∀ {H : Type} {enc : TypeId × Value → H} {W : World} {base : Nat} {sp : Nat → Bool} {held : Bool} {fuel : Nat} {cs : List Value} {xs : List (DataW H × List MemPlace)},
  cs.length = off + K.sz → (∀ n ∈ DataW.weightsEach P (fs.map (·.type)) (xs.map (·.1)), n ≤ reachBytes) → (fs.mapM fun f => DataW.trod enc P W base sp held fuel f.type ((cs.drop f.offset).take (P.cellsOf f.type))) = some xs → ∃ y, K.K W y (cs.drop off) ∧ Q y
theorem opensF_last {α : Type} {f : Field} {off t : Nat} {K : Kd α} {Q : α → Prop} (h : Opens P t K Q) (h0 : f.type = t) (hc : P.cellsOf t = K.sz) (ho : f.offset = off) : OpensF P [f] off K Q := by
 constructor
 intro H enc W base sp held fuel cs xs hl hw hm
 subst h0
 simp only [List.mapM_cons, List.mapM_nil, Option.pure_def, Option.bind_eq_bind, Option.bind_some] at hm
 obtain ⟨x, hx, hm⟩ := Option.bind_eq_some_iff.mp hm
 obtain rfl := Option.some.inj hm
 rw [hc, ho, List.take_of_length_le (by rw [List.length_drop]; omega)] at hx
 exact h.out (fun n hn => hw n (by simp [DataW.weightsEach, hn])) hx
theorem opensF_cons {α β : Type} {f : Field} {fs : List Field} {off t : Nat} {K : Kd α} {K1 : Kd β} {Q : α → Prop} {Q1 : β → Prop} (h : Opens P t K Q) (h0 : f.type = t) (hc : P.cellsOf t = K.sz) (ho : f.offset = off) (h1 : OpensF P fs (off + K.sz) K1 Q1) :
  OpensF P (f :: fs) off (Kd.pair K K1) (fun p => Q p.1 ∧ Q1 p.2) := by
 constructor
 intro H enc W base sp held fuel cs xs hl hw hm
 subst h0
 have hl : cs.length = off + (K.sz + K1.sz) := hl
 rw [List.mapM_cons] at hm
 simp only [Option.pure_def, Option.bind_eq_bind] at hm
 obtain ⟨x, hx, hm⟩ := Option.bind_eq_some_iff.mp hm
 obtain ⟨xs', hxs, hm⟩ := Option.bind_eq_some_iff.mp hm
 obtain rfl := Option.some.inj hm
 rw [hc, ho] at hx
 obtain ⟨y, hy, hq⟩ := h.out (fun n hn => hw n (by simp only [List.map_cons, DataW.weightsEach, List.mem_append]; exact .inl hn)) hx
 obtain ⟨z, hz, hq1⟩ := h1.out (by omega) (fun n hn => hw n (by simp only [List.map_cons, DataW.weightsEach, List.mem_append]; exact .inr hn)) hxs
 refine ⟨(y, z), ⟨(cs.drop off).take K.sz, cs.drop (off + K.sz), ?_, hy, hz⟩, hq, hq1⟩
 rw [← List.drop_drop, List.take_append_drop]
theorem opens_struct {α β : Type} {t : TypeId} {fs : Array Field} {K : Kd α} {Q : α → Prop} (ht : P.underlying t = some (.struct fs)) (h : OpensF P fs.toList 0 K Q) (hc : P.cellsOf t = K.sz) (g : β → α) (g' : α → β) (hg : ∀ y, g (g' y) = y) : Opens P t (Kd.iso K g) (fun x => Q (g x)) := by
 constructor
 intro H enc W base sp held fuel cs x hw hm
 cases fuel with
 | zero => simp [DataW.trod] at hm
 | succ n =>
  unfold DataW.trod at hm
  rw [ht] at hm
  simp only at hm
  split at hm
  ·rename_i hl
   obtain ⟨xs, hxs, rfl⟩ := Option.map_eq_some_iff.mp hm
   obtain ⟨y, hy, hq⟩ := h.out (cs := cs) (xs := xs) (by rw [hl, hc]; omega) (fun n hn => hw n (by simp only [DataW.weights, ht]; exact hn)) hxs
   exact ⟨g' y, by show K.K W (g (g' y)) cs; rw [hg]; simpa using hy, by show Q (g (g' y)); rw [hg]; exact hq⟩
  ·cases hm
theorem opens_array2 {α β : Type} {t e : TypeId} {K : Kd α} {Q : α → Prop} {k : Kd β} {WF : β → Prop} (mk : α → α → β) (g : β → α × α) (he : Opens P e K Q) (ht : P.underlying t = some (.array 2 e)) (hsz : K.sz = 1) (hce : P.cellsOf e = 1) (hct : P.cellsOf t = 2) (hk : k = Kd.iso (Kd.pair K K) g) (hg : ∀ x y, g (mk x y) = (x, y)) (hQ : ∀ x y, Q x → Q y → WF (mk x y)) : Opens P t k WF := by
 subst hk
 constructor
 intro H enc W base sp held fuel cs x hw hm
 obtain ⟨xs, m, rfl, rfl, hl, hn, hi⟩ := DataW.trod_array ht hm
 rw [hct] at hl
 have hwx : ∀ d, d ∈ xs.map (·.1) → ∀ n ∈ d.weights P e, n ≤ reachBytes := fun d hd n hn => hw n (by simp only [DataW.weights, ht]; exact weights_all hd n hn)
 obtain ⟨d0, d1, rfl⟩ : ∃ d0 d1, xs = [d0, d1] := by
  match xs, hn with
  | [a, b], _ => exact ⟨a, b, rfl⟩
 obtain ⟨c0, c1, rfl⟩ : ∃ c0 c1, cs = [c0, c1] := by
  match cs, hl with
  | [a, b], _ => exact ⟨a, b, rfl⟩
 have h0 := hi 0 (by omega)
 have h1 := hi 1 (by omega)
 rw [hce] at h0 h1
 obtain ⟨y0, hy0, q0⟩ := he.out (hwx d0.1 (by simp)) (show _ = some d0 from h0)
 obtain ⟨y1, hy1, q1⟩ := he.out (hwx d1.1 (by simp)) (show _ = some d1 from h1)
 refine ⟨mk y0 y1, ?_, hQ _ _ q0 q1⟩
 show (Kd.pair K K).K W (g (mk y0 y1)) [c0, c1]
 rw [hg]
 exact ⟨[c0], [c1], rfl, hy0, hy1⟩
theorem opens_struct' {α β : Type} {t : TypeId} {fs : Array Field} {K : Kd α} {Q : α → Prop} {k : Kd β} {WF : β → Prop} (g' : α → β) (g : β → α) (ht : P.underlying t = some (.struct fs)) (h : OpensF P fs.toList 0 K Q) (hc : P.cellsOf t = K.sz) (hk : k = Kd.iso K g) (hg : ∀ y, g (g' y) = y) (hQ : ∀ x, Q (g x) → WF x) : Opens P t k WF := by
 subst hk
 constructor
 intro H enc W base sp held fuel cs x hw hm
 obtain ⟨y, h1, h2⟩ := (opens_struct ht h hc g g' hg).out hw hm
 exact ⟨y, h1, hQ y h2⟩
end
end Go.Proofs.Ytclhjalgflebfaa.Q

