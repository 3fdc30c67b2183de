/- What the row of DomExact rests on, part 2: contracts of the functions that it reaches, and the plain law. -/
import Derived.Test.YtclhjalgflebfaaJDomExact1
namespace Go.Proofs.Ytclhjalgflebfaa.Q
open Go.RowKit Go.Proofs.YtclhjalgflebfaaW.PrintWords Go.Proofs.YtclhjalgflebfaaW.PrintLast Go.Proofs.YtclhjalgflebfaaW.PrintMore
attribute [local go_sem] max2_int min2_int max_two min_two max_three min_three max_four min_four   -- for this text's walks alone
set_option linter.unusedVariables false
set_option linter.unusedSimpArgs false

/-! ### truantref09_Reached: function 18 -/
mutual
def truantref09_Reached.l0 : Nat → List Bool → Int → ByteArray → List ByteArray → ByteArray → List ByteArray → List (S58) → List (S40) → Option (List Bool)
 | 0, _, _, _, _, _, _, _, _ => none
 | k + 1, x3, x4, x345000, x345001, x345002, x345003, x345004, x345005 => if x4 < (x3.length : Int) then (truantref09_Reached.l1 k x3 x4 0 x345000 x345001 x345002 x345003 x345004 x345005) else (some x3)
def truantref09_Reached.l1 : Nat → List Bool → Int → Int → ByteArray → List ByteArray → ByteArray → List ByteArray → List (S58) → List (S40) → Option (List Bool)
 | 0, _, _, _, _, _, _, _, _, _ => none
 | k + 1, x3, x4, x5, x345000, x345001, x345002, x345003, x345004, x345005 => if x5 < (x3.length : Int) then ((truantref09_Next.f k x345000 x345001 x345002 x345003 x345004 x345005 x5).bind fun t349 => (truantref09_Reached.l2 k x3 x4 x5 t349 0 x345000 x345001 x345002 x345003 x345004 x345005)) else (truantref09_Reached.l0 k x3 (wrap64 (x4 + 1)) x345000 x345001 x345002 x345003 x345004 x345005)
def truantref09_Reached.l2 : Nat → List Bool → Int → Int → List Int → Int → ByteArray → List ByteArray → ByteArray → List ByteArray → List (S58) → List (S40) → Option (List Bool)
 | 0, _, _, _, _, _, _, _, _, _, _, _ => none
 | k + 1, x3, x4, x5, x6, x7, x345000, x345001, x345002, x345003, x345004, x345005 => if 0 ≤ x5 then (if x5 < (x3.length : Int) then (if rdOf false x3 x5 = true then (if x7 < (x6.length : Int) then (if 0 ≤ x7 then (if 0 ≤ (rd x6 x7) then (if (rd x6 x7) < (x3.length : Int) then (truantref09_Reached.l2 k (x3.set ((rd x6 x7) : Int).toNat true) x4 x5 x6 (wrap64 (x7 + 1)) x345000 x345001 x345002 x345003 x345004 x345005) else (none)) else (none)) else (none)) else (truantref09_Reached.l1 k x3 x4 (wrap64 (x5 + 1)) x345000 x345001 x345002 x345003 x345004 x345005)) else (truantref09_Reached.l1 k x3 x4 (wrap64 (x5 + 1)) x345000 x345001 x345002 x345003 x345004 x345005)) else (none)) else (none)
end
def truantref09_Reached.f (k : Nat) (a0_0 : ByteArray) (l0_1 : List ByteArray) (a0_2 : ByteArray) (l0_3 : List ByteArray) (l0_4 : List (S58)) (l0_5 : List (S40)) : Option (List Bool) := if 0 ≤ (l0_5.length : Int) then (if ((l0_5.length : Int) : Int).toNat ≤ 281474976710656 then ((some (List.replicate ((l0_5.length : Int) : Int).toNat false : List Bool)).bind fun y345 => (if (y345.length : Int) = 0 then (some y345) else (if 0 < (y345.length : Int) then (truantref09_Reached.l0 k (y345.set (0 : Int).toNat true) 0 a0_0 l0_1 a0_2 l0_3 l0_4 l0_5) else (none)))) else (none)) else (none)
theorem truantref09_Reached.mono_l : ∀ k, (∀ y0 y1 y2 y3 y4 y5 y6 y7, LeO (truantref09_Reached.l0 k y0 y1 y2 y3 y4 y5 y6 y7) (truantref09_Reached.l0 (k + 1) y0 y1 y2 y3 y4 y5 y6 y7)) ∧ (∀ y0 y1 y2 y3 y4 y5 y6 y7 y8, LeO (truantref09_Reached.l1 k y0 y1 y2 y3 y4 y5 y6 y7 y8) (truantref09_Reached.l1 (k + 1) y0 y1 y2 y3 y4 y5 y6 y7 y8)) ∧ (∀ y0 y1 y2 y3 y4 y5 y6 y7 y8 y9 y10, LeO (truantref09_Reached.l2 k y0 y1 y2 y3 y4 y5 y6 y7 y8 y9 y10) (truantref09_Reached.l2 (k + 1) y0 y1 y2 y3 y4 y5 y6 y7 y8 y9 y10))
 | 0 => ⟨fun _ _ _ _ _ _ _ _ r h => by simp [truantref09_Reached.l0] at h, fun _ _ _ _ _ _ _ _ _ r h => by simp [truantref09_Reached.l1] at h, fun _ _ _ _ _ _ _ _ _ _ _ r h => by simp [truantref09_Reached.l2] at h⟩
 | k + 1 => by
  obtain ⟨ih0, ih1, ih2⟩ := truantref09_Reached.mono_l k
  refine ⟨?_, ?_, ?_⟩
  ·intro y0 y1 y2 y3 y4 y5 y6 y7
   unfold truantref09_Reached.l0
   repeat' first
   | (with_reducible exact ih0 _ _ _ _ _ _ _ _)
   | (with_reducible exact ih1 _ _ _ _ _ _ _ _ _)
   | (with_reducible exact ih2 _ _ _ _ _ _ _ _ _ _ _)
   | (with_reducible exact truantref09_Next.mono _ _ _ _ _ _ _ _)
   | (with_reducible exact LeO.refl _)
   | (with_reducible exact LeO.none _)
   | (with_reducible refine LeO.ite ?_ ?_)
   | (with_reducible refine LeO.bind ?_ (fun _ => ?_))
   | exact ih0 _ _ _ _ _ _ _ _
   | exact ih1 _ _ _ _ _ _ _ _ _
   | exact ih2 _ _ _ _ _ _ _ _ _ _ _
   | exact truantref09_Next.mono _ _ _ _ _ _ _ _
   | exact LeO.none _
   | refine LeO.ite ?_ ?_
   | refine LeO.bind ?_ (fun _ => ?_)
  ·intro y0 y1 y2 y3 y4 y5 y6 y7 y8
   unfold truantref09_Reached.l1
   repeat' first
   | (with_reducible exact ih0 _ _ _ _ _ _ _ _)
   | (with_reducible exact ih1 _ _ _ _ _ _ _ _ _)
   | (with_reducible exact ih2 _ _ _ _ _ _ _ _ _ _ _)
   | (with_reducible exact truantref09_Next.mono _ _ _ _ _ _ _ _)
   | (with_reducible exact LeO.refl _)
   | (with_reducible exact LeO.none _)
   | (with_reducible refine LeO.ite ?_ ?_)
   | (with_reducible refine LeO.bind ?_ (fun _ => ?_))
   | exact ih0 _ _ _ _ _ _ _ _
   | exact ih1 _ _ _ _ _ _ _ _ _
   | exact ih2 _ _ _ _ _ _ _ _ _ _ _
   | exact truantref09_Next.mono _ _ _ _ _ _ _ _
   | exact LeO.none _
   | refine LeO.ite ?_ ?_
   | refine LeO.bind ?_ (fun _ => ?_)
  ·intro y0 y1 y2 y3 y4 y5 y6 y7 y8 y9 y10
   unfold truantref09_Reached.l2
   repeat' first
   | (with_reducible exact ih0 _ _ _ _ _ _ _ _)
   | (with_reducible exact ih1 _ _ _ _ _ _ _ _ _)
   | (with_reducible exact ih2 _ _ _ _ _ _ _ _ _ _ _)
   | (with_reducible exact truantref09_Next.mono _ _ _ _ _ _ _ _)
   | (with_reducible exact LeO.refl _)
   | (with_reducible exact LeO.none _)
   | (with_reducible refine LeO.ite ?_ ?_)
   | (with_reducible refine LeO.bind ?_ (fun _ => ?_))
   | exact ih0 _ _ _ _ _ _ _ _
   | exact ih1 _ _ _ _ _ _ _ _ _
   | exact ih2 _ _ _ _ _ _ _ _ _ _ _
   | exact truantref09_Next.mono _ _ _ _ _ _ _ _
   | exact LeO.none _
   | refine LeO.ite ?_ ?_
   | refine LeO.bind ?_ (fun _ => ?_)
theorem truantref09_Reached.mono : ∀ a0 a1 a2 a3 a4 a5 k, LeO (truantref09_Reached.f k a0 a1 a2 a3 a4 a5) (truantref09_Reached.f (k + 1) a0 a1 a2 a3 a4 a5) := by
 intro a0 a1 a2 a3 a4 a5 k
 obtain ⟨ih0, ih1, ih2⟩ := truantref09_Reached.mono_l k
 unfold truantref09_Reached.f
 repeat' first
   | (with_reducible exact ih0 _ _ _ _ _ _ _ _)
   | (with_reducible exact ih1 _ _ _ _ _ _ _ _ _)
   | (with_reducible exact ih2 _ _ _ _ _ _ _ _ _ _ _)
   | (with_reducible exact truantref09_Next.mono _ _ _ _ _ _ _ _)
   | (with_reducible exact LeO.refl _)
   | (with_reducible exact LeO.none _)
   | (with_reducible refine LeO.ite ?_ ?_)
   | (with_reducible refine LeO.bind ?_ (fun _ => ?_))
   | exact ih0 _ _ _ _ _ _ _ _
   | exact ih1 _ _ _ _ _ _ _ _ _
   | exact ih2 _ _ _ _ _ _ _ _ _ _ _
   | exact truantref09_Next.mono _ _ _ _ _ _ _ _
   | exact LeO.none _
   | refine LeO.ite ?_ ?_
   | refine LeO.bind ?_ (fun _ => ?_)
set_option maxHeartbeats 8000000 in
set_option maxRecDepth 100000 in
theorem truantref09_Reached.calls (k : Nat) (a0_0 : ByteArray) (A0_1 : Option Addr) (c0_1 : Nat) (l0_1 : List ByteArray) (a0_2 : ByteArray) (A0_3 : Option Addr) (c0_3 : Nat) (l0_3 : List ByteArray) (A0_4 : Option Addr) (c0_4 : Nat) (l0_4 : List (S58)) (A0_5 : Option Addr) (c0_5 : Nat) (l0_5 : List (S40)) (r : List Bool) (w : World) (hr0_1 : Kd.C Kd.string w A0_1 l0_1.length l0_1) (hc0_1 : l0_1.length ≤ c0_1) (hr0_3 : Kd.C Kd.string w A0_3 l0_3.length l0_3) (hc0_3 : l0_3.length ≤ c0_3) (hr0_4 : Kd.C k58 w A0_4 l0_4.length l0_4) (hc0_4 : l0_4.length ≤ c0_4) (hr0_5 : Kd.C k40 w A0_5 l0_5.length l0_5) (hc0_5 : l0_5.length ≤ c0_5) (h : truantref09_Reached.f k a0_0 l0_1 a0_2 l0_3 l0_4 l0_5 = some r) :
  Calls Try.prog 18 #[.agg #[.string a0_0, .slice A0_1 l0_1.length c0_1, .string a0_2, .slice A0_3 l0_3.length c0_3, .slice A0_4 l0_4.length c0_4, .slice A0_5 l0_5.length c0_5]] w fun e w' => ∃ v0_ : Value, e = .returned (v0_) ∧ Kd.R Kd.bool 4 w' w.heap.size (fun _ => True) v0_ r ∧ Below w.heap.size w w' := by
 have hu26 := Try.underlying26
 have HR0_1 := Aside0.mk hr0_1
 have HC0_1 := Aside0.mk hc0_1
 clear hr0_1 hc0_1
 have HR0_3 := Aside0.mk hr0_3
 have HC0_3 := Aside0.mk hc0_3
 clear hr0_3 hc0_3
 have HR0_4 := Aside0.mk hr0_4
 have HC0_4 := Aside0.mk hc0_4
 clear hr0_4 hc0_4
 have HR0_5 := Aside0.mk hr0_5
 have HC0_5 := Aside0.mk hc0_5
 clear hr0_5 hc0_5
 have HB := Aside0.mk (Below.refl w.heap.size w)
 have H : (if 0 ≤ (l0_5.length : Int) then (if ((l0_5.length : Int) : Int).toNat ≤ 281474976710656 then ((some (List.replicate ((l0_5.length : Int) : Int).toNat false : List Bool)).bind fun y345 => (if (y345.length : Int) = 0 then (some y345) else (if 0 < (y345.length : Int) then (truantref09_Reached.l0 k (y345.set (0 : Int).toNat true) 0 a0_0 l0_1 a0_2 l0_3 l0_4 l0_5) else (none)))) else (none)) else (none)) = some r := h
 clear h
 by_cases c2 : 0 ≤ (l0_5.length : Int)
 ·rw [if_pos c2] at H
  have c2b0 := eq_true c2
  have c2b1 : decide (0 ≤ (l0_5.length : Int)) = true := decide_eq_true c2
  clear c2
  by_cases c3 : ((l0_5.length : Int) : Int).toNat ≤ 281474976710656
  ·rw [if_pos c3] at H
   have c3b0 := eq_true c3
   have c3b1 : decide (((l0_5.length : Int) : Int).toNat ≤ 281474976710656) = true := decide_eq_true c3
   clear c3
   obtain ⟨y345, hy345⟩ : ∃ y_ : List Bool, y_ = (List.replicate ((l0_5.length : Int) : Int).toNat false) := ⟨_, rfl⟩
   replace H : (if (y345.length : Int) = 0 then (some y345) else (if 0 < (y345.length : Int) then (truantref09_Reached.l0 k (y345.set (0 : Int).toNat true) 0 a0_0 l0_1 a0_2 l0_3 l0_4 l0_5) else (none))) = some r := by first | (rw [hy345]; with_reducible exact H) | (have H2_ := (Option.bind_some _ _).symm.trans H; rw [hy345]; with_reducible exact H2_) | (have H2_ := (Option.bind_some _ _).symm.trans H; with_reducible exact H2_) | with_reducible exact H | (rw [hy345]; exact H) | exact H
   have Ny345 := Aside0.mk hy345
   clear hy345
   by_cases c4 : (y345.length : Int) = 0
   ·rw [if_pos c4] at H
    have c4b0 : ((y345.length : Int) == 0) = true := beq_iff_eq.mpr c4
    have c4b1 : ((y345.length : Int) != 0) = false := bne_eq_false_iff_eq.mpr c4
    clear c4
    obtain rfl := Option.some.inj H
    go_enter Try.func18, Try.ntmps18
    go_wp2_with (first | ((with_reducible refine gate_dst (N := 1) rfl ?_); (try (refine gate_guard (by rfl) ?_; dsimp only)); refine box_event ?hg (N := 1) ?hd (cs := #[.string a0_0, .slice A0_1 l0_1.length c0_1, .string a0_2, .slice A0_3 l0_3.length c0_3, .slice A0_4 l0_4.length c0_4, .slice A0_5 l0_5.length c0_5]) (t := 26) ?hr ?_; (case hd => rfl); (case hg => rfl); (case hr => first | (go_simp; done) | (go_simp; rfl)); intro gb344 hg w5 hbox hb; have n0_ := Aside0.mk (below_step (by repeat (first | (with_reducible first | exact HB.out | apply below_alloc | apply pw_below_drewN | apply below_drew1) | exact HB.out)) hb); have n1_ := Aside0.mk (hbox); have n2_ := Aside0.mk ((by rw [hg]; exact (below_size (by repeat (first | (with_reducible first | exact HB.out | apply below_alloc | apply pw_below_drewN | apply below_drew1) | exact HB.out))) : w.heap.size ≤ gb344)); have n3_ := Aside0.mk ((by rw [hg]; exact (below_size (by repeat (first | (with_reducible first | exact HB.out | apply below_alloc | apply pw_below_drewN | apply below_drew1) | exact HB.out))) : w.heap.size ≤ gb344)); clear HB; have HB := n0_; have BK344 := n1_; have GW344 := n2_; have GE344 := n3_; clear n0_ n1_ n2_ n3_; clear hb hbox hg; have hcz6_0 : w5.cell? ⟨gb344, 0, none⟩ = some (.string a0_0) := (blk_cell BK344.out 0).trans rfl; have hcz6_1 : w5.cell? ⟨gb344, 1, none⟩ = some (.slice A0_1 l0_1.length c0_1) := (blk_cell BK344.out 1).trans rfl; have hcz6_2 : w5.cell? ⟨gb344, 2, none⟩ = some (.string a0_2) := (blk_cell BK344.out 2).trans rfl; have hcz6_3 : w5.cell? ⟨gb344, 3, none⟩ = some (.slice A0_3 l0_3.length c0_3) := (blk_cell BK344.out 3).trans rfl; have hcz6_4 : w5.cell? ⟨gb344, 4, none⟩ = some (.slice A0_4 l0_4.length c0_4) := (blk_cell BK344.out 4).trans rfl; have hcz6_5 : w5.cell? ⟨gb344, 5, none⟩ = some (.slice A0_5 l0_5.length c0_5) := (blk_cell BK344.out 5).trans rfl; have hfz6_0 := blk_frozen BK344.out 0; have hfz6_1 := blk_frozen BK344.out 1; have hfz6_2 := blk_frozen BK344.out 2; have hfz6_3 := blk_frozen BK344.out 3; have hfz6_4 := blk_frozen BK344.out 4; have hfz6_5 := blk_frozen BK344.out 5) | ((with_reducible refine gate_dst (N := 11) rfl ?_); (try (refine gate_guard (by rfl) ?_; dsimp only)); refine Kd.R_make Kd.bool _ 4 rfl (N := 11) rfl 31 _ _ rfl (l0_5.length : Int) rfl rfl Try.underlying31 (.bool false) 1 info4 rfl (by decide) (by omega) false (ok := fun _ => True) (okp := fun _ => True) rfl (fun _ hk => hk) trivial (of_decide_eq_true (by first | (with_reducible assumption) | assumption)) (Nat.le_trans (Nat.mul_le_mul_right _ (of_decide_eq_true (by first | (with_reducible assumption) | assumption) : (l0_5.length : Int).toNat ≤ 281474976710656)) (by omega)) (Below.refl _ _) (Nat.le_refl _) ?_; intro v346 w7 ho8 hb hg_ hnew_; clear hg_ hnew_; (first | rw [← Ny345.out] at ho8 | (simp only [Int.reduceToNat] at ho8; rw [← Ny345.out] at ho8)); have n0_ := Aside0.mk (Kd.R_lower ho8 (below_size (by repeat (first | (with_reducible first | exact HB.out | apply below_alloc | apply pw_below_drewN | apply below_drew1 | refine below_set ?_ GE344.out) | exact HB.out)))); have n1_ := Aside0.mk (blk_below (g := gb344) (o := .cells #[.string a0_0, .slice A0_1 l0_1.length c0_1, .string a0_2, .slice A0_3 l0_3.length c0_3, .slice A0_4 l0_4.length c0_4, .slice A0_5 l0_5.length c0_5] 26 (0, 0)) (by (with_reducible repeat (first | refine blk_drewN ?_ _ | refine blk_drew ?_ | refine blk_alloc ?_ _)); exact BK344.out) hb); have n2_ := Aside0.mk (below_step (by repeat (first | (with_reducible first | exact HB.out | apply below_alloc | apply pw_below_drewN | apply below_drew1 | refine below_set ?_ GE344.out) | exact HB.out)) hb); clear BK344; clear HB; have HO347 := n0_; have BK344 := n1_; have HB := n2_; clear n0_ n1_ n2_; clear hb ho8; obtain ⟨Ao9, co9, eo9⟩ := Kd.R_slice HO347.out; subst eo9))
    go_ret
    exact ⟨_, by first | rfl | (simp [errW_none, errW_some] <;> rfl) | (simp [*, errW_none, errW_some] <;> rfl), by (with_reducible repeat (first | apply Kd.R_alloc | apply Kd.R_drewN | apply Kd.R_drew)); exact HO347.out, by repeat (first | (with_reducible first | exact HB.out | apply below_alloc | apply pw_below_drewN | apply below_drew1 | refine below_set ?_ GE344.out) | exact HB.out)⟩
   ·rw [if_neg c4] at H
    have c4b0 : ((y345.length : Int) == 0) = false := beq_eq_false_iff_ne.mpr c4
    have c4b1 : ((y345.length : Int) != 0) = true := bne_iff_ne.mpr c4
    have c4b2 : ¬ (y345 = []) := fun h_ => c4 (by rw [h_]; rfl)
    by_cases c10 : 0 < (y345.length : Int)
    ·rw [if_pos c10] at H
     have c10b0 : decide (0 < (y345.length : Int)) = true := decide_eq_true c10
     have c10b1 : decide (0 < y345.length) = true := decide_eq_true (by omega)
     clear c10
     obtain ⟨y348, hy348⟩ : ∃ y_ : List Bool, y_ = (y345.set (0 : Int).toNat true) := ⟨_, rfl⟩
     replace H : (truantref09_Reached.l0 k y348 0 a0_0 l0_1 a0_2 l0_3 l0_4 l0_5) = some r := by first | (rw [hy348]; with_reducible exact H) | (have H2_ := (Option.bind_some _ _).symm.trans H; rw [hy348]; with_reducible exact H2_) | (have H2_ := (Option.bind_some _ _).symm.trans H; with_reducible exact H2_) | with_reducible exact H | (rw [hy348]; exact H) | exact H
     have Ny348 := Aside0.mk hy348
     clear hy348
     have H' := Aside0.mk H
     clear H
     go_enter Try.func18, Try.ntmps18
     go_wp2_with (first | ((with_reducible refine gate_dst (N := 1) rfl ?_); (try (refine gate_guard (by rfl) ?_; dsimp only)); refine box_event ?hg (N := 1) ?hd (cs := #[.string a0_0, .slice A0_1 l0_1.length c0_1, .string a0_2, .slice A0_3 l0_3.length c0_3, .slice A0_4 l0_4.length c0_4, .slice A0_5 l0_5.length c0_5]) (t := 26) ?hr ?_; (case hd => rfl); (case hg => rfl); (case hr => first | (go_simp; done) | (go_simp; rfl)); intro gb344 hg w12 hbox hb; have n0_ := Aside0.mk (below_step (by repeat (first | (with_reducible first | exact HB.out | apply below_alloc | apply pw_below_drewN | apply below_drew1) | exact HB.out)) hb); have n1_ := Aside0.mk (hbox); have n2_ := Aside0.mk ((by rw [hg]; exact (below_size (by repeat (first | (with_reducible first | exact HB.out | apply below_alloc | apply pw_below_drewN | apply below_drew1) | exact HB.out))) : w.heap.size ≤ gb344)); have n3_ := Aside0.mk ((by rw [hg]; exact (below_size (by repeat (first | (with_reducible first | exact HB.out | apply below_alloc | apply pw_below_drewN | apply below_drew1) | exact HB.out))) : w.heap.size ≤ gb344)); clear HB; have HB := n0_; have BK344 := n1_; have GW344 := n2_; have GE344 := n3_; clear n0_ n1_ n2_ n3_; clear hb hbox hg; have hcz13_0 : w12.cell? ⟨gb344, 0, none⟩ = some (.string a0_0) := (blk_cell BK344.out 0).trans rfl; have hcz13_1 : w12.cell? ⟨gb344, 1, none⟩ = some (.slice A0_1 l0_1.length c0_1) := (blk_cell BK344.out 1).trans rfl; have hcz13_2 : w12.cell? ⟨gb344, 2, none⟩ = some (.string a0_2) := (blk_cell BK344.out 2).trans rfl; have hcz13_3 : w12.cell? ⟨gb344, 3, none⟩ = some (.slice A0_3 l0_3.length c0_3) := (blk_cell BK344.out 3).trans rfl; have hcz13_4 : w12.cell? ⟨gb344, 4, none⟩ = some (.slice A0_4 l0_4.length c0_4) := (blk_cell BK344.out 4).trans rfl; have hcz13_5 : w12.cell? ⟨gb344, 5, none⟩ = some (.slice A0_5 l0_5.length c0_5) := (blk_cell BK344.out 5).trans rfl; have hfz13_0 := blk_frozen BK344.out 0; have hfz13_1 := blk_frozen BK344.out 1; have hfz13_2 := blk_frozen BK344.out 2; have hfz13_3 := blk_frozen BK344.out 3; have hfz13_4 := blk_frozen BK344.out 4; have hfz13_5 := blk_frozen BK344.out 5) | ((with_reducible refine gate_dst (N := 11) rfl ?_); (try (refine gate_guard (by rfl) ?_; dsimp only)); refine Kd.R_make Kd.bool _ 4 rfl (N := 11) rfl 31 _ _ rfl (l0_5.length : Int) rfl rfl Try.underlying31 (.bool false) 1 info4 rfl (by decide) (by omega) false (ok := fun _ => True) (okp := fun _ => True) rfl (fun _ hk => hk) trivial (of_decide_eq_true (by first | (with_reducible assumption) | assumption)) (Nat.le_trans (Nat.mul_le_mul_right _ (of_decide_eq_true (by first | (with_reducible assumption) | assumption) : (l0_5.length : Int).toNat ≤ 281474976710656)) (by omega)) (Below.refl _ _) (Nat.le_refl _) ?_; intro v346 w14 ho15 hb hg_ hnew_; clear hg_ hnew_; (first | rw [← Ny345.out] at ho15 | (simp only [Int.reduceToNat] at ho15; rw [← Ny345.out] at ho15)); have n0_ := Aside0.mk (Kd.R_lower ho15 (below_size (by repeat (first | (with_reducible first | exact HB.out | apply below_alloc | apply pw_below_drewN | apply below_drew1 | refine below_set ?_ GE344.out) | exact HB.out)))); have n1_ := Aside0.mk (blk_below (g := gb344) (o := .cells #[.string a0_0, .slice A0_1 l0_1.length c0_1, .string a0_2, .slice A0_3 l0_3.length c0_3, .slice A0_4 l0_4.length c0_4, .slice A0_5 l0_5.length c0_5] 26 (0, 0)) (by (with_reducible repeat (first | refine blk_drewN ?_ _ | refine blk_drew ?_ | refine blk_alloc ?_ _)); exact BK344.out) hb); have n2_ := Aside0.mk (below_step (by repeat (first | (with_reducible first | exact HB.out | apply below_alloc | apply pw_below_drewN | apply below_drew1 | refine below_set ?_ GE344.out) | exact HB.out)) hb); clear BK344; clear HB; have HO347 := n0_; have BK344 := n1_; have HB := n2_; clear n0_ n1_ n2_; clear hb ho15; obtain ⟨Ao16, co16, eo16⟩ := Kd.R_slice HO347.out; subst eo16; have p11 : 0 ≤ (0 : Int) := (by omega); have q11 : (0 : Int) < ((y345.length : Int) : Int) := of_decide_eq_true (by first | (with_reducible assumption) | assumption); have qi11 : (0 < y345.length) = True := eq_true (by omega); obtain ⟨go11, co11, eo11, gb11, gl11, cl11, HG11⟩ := Kd.R_form HO347.out (by omega); (first | cases eo11 | (injection eo11 with ea_ en_ ec_; (first | subst ea_ | (injection ea_ with ea_; subst ea_)); subst ec_; clear en_)); have GB11 := Aside0.mk gb11; have GG11 := Aside0.mk HG11; clear gb11 gl11 HG11; obtain ⟨hx11_0, hf11_0⟩ := Kd.R_celln false HO347.out (0 : Int) p11 q11; (try rw [show ((0 : Int)).toNat = 0 from rfl] at hx11_0); (try simp only [Nat.reduceMul, Nat.zero_mul, Nat.zero_add, Nat.reduceAdd] at hx11_0); (try rw [show ((0 : Int)).toNat = 0 from rfl] at hf11_0); (try simp only [Nat.reduceMul, Nat.zero_mul, Nat.zero_add, Nat.reduceAdd] at hf11_0); replace p11 := eq_true p11; replace q11 := eq_true q11; obtain ⟨hy17_, hz17_⟩ := Kd.R_celln false HO347.out (0 : Int) (by omega) (of_decide_eq_true (by first | (with_reducible assumption) | assumption)); (try simp only [Int.reduceToNat, Int.toNat_zero, Int.toNat_ofNat, Nat.reduceMul, Nat.zero_mul, Nat.zero_add] at hy17_ hz17_); (try rw [show ((0 : Int)).toNat = 0 from rfl] at hy17_); (try rw [show ((0 : Int)).toNat = 0 from rfl] at hz17_); have HP17 := Kd.R_putg HO347.out (0 : Int) true) | ((with_reducible refine gate_store (t := 4) (p := 17) rfl ?_); refine store_event (t := 4) (p := 17) (v := ?vo_w18) (w1 := (w14.setCell ⟨go11, (0 : Int).toNat, none⟩ (.bool true))) ?hg ?ho ?hn ?hr ?_; (case ho => rfl); (case hg => rfl); (case hn => rfl); (case hr => first | (go_simp; done) | (go_simp; rfl)); intro w18 hw; have hg : w14.grownBy w18 (some go11) := (by rw [hw]; exact HP17.2); have hp_ : Kd.R Kd.bool 4 w18 w.heap.size (fun _ => True) (.slice (some ⟨go11, 0, none⟩) y345.length co16) y348 := (by rw [hw, Ny348.out]; exact HP17.1); clear HP17; have n0_ := Aside0.mk (blk_grown (g := gb344) (o := .cells #[.string a0_0, .slice A0_1 l0_1.length c0_1, .string a0_2, .slice A0_3 l0_3.length c0_3, .slice A0_4 l0_4.length c0_4, .slice A0_5 l0_5.length c0_5] 26 (0, 0)) (by (with_reducible repeat (first | refine blk_drewN ?_ _ | refine blk_drew ?_ | refine blk_alloc ?_ _)); exact BK344.out) hg (Kd.R_ne HO347.out BK344.out (by decide))); have n1_ := Aside0.mk (hp_); have n2_ := Aside0.mk ((by rw [hw]; exact below_set (HB.out) GB11.out : Below w.heap.size w w18)); clear BK344; clear HO347; clear HB; have BK344 := n0_; have HO347 := n1_; have HB := n2_; clear n0_ n1_ n2_; clear hg hw hp_))
     go_loopg [4] k (fun kq v4 w' => ∃ (x3_1 : List Bool) (x4_1 : Int), v4 = .int .i64 x4_1 ∧ Aside0 (truantref09_Reached.l0 kq x3_1 x4_1 a0_0 l0_1 a0_2 l0_3 l0_4 l0_5 = some r) ∧ Aside0 (kq ≤ k) ∧ Aside0 (Kd.R Kd.bool 4 w' w.heap.size (fun _ => True) (.slice (some ⟨go11, 0, none⟩) y345.length co16) x3_1) ∧ Aside0 (w'.heap[gb344]? = some (.cells #[.string a0_0, (.slice A0_1 l0_1.length c0_1), .string a0_2, (.slice A0_3 l0_3.length c0_3), (.slice A0_4 l0_4.length c0_4), (.slice A0_5 l0_5.length c0_5)] 26 (0, 0))) ∧ Aside0 (Below w.heap.size w w'))
     case atStart => exact ⟨(y348), (0), (by first | rfl | (simp; done) | (simp [*]; done)), H', ⟨Nat.le_refl _⟩, ⟨by (with_reducible repeat (first | apply Kd.R_alloc | apply Kd.R_drewN | apply Kd.R_drew)); exact HO347.out⟩, ⟨by (with_reducible repeat (first | refine blk_drewN ?_ _ | refine blk_drew ?_ | refine blk_alloc ?_ _)); exact BK344.out⟩, ⟨by repeat (first | (with_reducible first | exact HB.out | apply below_alloc | apply pw_below_drewN | apply below_drew1 | refine below_set ?_ GE344.out) | exact HB.out)⟩⟩
     case round =>
      clear H'
      try clear c1
      try clear p1
      try clear q1
      try clear hx1
      try clear qi1
      try clear hf1
      try clear c2
      try clear c2b0
      try clear c2b1
      try clear p2
      try clear c3
      try clear c3b0
      try clear c3b1
      try clear c4
      try clear c4b0
      try clear c4b1
      try clear c4b2
      try clear c10
      try clear c10b0
      try clear c10b1
      try clear p11
      try clear q11
      try clear hx11
      try clear qi11
      try clear hf11
      try clear c18
      try clear hcz13_0
      try clear hcz13_1
      try clear hcz13_2
      try clear hcz13_3
      try clear hcz13_4
      try clear hcz13_5
      try clear hcz6_0
      try clear hcz6_1
      try clear hcz6_2
      try clear hcz6_3
      try clear hcz6_4
      try clear hcz6_5
      try clear hfz13_0
      try clear hfz13_1
      try clear hfz13_2
      try clear hfz13_3
      try clear hfz13_4
      try clear hfz13_5
      try clear hfz6_0
      try clear hfz6_1
      try clear hfz6_2
      try clear hfz6_3
      try clear hfz6_4
      try clear hfz6_5
      try clear hx11_0
      try clear p11
      try clear q11
      obtain ⟨x3_1, x4_1, rfl, HA, HK1, HO_3, BK344, HB⟩ := hrel
      have hl3_1 := (Kd.R_reads' HO_3.out).1
      rw [hl3_1] at HO_3
      (try simp only [hl3_1])
      (try simp only [hl3_1] at BK344)
      cases gk with
      | zero => exact absurd HA.out (by simp [truantref09_Reached.l0])
      | succ k1 =>
       have H := HA.out
       clear HA
       simp only [truantref09_Reached.l0] at H
       by_cases c19 : x4_1 < (x3_1.length : Int)
       ·rw [if_pos c19] at H
        have c19b0 : decide (x4_1 < (x3_1.length : Int)) = true := decide_eq_true c19
        clear c19
        have H' := Aside0.mk H
        clear H
        go_wp2
        go_loopg [5] k1 (fun kq v5 w' => ∃ (x3_2 : List Bool) (x5_2 : Int), v5 = .int .i64 x5_2 ∧ Aside0 (truantref09_Reached.l1 kq x3_2 x4_1 x5_2 a0_0 l0_1 a0_2 l0_3 l0_4 l0_5 = some r) ∧ Aside0 (kq ≤ k1) ∧ Aside0 (Kd.R Kd.bool 4 w' w.heap.size (fun _ => True) (.slice (some ⟨go11, 0, none⟩) x3_1.length co16) x3_2) ∧ Aside0 (w'.heap[gb344]? = some (.cells #[.string a0_0, (.slice A0_1 l0_1.length c0_1), .string a0_2, (.slice A0_3 l0_3.length c0_3), (.slice A0_4 l0_4.length c0_4), (.slice A0_5 l0_5.length c0_5)] 26 (0, 0))) ∧ Aside0 (Below w.heap.size w w'))
        case atStart => exact ⟨(x3_1), (0), (by first | rfl | (simp; done) | (simp [*]; done)), H', ⟨Nat.le_refl _⟩, ⟨by (try simp only [hl3_1]); (with_reducible repeat (first | apply Kd.R_alloc | apply Kd.R_drewN | apply Kd.R_drew)); exact HO_3.out⟩, ⟨by (try simp only [hl3_1]); (with_reducible repeat (first | refine blk_drewN ?_ _ | refine blk_drew ?_ | refine blk_alloc ?_ _)); exact BK344.out⟩, ⟨by repeat (first | (with_reducible first | exact HB.out | apply below_alloc | apply pw_below_drewN | apply below_drew1 | refine below_set ?_ GE344.out) | exact HB.out)⟩⟩
        case round =>
         clear H'
         try clear c1
         try clear p1
         try clear q1
         try clear hx1
         try clear qi1
         try clear hf1
         try clear c2
         try clear c2b0
         try clear c2b1
         try clear p2
         try clear c3
         try clear c3b0
         try clear c3b1
         try clear c4
         try clear c4b0
         try clear c4b1
         try clear c4b2
         try clear c10
         try clear c10b0
         try clear c10b1
         try clear p11
         try clear q11
         try clear hx11
         try clear qi11
         try clear hf11
         try clear c18
         try clear c19
         try clear c19b0
         try clear hcz13_0
         try clear hcz13_1
         try clear hcz13_2
         try clear hcz13_3
         try clear hcz13_4
         try clear hcz13_5
         try clear hcz6_0
         try clear hcz6_1
         try clear hcz6_2
         try clear hcz6_3
         try clear hcz6_4
         try clear hcz6_5
         try clear hfz13_0
         try clear hfz13_1
         try clear hfz13_2
         try clear hfz13_3
         try clear hfz13_4
         try clear hfz13_5
         try clear hfz6_0
         try clear hfz6_1
         try clear hfz6_2
         try clear hfz6_3
         try clear hfz6_4
         try clear hfz6_5
         try clear hx11_0
         try clear p1
         try clear p11
         try clear p2
         try clear q1
         try clear q11
         obtain ⟨x3_2, x5_2, rfl, HA, HK2, HO_3, BK344, HB⟩ := hrel
         have hl3_2 := (Kd.R_reads' HO_3.out).1
         rw [hl3_2] at HO_3
         (try simp only [hl3_2])
         (try simp only [hl3_2] at BK344)
         cases gk with
         | zero => exact absurd HA.out (by simp [truantref09_Reached.l1])
         | succ k2 =>
          have H := HA.out
          clear HA
          simp only [truantref09_Reached.l1] at H
          by_cases c20 : x5_2 < (x3_2.length : Int)
          ·rw [if_pos c20] at H
           have c20b0 : decide (x5_2 < (x3_2.length : Int)) = true := decide_eq_true c20
           clear c20
           replace H := Option.bind_eq_some_iff.mp H
           obtain ⟨t349, A210, H⟩ := H
           replace H : (truantref09_Reached.l2 k2 x3_2 x4_1 x5_2 t349 0 a0_0 l0_1 a0_2 l0_3 l0_4 l0_5) = some r := H
           have A21 := Aside0.mk A210
           clear A210
           have H' := Aside0.mk H
           clear H
           have hcz22_0 : wr.cell? ⟨gb344, 0, none⟩ = some (.string a0_0) := (blk_cell BK344.out 0).trans rfl
           have hcz22_1 : wr.cell? ⟨gb344, 1, none⟩ = some (.slice A0_1 l0_1.length c0_1) := (blk_cell BK344.out 1).trans rfl
           have hcz22_2 : wr.cell? ⟨gb344, 2, none⟩ = some (.string a0_2) := (blk_cell BK344.out 2).trans rfl
           have hcz22_3 : wr.cell? ⟨gb344, 3, none⟩ = some (.slice A0_3 l0_3.length c0_3) := (blk_cell BK344.out 3).trans rfl
           have hcz22_4 : wr.cell? ⟨gb344, 4, none⟩ = some (.slice A0_4 l0_4.length c0_4) := (blk_cell BK344.out 4).trans rfl
           have hcz22_5 : wr.cell? ⟨gb344, 5, none⟩ = some (.slice A0_5 l0_5.length c0_5) := (blk_cell BK344.out 5).trans rfl
           have hfz22_0 := blk_frozen BK344.out 0
           have hfz22_1 := blk_frozen BK344.out 1
           have hfz22_2 := blk_frozen BK344.out 2
           have hfz22_3 := blk_frozen BK344.out 3
           have hfz22_4 := blk_frozen BK344.out 4
           have hfz22_5 := blk_frozen BK344.out 5
           go_wp2_with (first | ((with_reducible refine gate_callee (f := 21) rfl ?_); refine goesL_ (some 32) rfl rfl Try.func21 (by kernel_rfl) rfl #[.agg #[.string a0_0, .slice A0_1 l0_1.length c0_1, .string a0_2, .slice A0_3 l0_3.length c0_3, .slice A0_4 l0_4.length c0_4, .slice A0_5 l0_5.length c0_5], .int .i64 x5_2] rfl (by (try simp only [List.map_toArray, List.map_cons, List.map_nil]); first | done | rfl | (simp only [List.length_drop, List.length_take]; rfl)) ?_; (with_reducible refine (truantref09_Next.calls k2 a0_0 _ _ l0_1 a0_2 _ _ l0_3 _ _ l0_4 _ _ l0_5 x5_2 t349 _ ?side1 ?side2 ?side3 ?side4 ?side5 ?side6 ?side7 ?side8 A21.out).mono ?_); (case side1 => repeat (first | exact (Kd.C_below HR0_1.out HB.out) | (with_reducible refine Kd.C_alloc ?_ _) | (with_reducible refine Kd.C_drewN ?_ _) | (with_reducible refine Kd.C_drew ?_))); (case side2 => exact HC0_1.out); (case side3 => repeat (first | exact (Kd.C_below HR0_3.out HB.out) | (with_reducible refine Kd.C_alloc ?_ _) | (with_reducible refine Kd.C_drewN ?_ _) | (with_reducible refine Kd.C_drew ?_))); (case side4 => exact HC0_3.out); (case side5 => repeat (first | exact (Kd.C_below HR0_4.out HB.out) | (with_reducible refine Kd.C_alloc ?_ _) | (with_reducible refine Kd.C_drewN ?_ _) | (with_reducible refine Kd.C_drew ?_))); (case side6 => exact HC0_4.out); (case side7 => repeat (first | exact (Kd.C_below HR0_5.out HB.out) | (with_reducible refine Kd.C_alloc ?_ _) | (with_reducible refine Kd.C_drewN ?_ _) | (with_reducible refine Kd.C_drew ?_))); (case side8 => exact HC0_5.out); rintro e w23 ⟨v350, rfl, ho0, hb⟩; refine ⟨_, rfl, ?_⟩; have n0_ := Aside0.mk (Kd.R_below (by (with_reducible repeat (first | apply Kd.R_alloc | apply Kd.R_drewN | apply Kd.R_drew)); exact HO_3.out) hb); have n1_ := Aside0.mk (Kd.R_lower ho0 (below_size (by repeat (first | (with_reducible first | exact HB.out | apply below_alloc | apply pw_below_drewN | apply below_drew1 | refine below_set ?_ GE344.out) | exact HB.out)))); have n2_ := Aside0.mk (blk_below (g := gb344) (o := .cells #[.string a0_0, .slice A0_1 l0_1.length c0_1, .string a0_2, .slice A0_3 l0_3.length c0_3, .slice A0_4 l0_4.length c0_4, .slice A0_5 l0_5.length c0_5] 26 (0, 0)) (by (with_reducible repeat (first | refine blk_drewN ?_ _ | refine blk_drew ?_ | refine blk_alloc ?_ _)); exact BK344.out) hb); have n3_ := Aside0.mk (below_step (by repeat (first | (with_reducible first | exact HB.out | apply below_alloc | apply pw_below_drewN | apply below_drew1 | refine below_set ?_ GE344.out) | exact HB.out)) hb); clear HO_3; clear BK344; clear HB; have HO_3 := n0_; have HO351 := n1_; have BK344 := n2_; have HB := n3_; clear n0_ n1_ n2_ n3_; (try clear hb); (try clear hb2); (try clear hk); (try clear hi); (try clear ho0)))
           go_loopg [7] k2 (fun kq v7 w' => ∃ (x3_3 : List Bool) (x7_3 : Int), v7 = .int .i64 x7_3 ∧ Aside0 (truantref09_Reached.l2 kq x3_3 x4_1 x5_2 t349 x7_3 a0_0 l0_1 a0_2 l0_3 l0_4 l0_5 = some r) ∧ Aside0 (kq ≤ k2) ∧ Aside0 (Kd.R Kd.bool 4 w' w.heap.size (fun _ => True) (.slice (some ⟨go11, 0, none⟩) x3_2.length co16) x3_3) ∧ Aside0 (Kd.R (Kd.int .i64) 3 w' w.heap.size (fun _ => True) v350 t349) ∧ Aside0 (w'.heap[gb344]? = some (.cells #[.string a0_0, (.slice A0_1 l0_1.length c0_1), .string a0_2, (.slice A0_3 l0_3.length c0_3), (.slice A0_4 l0_4.length c0_4), (.slice A0_5 l0_5.length c0_5)] 26 (0, 0))) ∧ Aside0 (Below w.heap.size w w'))
           case atStart => exact ⟨(x3_2), (0), (by first | rfl | (simp; done) | (simp [*]; done)), H', ⟨Nat.le_refl _⟩, ⟨by (try simp only [hl3_1]); (try simp only [hl3_2]); (with_reducible repeat (first | apply Kd.R_alloc | apply Kd.R_drewN | apply Kd.R_drew)); exact HO_3.out⟩, ⟨by (try simp only [hl3_1]); (try simp only [hl3_2]); (with_reducible repeat (first | apply Kd.R_alloc | apply Kd.R_drewN | apply Kd.R_drew)); exact HO351.out⟩, ⟨by (try simp only [hl3_1]); (try simp only [hl3_2]); (with_reducible repeat (first | refine blk_drewN ?_ _ | refine blk_drew ?_ | refine blk_alloc ?_ _)); exact BK344.out⟩, ⟨by repeat (first | (with_reducible first | exact HB.out | apply below_alloc | apply pw_below_drewN | apply below_drew1 | refine below_set ?_ GE344.out) | exact HB.out)⟩⟩
           case round =>
            clear H'
            try clear c1
            try clear p1
            try clear q1
            try clear hx1
            try clear qi1
            try clear hf1
            try clear c2
            try clear c2b0
            try clear c2b1
            try clear p2
            try clear c3
            try clear c3b0
            try clear c3b1
            try clear c4
            try clear c4b0
            try clear c4b1
            try clear c4b2
            try clear c10
            try clear c10b0
            try clear c10b1
            try clear p11
            try clear q11
            try clear hx11
            try clear qi11
            try clear hf11
            try clear c18
            try clear c19
            try clear c19b0
            try clear c20
            try clear c20b0
            try clear c21
            try clear hcz13_0
            try clear hcz13_1
            try clear hcz13_2
            try clear hcz13_3
            try clear hcz13_4
            try clear hcz13_5
            try clear hcz22_0
            try clear hcz22_1
            try clear hcz22_2
            try clear hcz22_3
            try clear hcz22_4
            try clear hcz22_5
            try clear hcz6_0
            try clear hcz6_1
            try clear hcz6_2
            try clear hcz6_3
            try clear hcz6_4
            try clear hcz6_5
            try clear hfz13_0
            try clear hfz13_1
            try clear hfz13_2
            try clear hfz13_3
            try clear hfz13_4
            try clear hfz13_5
            try clear hfz22_0
            try clear hfz22_1
            try clear hfz22_2
            try clear hfz22_3
            try clear hfz22_4
            try clear hfz22_5
            try clear hfz6_0
            try clear hfz6_1
            try clear hfz6_2
            try clear hfz6_3
            try clear hfz6_4
            try clear hfz6_5
            try clear hx11_0
            try clear p1
            try clear p11
            try clear p2
            try clear q1
            try clear q11
            obtain ⟨x3_3, x7_3, rfl, HA, HK3, HO_3, HO_6, BK344, HB⟩ := hrel
            have hl3_3 := (Kd.R_reads' HO_3.out).1
            rw [hl3_3] at HO_3
            (try simp only [hl3_3])
            (try simp only [hl3_3] at BK344)
            (try simp only [hl3_3] at HO_6)
            cases gk with
            | zero => exact absurd HA.out (by simp [truantref09_Reached.l2])
            | succ k3 =>
             have H := HA.out
             clear HA
             simp only [truantref09_Reached.l2] at H
             by_cases c24 : 0 ≤ x5_2
             ·rw [if_pos c24] at H
              have c24b0 : decide (0 ≤ x5_2) = true := decide_eq_true c24
              clear c24
              by_cases c25 : x5_2 < (x3_3.length : Int)
              ·rw [if_pos c25] at H
               have c25b0 : decide (x5_2 < (x3_3.length : Int)) = true := decide_eq_true c25
               clear c25
               obtain ⟨bq26, hbq26⟩ : ∃ b_ : Bool, b_ = (rdOf false x3_3 x5_2) := ⟨_, rfl⟩
               replace H : (if bq26 = true then (if x7_3 < (t349.length : Int) then (if 0 ≤ x7_3 then (if 0 ≤ (rd t349 x7_3) then (if (rd t349 x7_3) < (x3_3.length : Int) then (truantref09_Reached.l2 k3 (x3_3.set ((rd t349 x7_3) : Int).toNat true) x4_1 x5_2 t349 (wrap64 (x7_3 + 1)) a0_0 l0_1 a0_2 l0_3 l0_4 l0_5) else (none)) else (none)) else (none)) else (truantref09_Reached.l1 k3 x3_3 x4_1 (wrap64 (x5_2 + 1)) a0_0 l0_1 a0_2 l0_3 l0_4 l0_5)) else (truantref09_Reached.l1 k3 x3_3 x4_1 (wrap64 (x5_2 + 1)) a0_0 l0_1 a0_2 l0_3 l0_4 l0_5)) = some r := by rw [← hbq26] at H; exact H
               have Nbq26 := Aside0.mk hbq26
               clear hbq26
               by_cases c27 : bq26 = true
               ·subst c27
                have H1 : (if x7_3 < (t349.length : Int) then (if 0 ≤ x7_3 then (if 0 ≤ (rd t349 x7_3) then (if (rd t349 x7_3) < (x3_3.length : Int) then (truantref09_Reached.l2 k3 (x3_3.set ((rd t349 x7_3) : Int).toNat true) x4_1 x5_2 t349 (wrap64 (x7_3 + 1)) a0_0 l0_1 a0_2 l0_3 l0_4 l0_5) else (none)) else (none)) else (none)) else (truantref09_Reached.l1 k3 x3_3 x4_1 (wrap64 (x5_2 + 1)) a0_0 l0_1 a0_2 l0_3 l0_4 l0_5)) = some r := by rw [if_pos rfl] at H; exact H
                clear H
                have H := H1
                clear H1
                by_cases c28 : x7_3 < (t349.length : Int)
                ·rw [if_pos c28] at H
                 have c28b0 : decide (x7_3 < (t349.length : Int)) = true := decide_eq_true c28
                 clear c28
                 by_cases c29 : 0 ≤ x7_3
                 ·rw [if_pos c29] at H
                  have c29b0 : decide (0 ≤ x7_3) = true := decide_eq_true c29
                  clear c29
                  by_cases c30 : 0 ≤ (rd t349 x7_3)
                  ·rw [if_pos c30] at H
                   have c30b0 : decide (0 ≤ (rd t349 x7_3)) = true := decide_eq_true c30
                   clear c30
                   by_cases c31 : (rd t349 x7_3) < (x3_3.length : Int)
                   ·rw [if_pos c31] at H
                    have c31b0 : decide ((rd t349 x7_3) < (x3_3.length : Int)) = true := decide_eq_true c31
                    clear c31
                    obtain ⟨y354, hy354⟩ : ∃ y_ : List Bool, y_ = (x3_3.set ((rd t349 x7_3) : Int).toNat true) := ⟨_, rfl⟩
                    replace H : (truantref09_Reached.l2 k3 y354 x4_1 x5_2 t349 (wrap64 (x7_3 + 1)) a0_0 l0_1 a0_2 l0_3 l0_4 l0_5) = some r := by first | (rw [hy354]; with_reducible exact H) | (have H2_ := (Option.bind_some _ _).symm.trans H; rw [hy354]; with_reducible exact H2_) | (have H2_ := (Option.bind_some _ _).symm.trans H; with_reducible exact H2_) | with_reducible exact H | (rw [hy354]; exact H) | exact H
                    have Ny354 := Aside0.mk hy354
                    clear hy354
                    have H' := Aside0.mk H
                    clear H
                    have p352 : 0 ≤ (x5_2 : Int) := of_decide_eq_true (by first | (with_reducible assumption) | assumption)
                    have q352 : x5_2 < (x3_3.length : Int) := of_decide_eq_true (by first | (with_reducible assumption) | assumption)
                    obtain ⟨ad352, e352, hx352_0⟩ := Kd.at_bool (Kd.R_reads' HO_3.out).2.2 x5_2 p352 q352
                    (try rw [← Nbq26.out] at hx352_0)
                    obtain rfl : (⟨go11, 0, none⟩ : Addr) = ad352 := (by injection e352)
                    (first | simp only [add_plain] at hx352_0 | simp only [add_at] at hx352_0 | simp only [Addr.add, Nat.zero_add] at hx352_0 | skip)
                    replace p352 := eq_true p352
                    replace q352 := eq_true q352
                    obtain ⟨Ao33, co33, eo33⟩ := Kd.R_slice HO_6.out
                    subst eo33
                    have p353 : 0 ≤ (x7_3 : Int) := of_decide_eq_true (by first | (with_reducible assumption) | assumption)
                    have q353 : x7_3 < (t349.length : Int) := of_decide_eq_true (by first | (with_reducible assumption) | assumption)
                    obtain ⟨ad353, e353, hx353_0⟩ := Kd.at_int (Kd.R_reads' HO_6.out).2.2 x7_3 p353 q353
                    cases e353
                    replace p353 := eq_true p353
                    replace q353 := eq_true q353
                    have p32 : 0 ≤ ((rd t349 x7_3) : Int) := of_decide_eq_true (by first | (with_reducible assumption) | assumption)
                    have q32 : ((rd t349 x7_3) : Int) < ((x3_3.length : Int) : Int) := of_decide_eq_true (by first | (with_reducible assumption) | assumption)
                    obtain ⟨hx32_0, hf32_0⟩ := Kd.R_celln false HO_3.out ((rd t349 x7_3) : Int) p32 q32
                    replace p32 := eq_true p32
                    replace q32 := eq_true q32
                    have HP34 := Kd.R_putg HO_3.out ((rd t349 x7_3) : Int) true
                    go_wp2_with (first | ((with_reducible refine gate_store (t := 4) (p := 50) rfl ?_); refine store_event (t := 4) (p := 50) (v := ?vo_w35) (w1 := (wr.setCell ⟨go11, ((rd t349 x7_3) : Int).toNat, none⟩ (.bool true))) ?hg ?ho ?hn ?hr ?_; (case ho => rfl); (case hg => rfl); (case hn => rfl); (case hr => first | (go_simp; done) | (go_simp; rfl)); intro w35 hw; have hg : wr.grownBy w35 (some go11) := (by rw [hw]; exact HP34.2); have hp_ : Kd.R Kd.bool 4 w35 w.heap.size (fun _ => True) (.slice (some ⟨go11, 0, none⟩) x3_3.length co16) y354 := (by rw [hw, Ny354.out]; exact HP34.1); clear HP34; have n0_ := Aside0.mk (hp_); have n1_ := Aside0.mk (Kd.R_over' (v := (.slice (some ⟨go11, 0, none⟩) x3_3.length co16)) (by (with_reducible repeat (first | apply Kd.R_alloc | apply Kd.R_drewN | apply Kd.R_drew)); exact HO_6.out) (Kd.R_typed HO_3.out) (by decide) hg); have n2_ := Aside0.mk (blk_grown (g := gb344) (o := .cells #[.string a0_0, .slice A0_1 l0_1.length c0_1, .string a0_2, .slice A0_3 l0_3.length c0_3, .slice A0_4 l0_4.length c0_4, .slice A0_5 l0_5.length c0_5] 26 (0, 0)) (by (with_reducible repeat (first | refine blk_drewN ?_ _ | refine blk_drew ?_ | refine blk_alloc ?_ _)); exact BK344.out) hg (Kd.R_ne HO_3.out BK344.out (by decide))); have n3_ := Aside0.mk ((by rw [hw]; exact below_set (HB.out) GB11.out : Below w.heap.size w w35)); clear HO_3; clear HO_6; clear BK344; clear HB; have HO_3 := n0_; have HO_6 := n1_; have BK344 := n2_; have HB := n3_; clear n0_ n1_ n2_ n3_; clear hg hw hp_))
                    (try simp only [← hl3_3])
                    go_roundg k3
                    case measure => have := HK1.out; have := HK2.out; have := HK3.out; omega
                    case rel => exact ⟨(y354), (wrap64 (x7_3 + 1)), (by first | rfl | (simp; done) | (simp [*]; done)), H', ⟨by have := HK1.out; have := HK2.out; have := HK3.out; omega⟩, ⟨by (try simp only [hl3_1]); (try simp only [hl3_2]); (try simp only [hl3_3]); (with_reducible repeat (first | apply Kd.R_alloc | apply Kd.R_drewN | apply Kd.R_drew)); exact HO_3.out⟩, ⟨by (try simp only [hl3_1]); (try simp only [hl3_2]); (try simp only [hl3_3]); (with_reducible repeat (first | apply Kd.R_alloc | apply Kd.R_drewN | apply Kd.R_drew)); exact HO_6.out⟩, ⟨by (try simp only [hl3_1]); (try simp only [hl3_2]); (try simp only [hl3_3]); (with_reducible repeat (first | refine blk_drewN ?_ _ | refine blk_drew ?_ | refine blk_alloc ?_ _)); exact BK344.out⟩, ⟨by repeat (first | (with_reducible first | exact HB.out | apply below_alloc | apply pw_below_drewN | apply below_drew1 | refine below_set ?_ GE344.out) | exact HB.out)⟩⟩
                   ·rw [if_neg c31] at H
                    exact absurd H (by simp)
                  ·rw [if_neg c30] at H
                   exact absurd H (by simp)
                 ·rw [if_neg c29] at H
                  exact absurd H (by simp)
                ·rw [if_neg c28] at H
                 have c28b0 : decide (x7_3 < (t349.length : Int)) = false := decide_eq_false c28
                 clear c28
                 have H' := Aside0.mk H
                 clear H
                 have p352 : 0 ≤ (x5_2 : Int) := of_decide_eq_true (by first | (with_reducible assumption) | assumption)
                 have q352 : x5_2 < (x3_3.length : Int) := of_decide_eq_true (by first | (with_reducible assumption) | assumption)
                 obtain ⟨ad352, e352, hx352_0⟩ := Kd.at_bool (Kd.R_reads' HO_3.out).2.2 x5_2 p352 q352
                 (try rw [← Nbq26.out] at hx352_0)
                 obtain rfl : (⟨go11, 0, none⟩ : Addr) = ad352 := (by injection e352)
                 (first | simp only [add_plain] at hx352_0 | simp only [add_at] at hx352_0 | simp only [Addr.add, Nat.zero_add] at hx352_0 | skip)
                 replace p352 := eq_true p352
                 replace q352 := eq_true q352
                 obtain ⟨Ao36, co36, eo36⟩ := Kd.R_slice HO_6.out
                 subst eo36
                 go_wp2
                 (try simp only [← hl3_2, ← hl3_3])
                 go_roundg k3
                 case measure => have := HK1.out; have := HK2.out; have := HK3.out; omega
                 case rel => exact ⟨(x3_3), (wrap64 (x5_2 + 1)), (by first | rfl | (simp; done) | (simp [*]; done)), H', ⟨by have := HK1.out; have := HK2.out; have := HK3.out; omega⟩, ⟨by (try simp only [hl3_1]); (try simp only [hl3_2]); (try simp only [hl3_3]); (with_reducible repeat (first | apply Kd.R_alloc | apply Kd.R_drewN | apply Kd.R_drew)); exact HO_3.out⟩, ⟨by (try simp only [hl3_1]); (try simp only [hl3_2]); (try simp only [hl3_3]); (with_reducible repeat (first | refine blk_drewN ?_ _ | refine blk_drew ?_ | refine blk_alloc ?_ _)); exact BK344.out⟩, ⟨by repeat (first | (with_reducible first | exact HB.out | apply below_alloc | apply pw_below_drewN | apply below_drew1 | refine below_set ?_ GE344.out) | exact HB.out)⟩⟩
               ·replace c27 := Bool.eq_false_iff.mpr c27
                subst c27
                have H1 : (truantref09_Reached.l1 k3 x3_3 x4_1 (wrap64 (x5_2 + 1)) a0_0 l0_1 a0_2 l0_3 l0_4 l0_5) = some r := by rw [if_neg (show ¬ (false = true) by decide)] at H; exact H
                clear H
                have H := H1
                clear H1
                have H' := Aside0.mk H
                clear H
                have p352 : 0 ≤ (x5_2 : Int) := of_decide_eq_true (by first | (with_reducible assumption) | assumption)
                have q352 : x5_2 < (x3_3.length : Int) := of_decide_eq_true (by first | (with_reducible assumption) | assumption)
                obtain ⟨ad352, e352, hx352_0⟩ := Kd.at_bool (Kd.R_reads' HO_3.out).2.2 x5_2 p352 q352
                (try rw [← Nbq26.out] at hx352_0)
                obtain rfl : (⟨go11, 0, none⟩ : Addr) = ad352 := (by injection e352)
                (first | simp only [add_plain] at hx352_0 | simp only [add_at] at hx352_0 | simp only [Addr.add, Nat.zero_add] at hx352_0 | skip)
                replace p352 := eq_true p352
                replace q352 := eq_true q352
                go_wp2
                (try simp only [← hl3_2, ← hl3_3])
                go_roundg k3
                case measure => have := HK1.out; have := HK2.out; have := HK3.out; omega
                case rel => exact ⟨(x3_3), (wrap64 (x5_2 + 1)), (by first | rfl | (simp; done) | (simp [*]; done)), H', ⟨by have := HK1.out; have := HK2.out; have := HK3.out; omega⟩, ⟨by (try simp only [hl3_1]); (try simp only [hl3_2]); (try simp only [hl3_3]); (with_reducible repeat (first | apply Kd.R_alloc | apply Kd.R_drewN | apply Kd.R_drew)); exact HO_3.out⟩, ⟨by (try simp only [hl3_1]); (try simp only [hl3_2]); (try simp only [hl3_3]); (with_reducible repeat (first | refine blk_drewN ?_ _ | refine blk_drew ?_ | refine blk_alloc ?_ _)); exact BK344.out⟩, ⟨by repeat (first | (with_reducible first | exact HB.out | apply below_alloc | apply pw_below_drewN | apply below_drew1 | refine below_set ?_ GE344.out) | exact HB.out)⟩⟩
              ·rw [if_neg c25] at H
               exact absurd H (by simp)
             ·rw [if_neg c24] at H
              exact absurd H (by simp)
          ·rw [if_neg c20] at H
           have c20b0 : decide (x5_2 < (x3_2.length : Int)) = false := decide_eq_false c20
           clear c20
           have H' := Aside0.mk H
           clear H
           go_wp2
           (try simp only [← hl3_1, ← hl3_2])
           go_roundg k2
           case measure => have := HK1.out; have := HK2.out; omega
           case rel => exact ⟨(x3_2), (wrap64 (x4_1 + 1)), (by first | rfl | (simp; done) | (simp [*]; done)), H', ⟨by have := HK1.out; have := HK2.out; omega⟩, ⟨by (try simp only [hl3_1]); (try simp only [hl3_2]); (with_reducible repeat (first | apply Kd.R_alloc | apply Kd.R_drewN | apply Kd.R_drew)); exact HO_3.out⟩, ⟨by (try simp only [hl3_1]); (try simp only [hl3_2]); (with_reducible repeat (first | refine blk_drewN ?_ _ | refine blk_drew ?_ | refine blk_alloc ?_ _)); exact BK344.out⟩, ⟨by repeat (first | (with_reducible first | exact HB.out | apply below_alloc | apply pw_below_drewN | apply below_drew1 | refine below_set ?_ GE344.out) | exact HB.out)⟩⟩
       ·rw [if_neg c19] at H
        have c19b0 : decide (x4_1 < (x3_1.length : Int)) = false := decide_eq_false c19
        clear c19
        obtain rfl := Option.some.inj H
        go_wp2
        go_ret
        exact ⟨_, by first | rfl | (simp [errW_none, errW_some] <;> rfl) | (simp [*, errW_none, errW_some] <;> rfl), by (with_reducible repeat (first | apply Kd.R_alloc | apply Kd.R_drewN | apply Kd.R_drew)); exact HO_3.out, by repeat (first | (with_reducible first | exact HB.out | apply below_alloc | apply pw_below_drewN | apply below_drew1 | refine below_set ?_ GE344.out) | exact HB.out)⟩
    ·rw [if_neg c10] at H
     exact absurd H (by simp)
  ·rw [if_neg c3] at H
   exact absurd H (by simp)
 ·rw [if_neg c2] at H
  exact absurd H (by simp)

end Go.Proofs.Ytclhjalgflebfaa.Q

/- Flow, plain law: what is reached, round by round as by the walk. -/

namespace Go.Proofs.Ytclhjalgflebfaa.Q
open Go.RowKit Go.Proofs.YtclhjalgflebfaaW.PrintWords Go.Proofs.YtclhjalgflebfaaW.PrintLast Go.Proofs.YtclhjalgflebfaaW.PrintMore
set_option linter.unusedVariables false
set_option linter.unusedSimpArgs false
theorem hasR_none (n : Nat) (x : Int) : ¬ hasR (List.replicate n false) x := by
 rintro ⟨h0, h1, h2⟩
 unfold rdOf at h2
 rw [getD_at _ _ (by rw [List.length_replicate] at h1 ⊢; omega)] at h2
 simp at h2
theorem unseen_none (n : Nat) : unseen (List.replicate n false) = n := by simp [unseen]
theorem walk_facts (l : List S40) (hl : l.length < LIMF) (hn : 0 < l.length) : ∃ s e, walkO l = some (s, e ++ [0]) ∧ Adds l (List.replicate l.length false) s [0] (e ++ [0]) ∧ ((nextOf l 0).foldlM (stepO l l.length) ((List.replicate l.length false).set 0 true, [])) = some (s, e) ∧ Adds l ((List.replicate l.length false).set 0 true) s (nextOf l 0) e := by
 obtain ⟨s', e, h1, h2, e', he, h3, h4⟩ := visit_adds l (l.length + 1) 0 (List.replicate l.length false) [] (by simp) (by omega) (by omega) (hasR_none _ _) (by rw [unseen_none]; omega) (by rw [unseen_none]; simpa using hl)
 subst he
 refine ⟨s', e', ?_, h2, ?_, ?_⟩
 ·unfold walkO
  rw [if_pos hl, if_neg (by omega)]
  simpa using h1
 ·simpa using h3
 ·simpa using h4
/-- Whatever holds of 0 and goes on to the next ones holds of all that the walk comes to. -/
theorem led_all {l : List S40} {s s' : List Bool} {xs e : List Int} (h : Adds l s s' xs e) (C : Int → Prop) (hx : ∀ x ∈ xs, C x) (hC : ∀ p, C p → ∀ y ∈ nextOf l p, C y) : ∀ x ∈ e, C x := by
 have key : ∀ (n : Nat) (e1 : List Int) (e2 : List Int), e = e1 ++ e2 → e2.length ≤ n → ∀ x ∈ e2, C x := by
  intro n
  induction n with
  | zero =>
   intro e1 e2 he hl x hm
   obtain rfl := List.eq_nil_of_length_eq_zero (Nat.le_zero.mp hl)
   cases hm
  | succ n ih =>
   intro e1 e2 he hl x hm
   cases e2 with
   | nil => cases hm
   | cons y e2 =>
    have hrest := ih (e1 ++ [y]) e2 (by simp [he]) (by simpa using hl)
    rcases List.mem_cons.mp hm with rfl | hm
    ·rcases h.led e1 x e2 he with hq | ⟨p, hp, hq⟩
     ·exact hx x hq
     ·exact hC p (hrest p hp) x hq
    ·exact hrest x hm
 exact key e.length [] e (by simp) (Nat.le_refl _)
/-- Marked: those of ys. -/
def markAll (r : List Bool) (ys : List Int) : List Bool := ys.foldl (fun r y => r.set y.toNat true) r
theorem mark_len : ∀ (ys : List Int) (r : List Bool), (markAll r ys).length = r.length
 | [], r => rfl
 | y :: ys, r => by show (markAll (r.set y.toNat true) ys).length = _; rw [mark_len ys, List.length_set]
theorem mark_has : ∀ (ys : List Int) (r : List Bool), (∀ y ∈ ys, 0 ≤ y ∧ y < (r.length : Int)) → ∀ x, hasR (markAll r ys) x ↔ hasR r x ∨ x ∈ ys
 | [], r, h, x => by simp [markAll]
 | y :: ys, r, h, x => by
  have hy := h y List.mem_cons_self
  show hasR (markAll (r.set y.toNat true) ys) x ↔ _
  rw [mark_has ys (r.set y.toNat true) (fun z hz => by rw [List.length_set]; exact h z (List.mem_cons_of_mem _ hz)) x, hasR_set hy.1 hy.2, List.mem_cons, or_assoc]
/-- One round, over the first n blocks. -/
def roundTo (l : List S40) (r : List Bool) : Nat → List Bool
 | 0 => r
 | n + 1 => let r1 := roundTo l r n; if r1.getD n false = true then markAll r1 (nextOf l n) else r1
theorem round_len (l : List S40) (r : List Bool) : ∀ n, (roundTo l r n).length = r.length
 | 0 => rfl
 | n + 1 => by
  unfold roundTo
  simp only
  split
  ·rw [mark_len, round_len l r n]
  ·exact round_len l r n
theorem round_grows (l : List S40) (r : List Bool) (hr : r.length = l.length) : ∀ n, ∀ x, hasR r x → hasR (roundTo l r n) x
 | 0, x, h => h
 | n + 1, x, h => by
  have h1 := round_grows l r hr n x h
  unfold roundTo
  simp only
  split
  ·exact (mark_has _ _ (fun y hy => by rw [round_len, hr]; exact next_in hy) x).mpr (.inl h1)
  ·exact h1
theorem hasR_at {r : List Bool} {n : Nat} (h : r.getD n false = true) : hasR r n := by
 have hn : n < r.length := by
  rcases Nat.lt_or_ge n r.length with h1 | h1
  ·exact h1
  ·simp [List.getD, List.getElem?_eq_none h1] at h
 exact ⟨by omega, by omega, by rw [rdOf_nat]; exact h⟩
theorem round_goes (l : List S40) (r : List Bool) (hr : r.length = l.length) : ∀ n : Nat, ∀ m : Nat, m < n → hasR r m → ∀ y ∈ nextOf l m, hasR (roundTo l r n) y
 | n + 1, m, hm, h, y, hy => by
  by_cases he : m = n
  ·subst he
   have h1 := round_grows l r hr m m h
   unfold roundTo
   simp only
   rw [if_pos (by have := h1.2.2; rwa [rdOf_nat] at this)]
   exact (mark_has _ _ (fun y hy => by rw [round_len, hr]; exact next_in hy) y).mpr (.inr hy)
  ·have h1 := round_goes l r hr n m (by omega) h y hy
   unfold roundTo
   simp only
   split
   ·exact (mark_has _ _ (fun y hy => by rw [round_len, hr]; exact next_in hy) y).mpr (.inl h1)
   ·exact h1
theorem round_least (l : List S40) (r : List Bool) (hr : r.length = l.length) (C : Int → Prop) (h : ∀ x, hasR r x → C x) (hC : ∀ p, C p → ∀ y ∈ nextOf l p, C y) : ∀ n, ∀ x, hasR (roundTo l r n) x → C x
 | 0, x, hx => h x hx
 | n + 1, x, hx => by
  unfold roundTo at hx
  simp only at hx
  split at hx
  ·rename_i hq
   rcases (mark_has _ _ (fun y hy => by rw [round_len, hr]; exact next_in hy) x).mp hx with h1 | h1
   ·exact round_least l r hr C h hC n x h1
   ·exact hC n (round_least l r hr C h hC n n (hasR_at hq)) x h1
  ·exact round_least l r hr C h hC n x hx
theorem same_has {r r' : List Bool} (hl : r.length = r'.length) (h : ∀ x, hasR r x ↔ hasR r' x) : r = r' := by
 refine lists_eq false hl (fun j hj => ?_)
 have hj' : j < r'.length := by omega
 cases h1 : r.getD j false with
 | true =>
  have := ((h j).mp (hasR_at h1)).2.2
  rw [rdOf_nat] at this
  exact this.symm
 | false =>
  cases h2 : r'.getD j false with
  | false => rfl
  | true =>
   have := ((h j).mpr (hasR_at h2)).2.2
   rw [rdOf_nat, h1] at this
   exact this
theorem unseen_le : ∀ {r r' : List Bool}, r.length = r'.length → (∀ j, r.getD j false = true → r'.getD j false = true) → unseen r' ≤ unseen r ∧ (unseen r' = unseen r → r' = r)
 | [], [], _, _ => ⟨Nat.le_refl _, fun _ => rfl⟩
 | a :: r, b :: r', hl, h => by
  obtain ⟨h1, h2⟩ := unseen_le (r := r) (r' := r') (by simpa using hl) (fun j hj => by simpa using h (j + 1) (by simpa using hj))
  have h0 : a = true → b = true := fun ha => by simpa using h 0 (by simpa using ha)
  cases a <;> cases b <;> simp_all [unseen] <;> omega
 | [], b :: r', hl, _ => by simp at hl
 | a :: r, [], hl, _ => by simp at hl
def closedR (l : List S40) (r : List Bool) : Prop := ∀ x, hasR r x → ∀ y ∈ nextOf l x, hasR r y
theorem next_dom {l : List S40} {x y : Int} (h : y ∈ nextOf l x) : 0 ≤ x ∧ x < (l.length : Int) := by
 unfold nextOf at h
 split at h
 ·assumption
 ·cases h
theorem round_step (l : List S40) (r : List Bool) (hr : r.length = l.length) : (closedR l r ∧ roundTo l r l.length = r) ∨ unseen (roundTo l r l.length) + 1 ≤ unseen r := by
 have hg := round_grows l r hr l.length
 obtain ⟨h1, h2⟩ := unseen_le (r := r) (r' := roundTo l r l.length) (round_len l r _).symm (fun j hj => by have := (hg j (hasR_at hj)).2.2; rwa [rdOf_nat] at this)
 by_cases he : unseen (roundTo l r l.length) = unseen r
 ·left
  have h3 := h2 he
  refine ⟨fun x hx y hy => ?_, h3⟩
  have hd := next_dom hy
  obtain ⟨m, rfl, hm, _⟩ := hasR_nat hx
  have := round_goes l r hr l.length m (by omega) hx y hy
  rwa [h3] at this
 ·right
  omega
section
variable (a0 : ByteArray) (l1 : List ByteArray) (a2 : ByteArray) (l3 : List ByteArray) (l4 : List S58) (l : List S40) (hl : l.length ≤ 1099511627776)
include hl
theorem ref_l2 (r : List Bool) (hr : r.length = l.length) (c : Nat) (n : Nat) (hn : n < l.length) (q : List Bool) (hq : ∀ r', (if r.getD n false = true then markAll r (nextOf l n) else r) = r' → Ev (fun k => truantref09_Reached.l1 k r' (c : Int) ((n + 1 : Nat) : Int) a0 l1 a2 l3 l4 l) q) :
  Ev (fun k => truantref09_Reached.l2 k r (c : Int) (n : Int) (nextOf l n) 0 a0 l1 a2 l3 l4 l) q := by
 by_cases ht : r.getD n false = true
 ·rw [if_pos ht] at hq
  have key : ∀ (d j : Nat) (r1 : List Bool), (nextOf l n).length - j = d → j ≤ (nextOf l n).length → r1.length = l.length → hasR r1 n → markAll r1 ((nextOf l n).drop j) = markAll r (nextOf l n) → Ev (fun k => truantref09_Reached.l2 k r1 (c : Int) (n : Int) (nextOf l n) (j : Int) a0 l1 a2 l3 l4 l) q := by
   intro d
   induction d with
   | zero =>
    intro j r1 hd hj h1 h2 h3
    rw [List.drop_of_length_le (by omega)] at h3
    refine Ev.step (fun k => rfl) (Ev.pos (by omega) (Ev.pos (by omega) (Ev.pos h2.2.2 (Ev.neg (by omega) ?_))))
    rw [wrap_up (n := l.length) hn (by omega)]
    exact hq r1 h3.symm
   | succ d ih =>
    intro j r1 hd hj h1 h2 h3
    have hlt : j < (nextOf l n).length := by omega
    have h5 := next_len l n
    have hrd : rd (nextOf l n) (j : Int) = (nextOf l n)[j] := by unfold rd; rw [Int.toNat_natCast, getD_at _ _ hlt]
    have hin := next_in (List.getElem_mem hlt)
    refine Ev.step (fun k => rfl) (Ev.pos (by omega) (Ev.pos (by omega) (Ev.pos h2.2.2 (Ev.pos (by omega) (Ev.pos (by omega) ?_)))))
    rw [hrd, wrap_up (n := (nextOf l n).length) hlt (by omega)]
    refine Ev.pos hin.1 (Ev.pos (by rw [h1]; exact hin.2) ?_)
    refine ih (j + 1) _ (by omega) (by omega) (by rw [List.length_set]; exact h1) ((hasR_set hin.1 (by rw [h1]; exact hin.2)).mpr (.inl h2)) ?_
    rw [List.drop_eq_getElem_cons hlt] at h3
    exact h3
  exact key _ 0 r rfl (Nat.zero_le _) hr (hasR_at ht) (by simp)
 ·rw [if_neg ht] at hq
  refine Ev.step (fun k => rfl) (Ev.pos (by omega) (Ev.pos (by omega) (Ev.neg (by rw [rdOf_nat]; exact ht) ?_)))
  rw [wrap_up (n := l.length) hn (by omega)]
  exact hq r rfl
theorem ref_l1 (r : List Bool) (hr : r.length = l.length) (c : Nat) (hc : c < l.length) (q : List Bool) (hq : Ev (fun k => truantref09_Reached.l0 k (roundTo l r l.length) ((c + 1 : Nat) : Int) a0 l1 a2 l3 l4 l) q) :
  Ev (fun k => truantref09_Reached.l1 k r (c : Int) 0 a0 l1 a2 l3 l4 l) q := by
 have key : ∀ (d n : Nat), l.length - n = d → n ≤ l.length → Ev (fun k => truantref09_Reached.l1 k (roundTo l r n) (c : Int) (n : Int) a0 l1 a2 l3 l4 l) q := by
  intro d
  induction d with
  | zero =>
   intro n hd hn
   have e : n = l.length := by omega
   subst e
   have hlen := round_len l r l.length
   refine Ev.step (fun k => rfl) (Ev.neg (by omega) ?_)
   rw [wrap_up (n := l.length) hc (by omega)]
   exact hq
  | succ d ih =>
   intro n hd hn
   have hlen := round_len l r n
   refine Ev.step (fun k => rfl) (Ev.pos (by omega) (Ev.bind (refNext a0 l1 a2 l3 l4 l n) ?_))
   refine ref_l2 a0 l1 a2 l3 l4 l hl _ (by omega) c n (by omega) q (fun r' he => ?_)
   have := ih (n + 1) (by omega) (by omega)
   rw [show roundTo l r (n + 1) = r' from he] at this
   exact this
 exact key _ 0 rfl (Nat.zero_le _)
theorem ref_l0 (C : Int → Prop) (hC : ∀ p, C p → ∀ y ∈ nextOf l p, C y) : ∀ (d c : Nat) (r : List Bool), l.length - c = d → c ≤ l.length → r.length = l.length → (∀ x, hasR r x → C x) → hasR r 0 → (closedR l r ∨ unseen r + c + 1 ≤ l.length) →
  ∃ q, Ev (fun k => truantref09_Reached.l0 k r (c : Int) a0 l1 a2 l3 l4 l) q ∧ q.length = l.length ∧ hasR q 0 ∧ closedR l q ∧ ∀ x, hasR q x → C x := by
 intro d
 induction d with
 | zero =>
  intro c r hd hc hr h1 h2 h3
  refine ⟨r, Ev.step (fun k => rfl) (Ev.neg (by omega) (Ev.now _)), hr, h2, ?_, h1⟩
  rcases h3 with h3 | h3
  ·exact h3
  ·omega
 | succ d ih =>
  intro c r hd hc hr h1 h2 h3
  obtain ⟨q, hq, hq2⟩ := ih (c + 1) (roundTo l r l.length) (by omega) (by omega) (by rw [round_len]; exact hr) (round_least l r hr C h1 hC _) (round_grows l r hr _ 0 h2) (by
   rcases round_step l r hr with ⟨q1, q2⟩ | q1
   ·rw [q2]; exact .inl q1
   ·rcases h3 with h3 | h3
    ·left
     have : roundTo l r l.length = r := same_has (round_len l r _) (fun x => ⟨fun h => round_least l r hr (hasR r) (fun _ h => h) h3 _ x h, fun h => round_grows l r hr _ x h⟩)
     rw [this]; exact h3
    ·right; omega)
  exact ⟨q, Ev.step (fun k => rfl) (Ev.pos (by omega) (ref_l1 a0 l1 a2 l3 l4 l hl r hr c (by omega) q hq)), hq2⟩
theorem reached_same (hn : 0 < l.length) (s : List Bool) (e : List Int) (h : Adds l (List.replicate l.length false) s [0] (e ++ [0])) : Ev (fun k => truantref09_Reached.f k a0 l1 a2 l3 l4 l) s := by
 have hm : ∀ x, hasR s x ↔ x ∈ e ++ [0] := fun x => by rw [h.mem]; exact ⟨fun h => h.resolve_left (hasR_none _ _), .inr⟩
 have hs : s.length = l.length := by rw [h.len, List.length_replicate]
 have hcl : closedR l s := fun x hx y hy => h.goes x ((hm x).mp hx) y hy
 obtain ⟨q, hq, hq1, hq2, hq3, hq4⟩ := ref_l0 a0 l1 a2 l3 l4 l hl (hasR s) hcl l.length 0 ((List.replicate l.length false).set 0 true) (by omega) (Nat.zero_le _) (by simp)
  (fun x hx => by
   rcases (hasR_set (b := 0) (by omega) (by simpa using hn)).mp hx with h1 | rfl
   ·exact absurd h1 (hasR_none _ _)
   ·exact (hm 0).mpr (by simp)) ((hasR_set (b := 0) (by omega) (by simpa using hn)).mpr (.inr rfl)) (.inr (by
   have := unseen_set (s := List.replicate l.length false) (m := 0) (by simpa using hn) (by rw [getD_at _ _ (by simpa using hn)]; simp)
   rw [unseen_none] at this
   omega))
 have he : q = s := same_has (hq1.trans hs.symm) (fun x => ⟨hq4 x, fun hx => led_all h (hasR q) (fun y hy => by rw [List.mem_singleton] at hy; subst hy; exact hq2) hq3 x ((hm x).mp hx)⟩)
 subst he
 unfold truantref09_Reached.f
 refine Ev.pos (by omega) (Ev.pos (by omega) ?_)
 rw [Int.toNat_natCast]
 refine Ev.neg (by rw [List.length_replicate]; omega) (Ev.pos (by rw [List.length_replicate]; omega) ?_)
 exact hq
end
end Go.Proofs.Ytclhjalgflebfaa.Q

/- The document's Is: a row of rows of Bools, written by element, and a copy of the blocks with one jump turned; by hand. -/
namespace Go.Proofs.Ytclhjalgflebfaa.Q
open Go.RowKit Go.Proofs.YtclhjalgflebfaaW.PrintWords Go.Proofs.YtclhjalgflebfaaW.PrintLast Go.Proofs.YtclhjalgflebfaaW.PrintMore
set_option linter.unusedVariables false
set_option linter.unusedSimpArgs false
/-- Who is reached, as the document tells it. -/
noncomputable def reachL (l : List S40) : List Bool := ((walkO l).map (·.1)).getD []
theorem ref_reach (a0 : ByteArray) (l1 : List ByteArray) (a2 : ByteArray) (l3 : List ByteArray) (l4 : List S58) (l : List S40) (hl : l.length ≤ 1000000) : (∃ k, truantref09_Reached.f k a0 l1 a2 l3 l4 l = some (reachL l)) ∧ (reachL l).length = l.length := by
 by_cases hn : 0 < l.length
 ·obtain ⟨s, e, h1, h2, h3, h4⟩ := walk_facts l (by unfold LIMF; omega) hn
  have e1 : reachL l = s := by unfold reachL; rw [h1]; rfl
  have h5 := reached_same a0 l1 a2 l3 l4 l (by omega) hn s e h2
  rw [e1]
  exact ⟨h5.rounds, by rw [h2.len, List.length_replicate]⟩
 ·obtain rfl : l = [] := List.eq_nil_of_length_eq_zero (by omega)
  exact ⟨⟨1, rfl⟩, rfl⟩
/-- Block a leads nowhere. -/
def noJ (l : List S40) (a : Nat) : List S40 := l.set a { rd_T40 l (a : Int) with f1 := 3 }
theorem noJ_len (l : List S40) (a : Nat) : (noJ l a).length = l.length := by unfold noJ; rw [List.length_set]
noncomputable def cellI (l : List S40) (a b : Nat) : Bool := (reachL l).getD b false && (decide (a = b) || decide (a = 0) || !(reachL (noJ l a)).getD b false)
noncomputable def rowI (l : List S40) (a : Nat) : List Bool := if (reachL l).getD a false = true then (List.range l.length).map (cellI l a) else List.replicate l.length false
noncomputable def truantref10_Is.f (a0_0 : ByteArray) (l0_1 : List ByteArray) (a0_2 : ByteArray) (l0_3 : List ByteArray) (l0_4 : List (S58)) (l0_5 : List (S40)) : Option (List (List Bool)) := if l0_5.length ≤ 1000000 then some ((List.range l0_5.length).map (rowI l0_5)) else none
theorem info_rowB : (Try.prog.info? 31).map (fun i => (i.zero, i.size, i.bytes)) = some (some (.slice none 0 0), 1, 24) := by kernel_rfl
theorem heapBlk : Kd.Heap k40 := Kd.heap_iso _ (Kd.heap_pair (Kd.heap_slice 3 (Kd.heap_int .i64)) (Kd.heap_pair (Kd.heap_int .i64) (Kd.heap_pair (Kd.heap_int .i64) (Kd.heap_iso _ (Kd.heap_pair (Kd.heap_int .i64) (Kd.heap_int .i64))))))
def rowB (xs : List (List Bool)) (i : Int) : List Bool := xs.getD i.toNat []
section
variable {W : World} {base go n cap e e2 : Nat} {ok : Nat → Prop} {xs : List (List Bool)}
/-- Element i, lent. -/
theorem lendB (h : Kd.S (Kd.slice e Kd.bool) e2 W base ok (.slice (some ⟨go, 0, none⟩) n cap) xs) (i : Int) (h0 : 0 ≤ i) (h1 : i < n) :
  ∃ (oki : Nat → Prop) (A : Option Addr) (c : Nat), W.cell? ⟨go, i.toNat, none⟩ = some (.slice A (rowB xs i).length c) ∧ W.frozen? ⟨go, i.toNat, none⟩ = false ∧ Kd.bool.R e W base oki (.slice A (rowB xs i).length c) (rowB xs i) ∧ (∀ k, oki k → ok k ∧ k ≠ go) ∧ Kd.H (Kd.slice e Kd.bool) e2 W base ok (.slice (some ⟨go, 0, none⟩) n cap) xs i oki [.slice A (rowB xs i).length c] := by
 have es : i.toNat * (Kd.slice e Kd.bool).sz = i.toNat := Nat.mul_one _
 obtain ⟨oki, cs, hcl, ⟨v, rfl, hR⟩, hcc, hfr, hoki, hH⟩ := Kd.S_elem h [] i h0 h1
 obtain ⟨A, c, rfl⟩ := Kd.R_slice hR
 have hcell := hcc 0 _ rfl
 have hf := hfr 0
 rw [Nat.add_zero, es] at hcell hf
 exact ⟨oki, A, c, hcell, hf, hR, hoki, hH⟩
/-- A new row in element i's place. -/
theorem newB {oki : Nat → Prop} {A : Option Addr} {i : Int} {c : Nat} {W1 : World} (hH : Kd.H (Kd.slice e Kd.bool) e2 W base ok (.slice (some ⟨go, 0, none⟩) n cap) xs i oki [.slice A (rowB xs i).length c]) (h0 : 0 ≤ i) (h1 : i < n) (hg : W.grownBy W1 none) {A1 : Option Addr} {c1 : Nat} {ys : List Bool} (hok : ∀ k, W.heap.size ≤ k → ok k)
  (hR1 : Kd.bool.R e W1 base (fun k => W.heap.size ≤ k) (.slice A1 ys.length c1) ys) :
  Kd.S (Kd.slice e Kd.bool) e2 (W1.setCell ⟨go, i.toNat, none⟩ (.slice A1 ys.length c1)) base ok (.slice (some ⟨go, 0, none⟩) n cap) (xs.set i.toNat ys) ∧ W1.grownBy (W1.setCell ⟨go, i.toNat, none⟩ (.slice A1 ys.length c1)) (some go) ∧
   W1.cell? ⟨go, i.toNat, none⟩ = some (.slice A (rowB xs i).length c) ∧ W1.frozen? ⟨go, i.toNat, none⟩ = false := by
 have es : i.toNat * (Kd.slice e Kd.bool).sz = i.toNat := Nat.mul_one _
 have hH1 := Kd.H_grown (Kd.H_widen hH) hg (fun k hk => by cases hk)
 obtain ⟨hca, hfa⟩ := Kd.H_at hH1 h0 h1
 have hx := hca 0 _ rfl
 have hf := hfa 0
 rw [Nat.add_zero, es] at hx hf
 have hP := Kd.S_seg0 hH1 h0 h1 (seg := [.slice A1 ys.length c1]) (j := 0) (show 1 ≤ 1 from by decide) (x' := ys) (Kd.M_row hR1) (fun k hk => .inr ⟨hok k hk, hk⟩)
 rw [Nat.add_zero, es] at hP
 exact ⟨hP.1, hP.2, hx, hf⟩
/-- One element of a row of rows is written. -/
theorem bitB {m : Nat} (h : Kd.S (Kd.slice e Kd.bool) e2 W base ok (.slice (some ⟨go, 0, none⟩) n cap) xs) (i j : Int) (hm : (rowB xs i).length = m) (h0 : 0 ≤ i) (h1 : i < n) (j0 : 0 ≤ j) (j1 : j < m) :
  ∃ (r c : Nat), W.cell? ⟨go, i.toNat, none⟩ = some (.slice (some ⟨r, 0, none⟩) m c) ∧ W.cell? ⟨r, j.toNat, none⟩ = some (.bool (rdOf false (rowB xs i) j)) ∧ W.frozen? ⟨r, j.toNat, none⟩ = false ∧ base ≤ r ∧ ok r ∧
   ∀ x : Bool, Kd.S (Kd.slice e Kd.bool) e2 (W.setCell ⟨r, j.toNat, none⟩ (.bool x)) base ok (.slice (some ⟨go, 0, none⟩) n cap) (xs.set i.toNat ((rowB xs i).set j.toNat x)) ∧ W.grownBy (W.setCell ⟨r, j.toNat, none⟩ (.bool x)) (some r) := by
 have es : i.toNat * (Kd.slice e Kd.bool).sz = i.toNat := Nat.mul_one _
 obtain ⟨oki, cs, hcl, ⟨v, rfl, hR⟩, hcc, hoki, hback⟩ := Kd.S_borrow h [] i h0 h1
 have hR : Kd.bool.R e W base oki v (rowB xs i) := hR
 obtain ⟨r, c, rfl, hbr, hlt, _⟩ := Kd.R_form hR (by omega)
 have hcell := hcc 0 _ rfl
 rw [add_plain, Nat.add_zero, es] at hcell
 obtain ⟨cs2, hcl2, hM2, hcc2, hfr2⟩ := Kd.R_elem hR false j j0 (by omega)
 have ej : j.toNat * Kd.bool.sz = j.toNat := Nat.mul_one _
 have hf := hfr2 0
 rw [Nat.add_zero, ej] at hf
 obtain ⟨ad, ea, hx⟩ := Kd.at_bool (Kd.R_reads' hR).2.2 j j0 (by omega)
 cases ea
 rw [add_plain] at hx
 rw [hm] at hcell
 refine ⟨r, c, hcell, hx, hf, hbr, (hoki r (hR.1 r (by simp [Value.ownBlock]))).1, fun x => ?_⟩
 obtain ⟨q1, q2⟩ := Kd.R_putg hR j x
 refine ⟨hback q2 (fun k hk => ?_) ?_, q2⟩
 ·injection hk with hk
  exact hR.1 k (by rw [← hk]; simp [Value.ownBlock])
 ·exact Kd.M_row q1
end
noncomputable def doneI (l : List S40) (i : Nat) : List (List Bool) := (List.range i).map (rowI l) ++ List.replicate (l.length - i) []
theorem doneI_len (l : List S40) {i : Nat} (h : i ≤ l.length) : (doneI l i).length = l.length := by unfold doneI; simp; omega
theorem doneI_all (l : List S40) : doneI l l.length = (List.range l.length).map (rowI l) := by unfold doneI; simp
theorem doneI_set (l : List S40) {i : Nat} (h : i < l.length) : (doneI l i).set i (rowI l i) = doneI l (i + 1) := by
 unfold doneI
 rw [List.set_append_right _ _ (by simp), List.range_succ, List.map_append, List.append_assoc]
 congr 1
 rw [show l.length - i = (l.length - (i + 1)) + 1 by omega, List.replicate_succ]
 simp
/-- The row of i, as far as b. -/
noncomputable def prI (l : List S40) (i b : Nat) : List Bool := (List.range b).map (cellI l i) ++ List.replicate (l.length - b) false
theorem prI_len (l : List S40) (i : Nat) {b : Nat} (h : b ≤ l.length) : (prI l i b).length = l.length := by unfold prI; simp; omega
theorem prI_zero (l : List S40) (i : Nat) : prI l i 0 = List.replicate l.length false := by unfold prI; simp
theorem prI_all (l : List S40) (i : Nat) : prI l i l.length = (List.range l.length).map (cellI l i) := by unfold prI; simp
theorem prI_set (l : List S40) (i : Nat) {b : Nat} (h : b < l.length) : (prI l i b).set b (cellI l i b) = prI l i (b + 1) := by
 unfold prI
 rw [List.set_append_right _ _ (by simp), List.range_succ, List.map_append, List.append_assoc]
 congr 1
 rw [show l.length - b = (l.length - (b + 1)) + 1 by omega, List.replicate_succ]
 simp
theorem rowB_put (l : List S40) (i b : Nat) (hi : i < l.length) : rowB ((doneI l i).set i (prI l i b)) (i : Int) = prI l i b := by
 unfold rowB
 rw [Int.toNat_natCast, getD_at _ _ (by rw [List.length_set, doneI_len l (by omega)]; exact hi), List.getElem_set_self]
set_option maxRecDepth 100000 in
set_option maxHeartbeats 4000000 in
theorem truantref10_Is.calls (a0_0 : ByteArray) (A0_1 : Option Addr) (c0_1 : Nat) (l0_1 : List ByteArray) (a0_2 : ByteArray) (A0_3 : Option Addr) (c0_3 : Nat) (l0_3 : List ByteArray) (A0_4 : Option Addr) (c0_4 : Nat) (l0_4 : List (S58)) (A0_5 : Option Addr) (c0_5 : Nat) (l0_5 : List (S40)) (r : List (List Bool)) (w : World) (hr0_1 : Kd.C Kd.string w A0_1 l0_1.length l0_1) (hc0_1 : l0_1.length ≤ c0_1) (hr0_3 : Kd.C Kd.string w A0_3 l0_3.length l0_3) (hc0_3 : l0_3.length ≤ c0_3) (hr0_4 : Kd.C k58 w A0_4 l0_4.length l0_4) (hc0_4 : l0_4.length ≤ c0_4) (hr0_5 : Kd.C k40 w A0_5 l0_5.length l0_5) (hc0_5 : l0_5.length ≤ c0_5) (h : truantref10_Is.f a0_0 l0_1 a0_2 l0_3 l0_4 l0_5 = some r) :
  Calls Try.prog 44 #[.agg #[.string a0_0, .slice A0_1 l0_1.length c0_1, .string a0_2, .slice A0_3 l0_3.length c0_3, .slice A0_4 l0_4.length c0_4, .slice A0_5 l0_5.length c0_5]] w fun e w' => ∃ v0_ : Value, e = .returned (v0_) ∧ Kd.S (Kd.slice 4 Kd.bool) 31 w' w.heap.size (fun _ => True) v0_ r ∧ Below w.heap.size w w' := by
 unfold truantref10_Is.f at h
 split at h
 case isFalse => cases h
 rename_i hl
 obtain rfl := Option.some.inj h
 clear h
 have HL := Aside0.mk hl; clear hl
 have hb0 := below_alloc (Below.refl w.heap.size w) (.cells #[.string a0_0, .slice A0_1 l0_1.length c0_1, .string a0_2, .slice A0_3 l0_3.length c0_3, .slice A0_4 l0_4.length c0_4, .slice A0_5 l0_5.length c0_5] 26)
 have HB0 := Aside0.mk hb0; clear hb0
 have hblk := blk_new w (.cells #[.string a0_0, .slice A0_1 l0_1.length c0_1, .string a0_2, .slice A0_3 l0_3.length c0_3, .slice A0_4 l0_4.length c0_4, .slice A0_5 l0_5.length c0_5] 26)
 have HBX := Aside0.mk hblk; clear hblk
 obtain ⟨⟨k, hk⟩, hkl⟩ := ref_reach a0_0 l0_1 a0_2 l0_3 l0_4 l0_5 HL.out
 have HK := Aside0.mk hk; have HKL := Aside0.mk hkl; clear hk hkl
 have h5 := blk_cell HBX.out 5
 go_enter Try.func44, Try.ntmps44
 go_wp2_with fail
 refine (truantref09_Reached.calls k a0_0 A0_1 c0_1 l0_1 a0_2 A0_3 c0_3 l0_3 A0_4 c0_4 l0_4 A0_5 c0_5 l0_5 (reachL l0_5) _ (Kd.C_below hr0_1 HB0.out) hc0_1 (Kd.C_below hr0_3 HB0.out) hc0_3 (Kd.C_below hr0_4 HB0.out) hc0_4 (Kd.C_below hr0_5 HB0.out) hc0_5 HK.out).mono ?_
 rintro e W1 ⟨va, rfl, hRa, hb1⟩
 obtain ⟨Aa, ca, rfl⟩ := Kd.R_slice hRa
 have HCA := Aside0.mk (Kd.R_reads' hRa).2.2
 have HB1 := Aside0.mk (below_step HB0.out hb1)
 have HC5 := Aside0.mk (blk_below HBX.out hb1)
 clear hRa hb1 h5
 go_wp2_with (first | ((with_reducible refine gate_dst (N := 16) rfl ?_); refine Kd.S_make (w0 := W1) (Kd.slice 4 Kd.bool) W1.heap.size 31 rfl (N := 16) rfl 52 _ _ rfl (l0_5.length : Int) rfl rfl Try.underlying52 (.slice none 0 0) 24 info_rowB rfl (by decide) (by omega) [] (ok := fun _ => True) (okp := fun _ => True) ⟨_, rfl, Kd.R_nil _ _ _ _ _⟩ (fun _ hk => hk) trivial (Int.natCast_nonneg _) ?_ (Below.refl _ _) (Nat.le_refl _) ?_; (focus (rw [Int.toNat_natCast]; have := HL.out; omega)); intro vs W2 hS hb hg hnew; rw [Int.toNat_natCast] at hS; have HS := Aside0.mk hS; have HB2 := Aside0.mk hb; have HF := Aside0.mk (Kd.S_form hS); have HLR := Aside0.mk (show (List.replicate l0_5.length ([] : List Bool)).length = l0_5.length from List.length_replicate); clear hS hb hg hnew))
 go_loopg [6] l0_5.length (fun kq v6 wr => ∃ i : Nat, v6 = .int .i64 i ∧ i + kq = l0_5.length ∧ Aside0 (Below W1.heap.size W1 wr) ∧ Aside0 (Kd.S (Kd.slice 4 Kd.bool) 31 wr W1.heap.size (fun _ => True) vs (doneI l0_5 i)))
 case atStart => exact ⟨0, rfl, Nat.zero_add _, HB2, ⟨by have := HS.out; unfold doneI; simpa using this⟩⟩
 case round =>
  clear HB2 HS
  obtain ⟨i, rfl, hik, HB2, HS⟩ := hrel
  have hbig := HL.out
  by_cases hlt : i < l0_5.length
  ·obtain ⟨k1, rfl⟩ : ∃ k1, gk = k1 + 1 := ⟨gk - 1, by omega⟩
   obtain ⟨go, cap, hvs, hgo, -⟩ := HF.out (by rw [HLR.out]; omega)
   rw [HLR.out] at hvs
   subst hvs
   have HGO := Aside0.mk hgo; clear hgo
   have hlen0 := HLR.out
   obtain ⟨oki, A, c, hcell, hfr, hRL, hoki, hH⟩ := lendB HS.out (i : Int) (by omega) (by omega)
   rw [Int.toNat_natCast] at hcell hfr
   have HH := Aside0.mk hH; have HKI := Aside0.mk hoki
   clear hRL hH hoki
   go_upto_region 8 with (first | ((with_reducible refine gate_dst (N := 25) rfl ?_); refine Kd.R_make (w0 := W1) Kd.bool W1.heap.size 4 rfl (N := 25) rfl 31 _ _ rfl (l0_5.length : Int) rfl rfl Try.underlying31 (.bool false) 1 info4 rfl (by decide) (by omega) false (ok := fun k_ => wr.heap.size ≤ k_) (okp := fun _ => False) (show Kd.M Kd.bool _ _ _ false [.bool false] from rfl) (fun _ hk => hk.elim) (Nat.le_refl _) (Int.natCast_nonneg _) ?_ HB2.out HB2.out.size ?_; (focus (rw [Int.toNat_natCast]; omega)); intro v2 w3 hR hb hg hnew; rw [Int.toNat_natCast] at hR; obtain ⟨A1, c1, rfl⟩ := Kd.R_slice hR; rw [List.length_replicate] at hR; obtain ⟨hS4, hg4, hcell4, hfr4⟩ := newB (ys := List.replicate l0_5.length false) (A1 := A1) (c1 := c1) HH.out (by omega) (by omega) hg (fun _ _ => trivial) (by rw [List.length_replicate]; exact hR); rw [List.length_replicate] at hS4 hg4; rw [Int.toNat_natCast] at hS4 hg4 hcell4 hfr4; have HS4 := Aside0.mk hS4; have HB4 := Aside0.mk (Below.grown hb hg4 hb.size (fun k hk => by injection hk with hk; rw [← hk]; exact HGO.out)); clear hR hS4 hg4 hb hg hcell hfr hnew; obtain ⟨ada, ea, hxa⟩ := Kd.at_bool (Kd.C_below HCA.out HB4.out) (i : Int) (by omega) (by rw [HKL.out]; omega); cases ea; rw [Int.toNat_natCast] at hxa))
   have hil : (i : Int) < ((reachL l0_5).length : Int) := by rw [HKL.out]; omega
   have hil2 : i < (reachL l0_5).length := by omega
   by_cases hbt : rdOf false (reachL l0_5) (i : Int) = true
   ·have hnot : (!rdOf false (reachL l0_5) (i : Int)) = false := by rw [hbt]; rfl
    generalize w3.setCell ⟨go, i, none⟩ (.slice A1 l0_5.length c1) = w4 at *
    have hc5 := blk_cell (blk_below HC5.out HB4.out) 5
    go_upto_region 10 with (first
     | ((with_reducible refine gate_dst (N := 32) rfl ?_); refine Kd.N_lit k40 (w0 := w4) w4.heap.size 40 rfl (N' := 32) rfl (xs := ([] : List S40)) (inner := []) (ok := fun _ => True) (okp := fun _ => False) ?hr ⟨rfl, fun j p hj => by simp at hj⟩ (fun _ hk => hk.elim) trivial (Below.refl _ _) (Nat.le_refl _) (by simp) ?_; (case hr => first | (go_simp; done) | (go_simp; rfl)); intro v5 w5 hN hb hg hnew; have HN5 := Aside0.mk hN; have HB5 := Aside0.mk hb; obtain ⟨A5, c5, rfl⟩ := Kd.N_slice hN; have hc5 := blk_cell (blk_below (blk_below HC5.out HB4.out) hb) 5; clear hN hb hg hnew)
     | ((with_reducible refine gate_dst (N := 35) rfl ?_); at_builtin; refine Kd.N_append_rows k40 (w0 := w4) w4.heap.size rfl (.tmp 32) (.tmp 34) 24 40 (.agg #[(.slice none 0 0), (.int .i64 0), (.int .i64 0), (.int .i64 0), (.int .i64 0)]) 56 rfl Try.underlying24 info40 rfl (by decide) (by omega) (.slice A5 ([] : List S40).length c5) [] l0_5 A0_5 l0_5.length c0_5 (fun _ => True) (fun k_ => k_ < w.heap.size) rfl rfl HN5.out (Kd.F_below (Kd.C_F heapBlk hr0_5) (below_step (below_step HB1.out HB4.out) HB5.out)) (fun k_ hk => ⟨trivial, fun he => by have := Kd.N_base HN5.out k_ he.symm; have := HB1.out.size; have := HB4.out.size; omega⟩) (fun _ _ => trivial) HB5.out HB5.out.size ?hl ?_; (case hl => (simp only [List.length_nil]; omega)); intro v6 w6 hN hb hg hat; rw [List.nil_append] at hN; obtain ⟨gN, capN, rfl, hgN, -⟩ := Kd.N_form hN (by omega); have HN6 := Aside0.mk hN; have HB6 := Aside0.mk hb; have HGN := Aside0.mk hgN; clear hN hb hg hat hgN))
    have hle6 := HB6.out.size
    have HN7 := Aside0.mk (Kd.N_alloc HN6.out (.cells #[.string ⟨#[]⟩, .slice none 0 0, .string ⟨#[]⟩, .slice none 0 0, .slice none 0 0, .slice (some ⟨gN, 0, none⟩) l0_5.length capN] 26))
    obtain ⟨cI, hcl, hFK, hcc, hfz⟩ := Kd.N_elem HN7.out z40 (i : Int) (by omega) (by omega)
    obtain ⟨A0i, c0i, rfl, hl0, hC0⟩ := k40_open (Kd.FK_now hFK)
    have hFK2 : Kd.FK k40 (w6.alloc (.cells #[.string ⟨#[]⟩, .slice none 0 0, .string ⟨#[]⟩, .slice none 0 0, .slice none 0 0, .slice (some ⟨gN, 0, none⟩) l0_5.length capN] 26)) (fun k => True ∧ k ≠ gN) { rd_T40 l0_5 (i : Int) with f1 := 3 } [.slice A0i (rd_T40 l0_5 (i : Int)).f0.length c0i, .int .i64 3, .int .i64 (rd_T40 l0_5 (i : Int)).f2, .int .i64 (rd_T40 l0_5 (i : Int)).f3.f0, .int .i64 (rd_T40 l0_5 (i : Int)).f3.f1] := fun W' hW => by
     obtain ⟨A', c', e, l1, g1⟩ := k40_open (hFK W' hW)
     injection e with e _
     injection e with e1 _ e2
     subst e1 e2
     exact k40_mk W' { rd_T40 l0_5 (i : Int) with f1 := 3 } l1 g1
    have hN8 := Kd.N_seg HN7.out (i : Int) (by omega) (by omega) hcl hcc (seg := [.int .i64 3]) (j := 1) (x' := { rd_T40 l0_5 (i : Int) with f1 := 3 }) (show 2 ≤ 5 from by decide) hFK2 (fun _ hk => hk)
    have hcJ : (w6.alloc (.cells #[.string ⟨#[]⟩, .slice none 0 0, .string ⟨#[]⟩, .slice none 0 0, .slice none 0 0, .slice (some ⟨gN, 0, none⟩) l0_5.length capN] 26)).cell? ⟨gN, i * 5 + 1, none⟩ = some (.int .i64 (rd_T40 l0_5 (i : Int)).f1) := hcc 1 _ rfl
    have hfJ : (w6.alloc (.cells #[.string ⟨#[]⟩, .slice none 0 0, .string ⟨#[]⟩, .slice none 0 0, .slice none 0 0, .slice (some ⟨gN, 0, none⟩) l0_5.length capN] 26)).frozen? ⟨gN, i * 5 + 1, none⟩ = false := hfz 1
    have hN9 : Kd.N k40 40 ((w6.alloc (.cells #[.string ⟨#[]⟩, .slice none 0 0, .string ⟨#[]⟩, .slice none 0 0, .slice none 0 0, .slice (some ⟨gN, 0, none⟩) l0_5.length capN] 26)).setCell ⟨gN, i * 5 + 1, none⟩ (.int .i64 3)) w4.heap.size (fun _ => True) (.slice (some ⟨gN, 0, none⟩) l0_5.length capN) (noJ l0_5 i) := hN8.1
    have hB8 := below_alloc HB6.out (.cells #[.string ⟨#[]⟩, .slice none 0 0, .string ⟨#[]⟩, .slice none 0 0, .slice none 0 0, .slice (some ⟨gN, 0, none⟩) l0_5.length capN] 26)
    have hg8 : World.grownBy (w6.alloc (.cells #[.string ⟨#[]⟩, .slice none 0 0, .string ⟨#[]⟩, .slice none 0 0, .slice none 0 0, .slice (some ⟨gN, 0, none⟩) l0_5.length capN] 26)) ((w6.alloc (.cells #[.string ⟨#[]⟩, .slice none 0 0, .string ⟨#[]⟩, .slice none 0 0, .slice none 0 0, .slice (some ⟨gN, 0, none⟩) l0_5.length capN] 26)).setCell ⟨gN, i * 5 + 1, none⟩ (.int .i64 3)) (some gN) := hN8.2
    have hlt6 : gN < w6.heap.size := Kd.N_lt HN6.out gN (by simp [Value.ownBlock])
    have hbase6 : w4.heap.size ≤ gN := Kd.N_base HN6.out gN (by simp [Value.ownBlock])
    have hblkG : ((w6.alloc (.cells #[.string ⟨#[]⟩, .slice none 0 0, .string ⟨#[]⟩, .slice none 0 0, .slice none 0 0, .slice (some ⟨gN, 0, none⟩) l0_5.length capN] 26)).setCell ⟨gN, i * 5 + 1, none⟩ (.int .i64 3)).heap[w6.heap.size]? = some (.cells #[.string ⟨#[]⟩, .slice none 0 0, .string ⟨#[]⟩, .slice none 0 0, .slice none 0 0, .slice (some ⟨gN, 0, none⟩) l0_5.length capN] 26 (0, 0)) := by
     rw [Below.heap_setCell _ _ _ _ (show w6.heap.size ≠ gN by omega)]
     exact blk_new w6 _
    have hB9 := Below.grown hB8 hg8 hB8.size (fun k hk => by injection hk with hk; omega)
    have hq0 := blk_cell hblkG 0
    have hq1 := blk_cell hblkG 1
    have hq2 := blk_cell hblkG 2
    have hq3 := blk_cell hblkG 3
    have hq4 := blk_cell hblkG 4
    have hq5 := blk_cell hblkG 5
    obtain ⟨⟨k2, hk2⟩, hkl2⟩ := ref_reach ⟨#[]⟩ [] ⟨#[]⟩ [] [] (noJ l0_5 i) (by rw [noJ_len]; exact HL.out)
    rw [noJ_len] at hkl2
    have hC9 := (Kd.N_reads' hN9).2.2
    have hcap9 := (Kd.N_reads' hN9).2.1
    have hcm := World.setCell_alloc_past (w := w6) (.cells #[.string ⟨#[]⟩, .slice none 0 0, .string ⟨#[]⟩, .slice none 0 0, .slice none 0 0, .slice (some ⟨gN, 0, none⟩) l0_5.length capN] 26) gN (i * 5 + 1) (.int .i64 3) hlt6
    rw [hcm] at hC9 hB9
    have HK2 := Aside0.mk hk2; have HKL2 := Aside0.mk hkl2; have HC9 := Aside0.mk hC9; have HCAP := Aside0.mk hcap9; have HB9 := Aside0.mk hB9
    clear hk2 hkl2 hC9 hcap9 hB9 hB8 hg8 hN8 hN9 hFK hFK2 hcc hfz hcl hC0 hblkG HN7 hc5 hxa
    go_wp2_with fail
    have hcall := truantref09_Reached.calls k2 ⟨#[]⟩ none 0 [] ⟨#[]⟩ none 0 [] none 0 [] (some ⟨gN, 0, none⟩) capN (noJ l0_5 i) (reachL (noJ l0_5 i)) ((w6.setCell ⟨gN, i * 5 + 1, none⟩ (.int .i64 3)).alloc (.cells #[.string ⟨#[]⟩, .slice none 0 0, .string ⟨#[]⟩, .slice none 0 0, .slice none 0 0, .slice (some ⟨gN, 0, none⟩) l0_5.length capN] 26)) (Kd.R_reads' (Kd.R_nil _ 0 _ 0 (fun _ => True))).2.2 (Nat.le_refl _) (Kd.R_reads' (Kd.R_nil _ 0 _ 0 (fun _ => True))).2.2 (Nat.le_refl _) (Kd.R_reads' (Kd.R_nil _ 0 _ 0 (fun _ => True))).2.2 (Nat.le_refl _) HC9.out (by rw [noJ_len]; exact HCAP.out) HK2.out
    rw [noJ_len] at hcall
    refine hcall.mono ?_
    rintro e w8 ⟨v8, rfl, hR8, hb8⟩
    have hB8 := below_step HB9.out hb8
    have hS8 : Kd.S (Kd.slice 4 Kd.bool) 31 w8 W1.heap.size (fun k => k < w4.heap.size) (.slice (some ⟨go, 0, none⟩) l0_5.length cap) ((doneI l0_5 i).set i (prI l0_5 i 0)) := by
     rw [prI_zero]
     exact Kd.S_below (Kd.S_mono (Kd.S_bound HS4.out) (fun k hk => hk.2.2.1)) hB8
    have hR9 : Kd.bool.R 4 w8 w4.heap.size (fun k => w4.heap.size ≤ k) v8 (reachL (noJ l0_5 i)) := Kd.R_lower (Kd.R_mono (Kd.R_bound hR8) (fun k hk => Nat.le_trans HB9.out.size hk.2.1)) HB9.out.size
    obtain ⟨A8, c8, rfl⟩ := Kd.R_slice hR9
    have HR8 := Aside0.mk hR9; have HS8 := Aside0.mk hS8; have HB8 := Aside0.mk (below_step HB4.out hB8)
    clear hR8 hR9 hS8 hB8 hb8 hcall hq0 hq1 hq2 hq3 hq4 hq5
    go_wp2
    go_loopg [9] l0_5.length (fun kq v9 wr2 => ∃ b : Nat, v9 = .int .i64 b ∧ b + kq = l0_5.length ∧ Aside0 (Below W1.heap.size W1 wr2) ∧ Aside0 (Kd.S (Kd.slice 4 Kd.bool) 31 wr2 W1.heap.size (fun k => k < w4.heap.size) (.slice (some ⟨go, 0, none⟩) l0_5.length cap) ((doneI l0_5 i).set i (prI l0_5 i b))) ∧ Aside0 (Kd.bool.R 4 wr2 w4.heap.size (fun k => w4.heap.size ≤ k) (.slice A8 (reachL (noJ l0_5 i)).length c8) (reachL (noJ l0_5 i))))
    case atStart => exact ⟨0, rfl, Nat.zero_add _, HB8, HS8, HR8⟩
    case round =>
     clear HS8 HR8 HB8
     obtain ⟨b, rfl, hbk, HB8, HS8, HR8⟩ := hrel
     have hbig2 := HL.out
     by_cases hb : b < l0_5.length
     ·obtain ⟨k3, rfl⟩ : ∃ k3, gk = k3 + 1 := ⟨gk - 1, by omega⟩
      have hpl : (rowB ((doneI l0_5 i).set i (prI l0_5 i b)) (i : Int)).length = l0_5.length := by rw [rowB_put l0_5 i b hlt, prI_len l0_5 i (by omega)]
      obtain ⟨rr, cr, hcell, hbit, hfz, hbr, hokr, hput⟩ := bitB HS8.out (i : Int) (b : Int) hpl (by omega) (by omega) (by omega) (by omega)
      rw [rowB_put l0_5 i b hlt] at hput
      simp only [Int.toNat_natCast] at hcell hbit hfz hput
      obtain ⟨ada', ea, hxb⟩ := Kd.at_bool (Kd.C_below HCA.out HB8.out) (b : Int) (by omega) (by rw [HKL.out]; omega)
      cases ea
      obtain ⟨ad8, e8, hx8⟩ := Kd.at_bool (Kd.R_reads' HR8.out).2.2 (b : Int) (by omega) (by rw [HKL2.out]; omega)
      subst e8
      rw [rdOf_nat, Int.toNat_natCast] at hxb hx8
      have hl1 : b < (reachL l0_5).length := by rw [HKL.out]; omega
      have hl2 : b < (reachL (noJ l0_5 i)).length := by rw [HKL2.out]; omega
      have hl3 : (b : Int) < ((reachL l0_5).length : Int) := by rw [HKL.out]; omega
      have hl4 : (b : Int) < ((reachL (noJ l0_5 i)).length : Int) := by rw [HKL2.out]; omega
      have HPUT : Aside0 (∀ x : Bool, cellI l0_5 i b = x → Below W1.heap.size W1 (wr.setCell ⟨rr, b, none⟩ (.bool x)) ∧ Kd.S (Kd.slice 4 Kd.bool) 31 (wr.setCell ⟨rr, b, none⟩ (.bool x)) W1.heap.size (fun k => k < w4.heap.size) (.slice (some ⟨go, 0, none⟩) l0_5.length cap) ((doneI l0_5 i).set i (prI l0_5 i (b + 1))) ∧
        Kd.bool.R 4 (wr.setCell ⟨rr, b, none⟩ (.bool x)) w4.heap.size (fun k => w4.heap.size ≤ k) (.slice (some ad8) (reachL (noJ l0_5 i)).length c8) (reachL (noJ l0_5 i))) := ⟨fun x hx => by
       obtain ⟨p1, p2⟩ := hput x
       refine ⟨Below.grown HB8.out p2 HB8.out.size (fun k hk => by injection hk with hk; rw [← hk]; exact hbr), ?_, Kd.R_grown HR8.out p2 (fun k hk e => by injection e with e; omega)⟩
       rw [List.set_set] at p1
       have p3 := prI_set l0_5 i hb
       rw [hx] at p3
       rw [p3] at p1
       exact p1⟩
      have HI1 := Aside0.mk hpl
      clear hput hpl hbr hokr
      cases h1 : (reachL l0_5).getD b false with
      | false =>
       rw [h1] at hxb
       have hv : cellI l0_5 i b = false := by unfold cellI; rw [h1]; rfl
       have HV := Aside0.mk hv; clear hv h1
       go_wp2
       go_region
       go_wp2
       go_roundg k3
       case measure => omega
       case rel => exact ⟨b + 1, by go_num, by omega, ⟨below_drew (HPUT.out _ HV.out).1⟩, ⟨Kd.S_drew (HPUT.out _ HV.out).2.1⟩, ⟨Kd.R_drew (HPUT.out _ HV.out).2.2⟩⟩
      | true =>
       rw [h1] at hxb
       by_cases h2 : i = b
       ·have hv : cellI l0_5 i b = true := by unfold cellI; rw [h1, decide_eq_true h2]; rfl
        have HV := Aside0.mk hv; clear hv h1
        have hq : ((i : Int) == (b : Int)) = true := beq_iff_eq.mpr (by omega)
        clear h2
        go_wp2
        go_region
        go_wp2
        go_roundg k3
        case measure => omega
        case rel => exact ⟨b + 1, by go_num, by omega, ⟨below_drew (HPUT.out _ HV.out).1⟩, ⟨Kd.S_drew (HPUT.out _ HV.out).2.1⟩, ⟨Kd.R_drew (HPUT.out _ HV.out).2.2⟩⟩
       ·have hq : ((i : Int) == (b : Int)) = false := beq_eq_false_iff_ne.mpr (by omega)
        by_cases h3 : i = 0
        ·have hv : cellI l0_5 i b = true := by unfold cellI; rw [h1, decide_eq_true h3]; simp
         have HV := Aside0.mk hv; clear hv h1
         have hq0 : ((i : Int) == 0) = true := beq_iff_eq.mpr (by omega)
         clear h2 h3
         go_wp2
         go_region
         go_wp2
         go_roundg k3
         case measure => omega
         case rel => exact ⟨b + 1, by go_num, by omega, ⟨below_drew (HPUT.out _ HV.out).1⟩, ⟨Kd.S_drew (HPUT.out _ HV.out).2.1⟩, ⟨Kd.R_drew (HPUT.out _ HV.out).2.2⟩⟩
        ·have hq0 : ((i : Int) == 0) = false := beq_eq_false_iff_ne.mpr (by omega)
         have hv : cellI l0_5 i b = !(reachL (noJ l0_5 i)).getD b false := by unfold cellI; rw [h1, decide_eq_false h2, decide_eq_false h3]; simp
         obtain ⟨q8, hq8⟩ : ∃ q8, q8 = (reachL (noJ l0_5 i)).getD b false := ⟨_, rfl⟩
         rw [← hq8] at hx8 hv
         have HV := Aside0.mk hv; clear hv h1 h2 h3 hq8
         go_wp2
         go_region
         go_wp2
         go_roundg k3
         case measure => omega
         case rel => exact ⟨b + 1, by go_num, by omega, ⟨below_drew (HPUT.out _ HV.out).1⟩, ⟨Kd.S_drew (HPUT.out _ HV.out).2.1⟩, ⟨Kd.R_drew (HPUT.out _ HV.out).2.2⟩⟩
     ·have hbe : b = l0_5.length := by omega
      have HBE := Aside0.mk hbe; clear hbe
      have hS5 := Kd.S_mono HS8.out (ok' := fun _ => True) (fun _ _ => trivial)
      rw [HBE.out, prI_all] at hS5
      have hrow : rowI l0_5 i = (List.range l0_5.length).map (cellI l0_5 i) := by
       unfold rowI
       rw [if_pos (by unfold rdOf at hbt; rwa [Int.toNat_natCast] at hbt)]
      rw [← hrow, doneI_set l0_5 hlt] at hS5
      have HS5 := Aside0.mk hS5; clear hS5 hrow
      go_wp2
      go_roundg k1
      case measure => omega
      case rel => exact ⟨i + 1, by go_num, by omega, HB8, HS5⟩
   ·have hnot : (!rdOf false (reachL l0_5) (i : Int)) = true := by simpa using hbt
    have hrow : rowI l0_5 i = List.replicate l0_5.length false := by
     unfold rowI
     rw [if_neg (by unfold rdOf at hbt; rwa [Int.toNat_natCast] at hbt)]
    go_wp2
    go_roundg k1
    case measure => omega
    case rel => exact ⟨i + 1, by go_num, by omega, HB4, ⟨by rw [← doneI_set l0_5 hlt, hrow]; exact HS4.out⟩⟩
  ·have hi : i = l0_5.length := by omega
   go_wp2
   go_ret
   refine ⟨_, rfl, ?_, below_step HB1.out HB2.out⟩
   rw [← doneI_all, ← hi]
   exact Kd.S_lower HS.out HB1.out.size
end Go.Proofs.Ytclhjalgflebfaa.Q

namespace Go.Proofs.Ytclhjalgflebfaa.Q
open Go.RowKit Go.Proofs.YtclhjalgflebfaaW.PrintWords Go.Proofs.YtclhjalgflebfaaW.PrintLast Go.Proofs.YtclhjalgflebfaaW.PrintMore
attribute [local go_sem] max2_int min2_int max_two min_two max_three min_three max_four min_four   -- for this text's walks alone
set_option linter.unusedVariables false
set_option linter.unusedSimpArgs false

/-! ### truantref10_Nearest: function 41 -/
mutual
def truantref10_Nearest.l0 : Nat → List (List Bool) → List Int → Int → ByteArray → List ByteArray → ByteArray → List ByteArray → List (S58) → List (S40) → Option (List Int)
 | 0, _, _, _, _, _, _, _, _, _ => none
 | k + 1, x3, x4, x5, x356000, x356001, x356002, x356003, x356004, x356005 => if x5 < (x356005.length : Int) then (truantref10_Nearest.l1 k x3 x4 x5 (-1) 0 x356000 x356001 x356002 x356003 x356004 x356005) else (some x4)
def truantref10_Nearest.l1 : Nat → List (List Bool) → List Int → Int → Int → Int → ByteArray → List ByteArray → ByteArray → List ByteArray → List (S58) → List (S40) → Option (List Int)
 | 0, _, _, _, _, _, _, _, _, _, _, _ => none
 | k + 1, x3, x4, x5, x6, x7, x356000, x356001, x356002, x356003, x356004, x356005 => if x7 < (x356005.length : Int) then (if x7 = x5 then (truantref10_Nearest.l1 k x3 x4 x5 x6 (wrap64 (x7 + 1)) x356000 x356001 x356002 x356003 x356004 x356005) else (if 0 ≤ x7 then (if x7 < (x3.length : Int) then (if 0 ≤ x5 then (if x5 < ((rd_L7 x3 x7).length : Int) then (if rdOf false (rd_L7 x3 x7) x5 = true then (if x6 < 0 then (truantref10_Nearest.l1 k x3 x4 x5 x7 (wrap64 (x7 + 1)) x356000 x356001 x356002 x356003 x356004 x356005) else (if 0 ≤ x6 then (if x6 < (x3.length : Int) then (if x7 < ((rd_L7 x3 x6).length : Int) then (if rdOf false (rd_L7 x3 x6) x7 = true then (truantref10_Nearest.l1 k x3 x4 x5 x7 (wrap64 (x7 + 1)) x356000 x356001 x356002 x356003 x356004 x356005) else (truantref10_Nearest.l1 k x3 x4 x5 x6 (wrap64 (x7 + 1)) x356000 x356001 x356002 x356003 x356004 x356005)) else (none)) else (none)) else (none))) else (truantref10_Nearest.l1 k x3 x4 x5 x6 (wrap64 (x7 + 1)) x356000 x356001 x356002 x356003 x356004 x356005)) else (none)) else (none)) else (none)) else (none))) else (if x4.length < 17592186044416 then (truantref10_Nearest.l0 k x3 (x4 ++ [x6]) (wrap64 (x5 + 1)) x356000 x356001 x356002 x356003 x356004 x356005) else (none))
end
noncomputable def truantref10_Nearest.f (k : Nat) (a0_0 : ByteArray) (l0_1 : List ByteArray) (a0_2 : ByteArray) (l0_3 : List ByteArray) (l0_4 : List (S58)) (l0_5 : List (S40)) : Option (List Int) := (truantref10_Is.f a0_0 l0_1 a0_2 l0_3 l0_4 l0_5).bind fun t356 => (truantref10_Nearest.l0 k t356 (([] : List Int)) 0 a0_0 l0_1 a0_2 l0_3 l0_4 l0_5)
theorem truantref10_Nearest.mono_l : ∀ k, (∀ y0 y1 y2 y3 y4 y5 y6 y7 y8, LeO (truantref10_Nearest.l0 k y0 y1 y2 y3 y4 y5 y6 y7 y8) (truantref10_Nearest.l0 (k + 1) y0 y1 y2 y3 y4 y5 y6 y7 y8)) ∧ (∀ y0 y1 y2 y3 y4 y5 y6 y7 y8 y9 y10, LeO (truantref10_Nearest.l1 k y0 y1 y2 y3 y4 y5 y6 y7 y8 y9 y10) (truantref10_Nearest.l1 (k + 1) y0 y1 y2 y3 y4 y5 y6 y7 y8 y9 y10))
 | 0 => ⟨fun _ _ _ _ _ _ _ _ _ r h => by simp [truantref10_Nearest.l0] at h, fun _ _ _ _ _ _ _ _ _ _ _ r h => by simp [truantref10_Nearest.l1] at h⟩
 | k + 1 => by
  obtain ⟨ih0, ih1⟩ := truantref10_Nearest.mono_l k
  refine ⟨?_, ?_⟩
  ·intro y0 y1 y2 y3 y4 y5 y6 y7 y8
   unfold truantref10_Nearest.l0
   repeat' first
   | (with_reducible exact ih0 _ _ _ _ _ _ _ _ _)
   | (with_reducible exact ih1 _ _ _ _ _ _ _ _ _ _ _)
   | (with_reducible exact LeO.refl _)
   | (with_reducible exact LeO.none _)
   | (with_reducible refine LeO.ite ?_ ?_)
   | (with_reducible refine LeO.bind ?_ (fun _ => ?_))
   | exact ih0 _ _ _ _ _ _ _ _ _
   | exact ih1 _ _ _ _ _ _ _ _ _ _ _
   | exact LeO.none _
   | refine LeO.ite ?_ ?_
   | refine LeO.bind ?_ (fun _ => ?_)
  ·intro y0 y1 y2 y3 y4 y5 y6 y7 y8 y9 y10
   unfold truantref10_Nearest.l1
   repeat' first
   | (with_reducible exact ih0 _ _ _ _ _ _ _ _ _)
   | (with_reducible exact ih1 _ _ _ _ _ _ _ _ _ _ _)
   | (with_reducible exact LeO.refl _)
   | (with_reducible exact LeO.none _)
   | (with_reducible refine LeO.ite ?_ ?_)
   | (with_reducible refine LeO.bind ?_ (fun _ => ?_))
   | exact ih0 _ _ _ _ _ _ _ _ _
   | exact ih1 _ _ _ _ _ _ _ _ _ _ _
   | exact LeO.none _
   | refine LeO.ite ?_ ?_
   | refine LeO.bind ?_ (fun _ => ?_)
theorem truantref10_Nearest.mono : ∀ a0 a1 a2 a3 a4 a5 k, LeO (truantref10_Nearest.f k a0 a1 a2 a3 a4 a5) (truantref10_Nearest.f (k + 1) a0 a1 a2 a3 a4 a5) := by
 intro a0 a1 a2 a3 a4 a5 k
 obtain ⟨ih0, ih1⟩ := truantref10_Nearest.mono_l k
 unfold truantref10_Nearest.f
 repeat' first
   | (with_reducible exact ih0 _ _ _ _ _ _ _ _ _)
   | (with_reducible exact ih1 _ _ _ _ _ _ _ _ _ _ _)
   | (with_reducible exact LeO.refl _)
   | (with_reducible exact LeO.none _)
   | (with_reducible refine LeO.ite ?_ ?_)
   | (with_reducible refine LeO.bind ?_ (fun _ => ?_))
   | exact ih0 _ _ _ _ _ _ _ _ _
   | exact ih1 _ _ _ _ _ _ _ _ _ _ _
   | exact LeO.none _
   | refine LeO.ite ?_ ?_
   | refine LeO.bind ?_ (fun _ => ?_)
set_option maxHeartbeats 8000000 in
set_option maxRecDepth 100000 in
theorem truantref10_Nearest.calls (k : Nat) (a0_0 : ByteArray) (A0_1 : Option Addr) (c0_1 : Nat) (l0_1 : List ByteArray) (a0_2 : ByteArray) (A0_3 : Option Addr) (c0_3 : Nat) (l0_3 : List ByteArray) (A0_4 : Option Addr) (c0_4 : Nat) (l0_4 : List (S58)) (A0_5 : Option Addr) (c0_5 : Nat) (l0_5 : List (S40)) (r : List Int) (w : World) (hr0_1 : Kd.C Kd.string w A0_1 l0_1.length l0_1) (hc0_1 : l0_1.length ≤ c0_1) (hr0_3 : Kd.C Kd.string w A0_3 l0_3.length l0_3) (hc0_3 : l0_3.length ≤ c0_3) (hr0_4 : Kd.C k58 w A0_4 l0_4.length l0_4) (hc0_4 : l0_4.length ≤ c0_4) (hr0_5 : Kd.C k40 w A0_5 l0_5.length l0_5) (hc0_5 : l0_5.length ≤ c0_5) (h : truantref10_Nearest.f k a0_0 l0_1 a0_2 l0_3 l0_4 l0_5 = some r) :
  Calls Try.prog 41 #[.agg #[.string a0_0, .slice A0_1 l0_1.length c0_1, .string a0_2, .slice A0_3 l0_3.length c0_3, .slice A0_4 l0_4.length c0_4, .slice A0_5 l0_5.length c0_5]] w fun e w' => ∃ v0_ : Value, e = .returned (v0_) ∧ Kd.R (Kd.int .i64) 3 w' w.heap.size (fun _ => True) v0_ r ∧ Below w.heap.size w w' := by
 have hu26 := Try.underlying26
 have HR0_1 := Aside0.mk hr0_1
 have HC0_1 := Aside0.mk hc0_1
 clear hr0_1 hc0_1
 have HR0_3 := Aside0.mk hr0_3
 have HC0_3 := Aside0.mk hc0_3
 clear hr0_3 hc0_3
 have HR0_4 := Aside0.mk hr0_4
 have HC0_4 := Aside0.mk hc0_4
 clear hr0_4 hc0_4
 have HR0_5 := Aside0.mk hr0_5
 have HC0_5 := Aside0.mk hc0_5
 clear hr0_5 hc0_5
 have HB := Aside0.mk (Below.refl w.heap.size w)
 have H : ((truantref10_Is.f a0_0 l0_1 a0_2 l0_3 l0_4 l0_5).bind fun t356 => (truantref10_Nearest.l0 k t356 (([] : List Int)) 0 a0_0 l0_1 a0_2 l0_3 l0_4 l0_5)) = some r := h
 clear h
 replace H := Option.bind_eq_some_iff.mp H
 obtain ⟨t356, A20, H⟩ := H
 replace H : (truantref10_Nearest.l0 k t356 (([] : List Int)) 0 a0_0 l0_1 a0_2 l0_3 l0_4 l0_5) = some r := H
 have A2 := Aside0.mk A20
 clear A20
 obtain ⟨y359, hy359⟩ : ∃ y_ : List Int, y_ = (([] : List Int)) := ⟨_, rfl⟩
 replace H : (truantref10_Nearest.l0 k t356 y359 0 a0_0 l0_1 a0_2 l0_3 l0_4 l0_5) = some r := by first | (rw [hy359]; with_reducible exact H) | (have H2_ := (Option.bind_some _ _).symm.trans H; rw [hy359]; with_reducible exact H2_) | (have H2_ := (Option.bind_some _ _).symm.trans H; with_reducible exact H2_) | with_reducible exact H | (rw [hy359]; exact H) | exact H
 have Ny359 := Aside0.mk hy359
 clear hy359
 have H' := Aside0.mk H
 clear H
 go_enter Try.func41, Try.ntmps41
 go_wp2_with (first | ((with_reducible refine gate_dst (N := 1) rfl ?_); refine box_event ?hg (N := 1) ?hd (cs := #[.string a0_0, .slice A0_1 l0_1.length c0_1, .string a0_2, .slice A0_3 l0_3.length c0_3, .slice A0_4 l0_4.length c0_4, .slice A0_5 l0_5.length c0_5]) (t := 26) ?hr ?_; (case hd => rfl); (case hg => rfl); (case hr => first | (go_simp; done) | (go_simp; rfl)); intro gb355 hg w3 hbox hb; have n0_ := Aside0.mk (below_step (by repeat (first | (with_reducible first | exact HB.out | apply below_alloc | apply pw_below_drewN | apply below_drew1) | exact HB.out)) hb); have n1_ := Aside0.mk (hbox); have n2_ := Aside0.mk ((by rw [hg]; exact (below_size (by repeat (first | (with_reducible first | exact HB.out | apply below_alloc | apply pw_below_drewN | apply below_drew1) | exact HB.out))) : w.heap.size ≤ gb355)); have n3_ := Aside0.mk ((by rw [hg]; exact (below_size (by repeat (first | (with_reducible first | exact HB.out | apply below_alloc | apply pw_below_drewN | apply below_drew1) | exact HB.out))) : w.heap.size ≤ gb355)); clear HB; have HB := n0_; have BK355 := n1_; have GW355 := n2_; have GE355 := n3_; clear n0_ n1_ n2_ n3_; clear hb hbox hg; have hcz4_0 : w3.cell? ⟨gb355, 0, none⟩ = some (.string a0_0) := (blk_cell BK355.out 0).trans rfl; have hcz4_1 : w3.cell? ⟨gb355, 1, none⟩ = some (.slice A0_1 l0_1.length c0_1) := (blk_cell BK355.out 1).trans rfl; have hcz4_2 : w3.cell? ⟨gb355, 2, none⟩ = some (.string a0_2) := (blk_cell BK355.out 2).trans rfl; have hcz4_3 : w3.cell? ⟨gb355, 3, none⟩ = some (.slice A0_3 l0_3.length c0_3) := (blk_cell BK355.out 3).trans rfl; have hcz4_4 : w3.cell? ⟨gb355, 4, none⟩ = some (.slice A0_4 l0_4.length c0_4) := (blk_cell BK355.out 4).trans rfl; have hcz4_5 : w3.cell? ⟨gb355, 5, none⟩ = some (.slice A0_5 l0_5.length c0_5) := (blk_cell BK355.out 5).trans rfl; have hfz4_0 := blk_frozen BK355.out 0; have hfz4_1 := blk_frozen BK355.out 1; have hfz4_2 := blk_frozen BK355.out 2; have hfz4_3 := blk_frozen BK355.out 3; have hfz4_4 := blk_frozen BK355.out 4; have hfz4_5 := blk_frozen BK355.out 5) | ((with_reducible refine gate_callee (f := 44) rfl ?_); refine goesL_ (some 9) rfl rfl Try.func44 (by kernel_rfl) rfl #[.agg #[.string a0_0, .slice A0_1 l0_1.length c0_1, .string a0_2, .slice A0_3 l0_3.length c0_3, .slice A0_4 l0_4.length c0_4, .slice A0_5 l0_5.length c0_5]] rfl (by (try simp only [List.map_toArray, List.map_cons, List.map_nil]); first | done | rfl | (simp only [List.length_drop, List.length_take]; rfl)) ?_; (with_reducible refine (truantref10_Is.calls a0_0 _ _ l0_1 a0_2 _ _ l0_3 _ _ l0_4 _ _ l0_5 t356 _ ?side1 ?side2 ?side3 ?side4 ?side5 ?side6 ?side7 ?side8 A2.out).mono ?_); (case side1 => repeat (first | exact (Kd.C_below HR0_1.out HB.out) | (with_reducible refine Kd.C_alloc ?_ _) | (with_reducible refine Kd.C_drewN ?_ _) | (with_reducible refine Kd.C_drew ?_))); (case side2 => exact HC0_1.out); (case side3 => repeat (first | exact (Kd.C_below HR0_3.out HB.out) | (with_reducible refine Kd.C_alloc ?_ _) | (with_reducible refine Kd.C_drewN ?_ _) | (with_reducible refine Kd.C_drew ?_))); (case side4 => exact HC0_3.out); (case side5 => repeat (first | exact (Kd.C_below HR0_4.out HB.out) | (with_reducible refine Kd.C_alloc ?_ _) | (with_reducible refine Kd.C_drewN ?_ _) | (with_reducible refine Kd.C_drew ?_))); (case side6 => exact HC0_4.out); (case side7 => repeat (first | exact (Kd.C_below HR0_5.out HB.out) | (with_reducible refine Kd.C_alloc ?_ _) | (with_reducible refine Kd.C_drewN ?_ _) | (with_reducible refine Kd.C_drew ?_))); (case side8 => exact HC0_5.out); rintro e w5 ⟨v357, rfl, ho0, hb⟩; refine ⟨_, rfl, ?_⟩; have n0_ := Aside0.mk (Kd.S_lower ho0 (below_size (by repeat (first | (with_reducible first | exact HB.out | apply below_alloc | apply pw_below_drewN | apply below_drew1 | refine below_set ?_ GE355.out) | exact HB.out)))); have n1_ := Aside0.mk (blk_below (g := gb355) (o := .cells #[.string a0_0, .slice A0_1 l0_1.length c0_1, .string a0_2, .slice A0_3 l0_3.length c0_3, .slice A0_4 l0_4.length c0_4, .slice A0_5 l0_5.length c0_5] 26 (0, 0)) (by (with_reducible repeat (first | refine blk_drewN ?_ _ | refine blk_drew ?_ | refine blk_alloc ?_ _)); exact BK355.out) hb); have n2_ := Aside0.mk (below_step (by repeat (first | (with_reducible first | exact HB.out | apply below_alloc | apply pw_below_drewN | apply below_drew1 | refine below_set ?_ GE355.out) | exact HB.out)) hb); clear BK355; clear HB; have HO358 := n0_; have BK355 := n1_; have HB := n2_; clear n0_ n1_ n2_; (try clear hb); (try clear hb2); (try clear hk); (try clear hi); (try clear ho0)) | ((with_reducible refine gate_dst (N := 10) rfl ?_); refine Kd.R_lit (Kd.int .i64) _ 3 ?hg (N := 10) ?hd (xs := ([] : List Int)) (inner := []) (ok := fun _ => True) (okp := fun _ => True) ?hr ?hp (fun _ hk => hk) trivial (Below.refl _ _) (Nat.le_refl _) (by simp) ?_; (case hd => rfl); (case hg => rfl); (case hr => first | (go_simp; done) | (go_simp; rfl)); (case hp => exact (Reps.none _ _)); intro v360 w6 ho7 hb hg_ hnew_; clear hg_ hnew_; (first | rw [← Ny359.out] at ho7 | (simp only [Int.reduceToNat] at ho7; rw [← Ny359.out] at ho7)); have n0_ := Aside0.mk (Kd.S_below (by (with_reducible repeat (first | apply Kd.S_alloc | apply Kd.S_drewN | apply Kd.S_drew)); exact HO358.out) hb); have n1_ := Aside0.mk (Kd.R_lower ho7 (below_size (by repeat (first | (with_reducible first | exact HB.out | apply below_alloc | apply pw_below_drewN | apply below_drew1 | refine below_set ?_ GE355.out) | exact HB.out)))); have n2_ := Aside0.mk (blk_below (g := gb355) (o := .cells #[.string a0_0, .slice A0_1 l0_1.length c0_1, .string a0_2, .slice A0_3 l0_3.length c0_3, .slice A0_4 l0_4.length c0_4, .slice A0_5 l0_5.length c0_5] 26 (0, 0)) (by (with_reducible repeat (first | refine blk_drewN ?_ _ | refine blk_drew ?_ | refine blk_alloc ?_ _)); exact BK355.out) hb); have n3_ := Aside0.mk (below_step (by repeat (first | (with_reducible first | exact HB.out | apply below_alloc | apply pw_below_drewN | apply below_drew1 | refine below_set ?_ GE355.out) | exact HB.out)) hb); clear HO358; clear BK355; clear HB; have HO358 := n0_; have HO361 := n1_; have BK355 := n2_; have HB := n3_; clear n0_ n1_ n2_ n3_; clear hb ho7))
 go_loopg [4, 5] k (fun kq v4 v5 w' => ∃ (x4_1 : List Int) (x5_1 : Int), v5 = .int .i64 x5_1 ∧ Aside0 (truantref10_Nearest.l0 kq t356 x4_1 x5_1 a0_0 l0_1 a0_2 l0_3 l0_4 l0_5 = some r) ∧ Aside0 (kq ≤ k) ∧ Aside0 (Kd.S (Kd.slice 4 Kd.bool) 31 w' w.heap.size (fun _ => True) v357 t356) ∧ Aside0 (Kd.R (Kd.int .i64) 3 w' w.heap.size (fun _ => True) v4 x4_1) ∧ Aside0 (w'.heap[gb355]? = some (.cells #[.string a0_0, (.slice A0_1 l0_1.length c0_1), .string a0_2, (.slice A0_3 l0_3.length c0_3), (.slice A0_4 l0_4.length c0_4), (.slice A0_5 l0_5.length c0_5)] 26 (0, 0))) ∧ Aside0 (Below w.heap.size w w'))
 case atStart => exact ⟨(y359), (0), (by first | rfl | (simp; done) | (simp [*]; done)), H', ⟨Nat.le_refl _⟩, ⟨by (with_reducible repeat (first | apply Kd.S_alloc | apply Kd.S_drewN | apply Kd.S_drew)); exact HO358.out⟩, ⟨by (with_reducible repeat (first | apply Kd.R_alloc | apply Kd.R_drewN | apply Kd.R_drew)); exact HO361.out⟩, ⟨by (with_reducible repeat (first | refine blk_drewN ?_ _ | refine blk_drew ?_ | refine blk_alloc ?_ _)); exact BK355.out⟩, ⟨by repeat (first | (with_reducible first | exact HB.out | apply below_alloc | apply pw_below_drewN | apply below_drew1 | refine below_set ?_ GE355.out) | exact HB.out)⟩⟩
 case round =>
  clear H'
  try clear p2
  try clear c4
  try clear hcz4_0
  try clear hcz4_1
  try clear hcz4_2
  try clear hcz4_3
  try clear hcz4_4
  try clear hcz4_5
  try clear hfz4_0
  try clear hfz4_1
  try clear hfz4_2
  try clear hfz4_3
  try clear hfz4_4
  try clear hfz4_5
  obtain ⟨x4_1, x5_1, rfl, HA, HK1, HO_3, HO_4, BK355, HB⟩ := hrel
  cases gk with
  | zero => exact absurd HA.out (by simp [truantref10_Nearest.l0])
  | succ k1 =>
   have H := HA.out
   clear HA
   simp only [truantref10_Nearest.l0] at H
   by_cases c8 : x5_1 < (l0_5.length : Int)
   ·rw [if_pos c8] at H
    have c8b0 : decide (x5_1 < (l0_5.length : Int)) = true := decide_eq_true c8
    clear c8
    have H' := Aside0.mk H
    clear H
    have hcz9_0 : wr.cell? ⟨gb355, 0, none⟩ = some (.string a0_0) := (blk_cell BK355.out 0).trans rfl
    have hcz9_1 : wr.cell? ⟨gb355, 1, none⟩ = some (.slice A0_1 l0_1.length c0_1) := (blk_cell BK355.out 1).trans rfl
    have hcz9_2 : wr.cell? ⟨gb355, 2, none⟩ = some (.string a0_2) := (blk_cell BK355.out 2).trans rfl
    have hcz9_3 : wr.cell? ⟨gb355, 3, none⟩ = some (.slice A0_3 l0_3.length c0_3) := (blk_cell BK355.out 3).trans rfl
    have hcz9_4 : wr.cell? ⟨gb355, 4, none⟩ = some (.slice A0_4 l0_4.length c0_4) := (blk_cell BK355.out 4).trans rfl
    have hcz9_5 : wr.cell? ⟨gb355, 5, none⟩ = some (.slice A0_5 l0_5.length c0_5) := (blk_cell BK355.out 5).trans rfl
    have hfz9_0 := blk_frozen BK355.out 0
    have hfz9_1 := blk_frozen BK355.out 1
    have hfz9_2 := blk_frozen BK355.out 2
    have hfz9_3 := blk_frozen BK355.out 3
    have hfz9_4 := blk_frozen BK355.out 4
    have hfz9_5 := blk_frozen BK355.out 5
    go_wp2
    go_loopg [6, 7] k1 (fun kq v6 v7 w' => ∃ (x6_2 : Int) (x7_2 : Int), v6 = .int .i64 x6_2 ∧ v7 = .int .i64 x7_2 ∧ Aside0 (truantref10_Nearest.l1 kq t356 x4_1 x5_1 x6_2 x7_2 a0_0 l0_1 a0_2 l0_3 l0_4 l0_5 = some r) ∧ Aside0 (kq ≤ k1) ∧ Aside0 (Kd.S (Kd.slice 4 Kd.bool) 31 w' w.heap.size (fun _ => True) v357 t356) ∧ Aside0 (Kd.R (Kd.int .i64) 3 w' w.heap.size (fun _ => True) u4 x4_1) ∧ Aside0 (w'.heap[gb355]? = some (.cells #[.string a0_0, (.slice A0_1 l0_1.length c0_1), .string a0_2, (.slice A0_3 l0_3.length c0_3), (.slice A0_4 l0_4.length c0_4), (.slice A0_5 l0_5.length c0_5)] 26 (0, 0))) ∧ Aside0 (Below w.heap.size w w'))
    case atStart => exact ⟨((-1)), (0), (by first | rfl | (simp; done) | (simp [*]; done)), (by first | rfl | (simp; done) | (simp [*]; done)), H', ⟨Nat.le_refl _⟩, ⟨by (with_reducible repeat (first | apply Kd.S_alloc | apply Kd.S_drewN | apply Kd.S_drew)); exact HO_3.out⟩, ⟨by (with_reducible repeat (first | apply Kd.R_alloc | apply Kd.R_drewN | apply Kd.R_drew)); exact HO_4.out⟩, ⟨by (with_reducible repeat (first | refine blk_drewN ?_ _ | refine blk_drew ?_ | refine blk_alloc ?_ _)); exact BK355.out⟩, ⟨by repeat (first | (with_reducible first | exact HB.out | apply below_alloc | apply pw_below_drewN | apply below_drew1 | refine below_set ?_ GE355.out) | exact HB.out)⟩⟩
    case round =>
     clear H'
     try clear p2
     try clear c4
     try clear c8
     try clear c8b0
     try clear hcz4_0
     try clear hcz4_1
     try clear hcz4_2
     try clear hcz4_3
     try clear hcz4_4
     try clear hcz4_5
     try clear hcz9_0
     try clear hcz9_1
     try clear hcz9_2
     try clear hcz9_3
     try clear hcz9_4
     try clear hcz9_5
     try clear hfz4_0
     try clear hfz4_1
     try clear hfz4_2
     try clear hfz4_3
     try clear hfz4_4
     try clear hfz4_5
     try clear hfz9_0
     try clear hfz9_1
     try clear hfz9_2
     try clear hfz9_3
     try clear hfz9_4
     try clear hfz9_5
     try clear p2
     obtain ⟨x6_2, x7_2, rfl, rfl, HA, HK2, HO_3, HO_4, BK355, HB⟩ := hrel
     cases gk with
     | zero => exact absurd HA.out (by simp [truantref10_Nearest.l1])
     | succ k2 =>
      have H := HA.out
      clear HA
      simp only [truantref10_Nearest.l1] at H
      by_cases c10 : x7_2 < (l0_5.length : Int)
      ·rw [if_pos c10] at H
       have c10b0 : decide (x7_2 < (l0_5.length : Int)) = true := decide_eq_true c10
       clear c10
       by_cases c11 : x7_2 = x5_1
       ·rw [if_pos c11] at H
        have c11b0 : (x7_2 == x5_1) = true := beq_iff_eq.mpr c11
        have c11b1 : (x7_2 != x5_1) = false := bne_eq_false_iff_eq.mpr c11
        clear c11
        have H' := Aside0.mk H
        clear H
        have hcz12_0 : wr.cell? ⟨gb355, 0, none⟩ = some (.string a0_0) := (blk_cell BK355.out 0).trans rfl
        have hcz12_1 : wr.cell? ⟨gb355, 1, none⟩ = some (.slice A0_1 l0_1.length c0_1) := (blk_cell BK355.out 1).trans rfl
        have hcz12_2 : wr.cell? ⟨gb355, 2, none⟩ = some (.string a0_2) := (blk_cell BK355.out 2).trans rfl
        have hcz12_3 : wr.cell? ⟨gb355, 3, none⟩ = some (.slice A0_3 l0_3.length c0_3) := (blk_cell BK355.out 3).trans rfl
        have hcz12_4 : wr.cell? ⟨gb355, 4, none⟩ = some (.slice A0_4 l0_4.length c0_4) := (blk_cell BK355.out 4).trans rfl
        have hcz12_5 : wr.cell? ⟨gb355, 5, none⟩ = some (.slice A0_5 l0_5.length c0_5) := (blk_cell BK355.out 5).trans rfl
        have hfz12_0 := blk_frozen BK355.out 0
        have hfz12_1 := blk_frozen BK355.out 1
        have hfz12_2 := blk_frozen BK355.out 2
        have hfz12_3 := blk_frozen BK355.out 3
        have hfz12_4 := blk_frozen BK355.out 4
        have hfz12_5 := blk_frozen BK355.out 5
        go_wp2
        go_roundg k2
        case measure => have := HK1.out; have := HK2.out; omega
        case rel => exact ⟨(x6_2), (wrap64 (x7_2 + 1)), (by first | rfl | (simp; done) | (simp [*]; done)), (by first | rfl | (simp; done) | (simp [*]; done)), H', ⟨by have := HK1.out; have := HK2.out; omega⟩, ⟨by (with_reducible repeat (first | apply Kd.S_alloc | apply Kd.S_drewN | apply Kd.S_drew)); exact HO_3.out⟩, ⟨by (with_reducible repeat (first | apply Kd.R_alloc | apply Kd.R_drewN | apply Kd.R_drew)); exact HO_4.out⟩, ⟨by (with_reducible repeat (first | refine blk_drewN ?_ _ | refine blk_drew ?_ | refine blk_alloc ?_ _)); exact BK355.out⟩, ⟨by repeat (first | (with_reducible first | exact HB.out | apply below_alloc | apply pw_below_drewN | apply below_drew1 | refine below_set ?_ GE355.out) | exact HB.out)⟩⟩
       ·rw [if_neg c11] at H
        have c11b0 : (x7_2 == x5_1) = false := beq_eq_false_iff_ne.mpr c11
        have c11b1 : (x7_2 != x5_1) = true := bne_iff_ne.mpr c11
        by_cases c13 : 0 ≤ x7_2
        ·rw [if_pos c13] at H
         have c13b0 : decide (0 ≤ x7_2) = true := decide_eq_true c13
         clear c13
         by_cases c14 : x7_2 < (t356.length : Int)
         ·rw [if_pos c14] at H
          have c14b0 : decide (x7_2 < (t356.length : Int)) = true := decide_eq_true c14
          clear c14
          by_cases c15 : 0 ≤ x5_1
          ·rw [if_pos c15] at H
           have c15b0 : decide (0 ≤ x5_1) = true := decide_eq_true c15
           clear c15
           by_cases c16 : x5_1 < ((rd_L7 t356 x7_2).length : Int)
           ·rw [if_pos c16] at H
            have c16b0 : decide (x5_1 < ((rd_L7 t356 x7_2).length : Int)) = true := decide_eq_true c16
            clear c16
            obtain ⟨bq17, hbq17⟩ : ∃ b_ : Bool, b_ = (rdOf false (rd_L7 t356 x7_2) x5_1) := ⟨_, rfl⟩
            replace H : (if bq17 = true then (if x6_2 < 0 then (truantref10_Nearest.l1 k2 t356 x4_1 x5_1 x7_2 (wrap64 (x7_2 + 1)) a0_0 l0_1 a0_2 l0_3 l0_4 l0_5) else (if 0 ≤ x6_2 then (if x6_2 < (t356.length : Int) then (if x7_2 < ((rd_L7 t356 x6_2).length : Int) then (if rdOf false (rd_L7 t356 x6_2) x7_2 = true then (truantref10_Nearest.l1 k2 t356 x4_1 x5_1 x7_2 (wrap64 (x7_2 + 1)) a0_0 l0_1 a0_2 l0_3 l0_4 l0_5) else (truantref10_Nearest.l1 k2 t356 x4_1 x5_1 x6_2 (wrap64 (x7_2 + 1)) a0_0 l0_1 a0_2 l0_3 l0_4 l0_5)) else (none)) else (none)) else (none))) else (truantref10_Nearest.l1 k2 t356 x4_1 x5_1 x6_2 (wrap64 (x7_2 + 1)) a0_0 l0_1 a0_2 l0_3 l0_4 l0_5)) = some r := by rw [← hbq17] at H; exact H
            have Nbq17 := Aside0.mk hbq17
            clear hbq17
            by_cases c18 : bq17 = true
            ·subst c18
             have H1 : (if x6_2 < 0 then (truantref10_Nearest.l1 k2 t356 x4_1 x5_1 x7_2 (wrap64 (x7_2 + 1)) a0_0 l0_1 a0_2 l0_3 l0_4 l0_5) else (if 0 ≤ x6_2 then (if x6_2 < (t356.length : Int) then (if x7_2 < ((rd_L7 t356 x6_2).length : Int) then (if rdOf false (rd_L7 t356 x6_2) x7_2 = true then (truantref10_Nearest.l1 k2 t356 x4_1 x5_1 x7_2 (wrap64 (x7_2 + 1)) a0_0 l0_1 a0_2 l0_3 l0_4 l0_5) else (truantref10_Nearest.l1 k2 t356 x4_1 x5_1 x6_2 (wrap64 (x7_2 + 1)) a0_0 l0_1 a0_2 l0_3 l0_4 l0_5)) else (none)) else (none)) else (none))) = some r := by rw [if_pos rfl] at H; exact H
             clear H
             have H := H1
             clear H1
             by_cases c19 : x6_2 < 0
             ·rw [if_pos c19] at H
              have c19b0 : decide (x6_2 < 0) = true := decide_eq_true c19
              clear c19
              have H' := Aside0.mk H
              clear H
              have hcz20_0 : wr.cell? ⟨gb355, 0, none⟩ = some (.string a0_0) := (blk_cell BK355.out 0).trans rfl
              have hcz20_1 : wr.cell? ⟨gb355, 1, none⟩ = some (.slice A0_1 l0_1.length c0_1) := (blk_cell BK355.out 1).trans rfl
              have hcz20_2 : wr.cell? ⟨gb355, 2, none⟩ = some (.string a0_2) := (blk_cell BK355.out 2).trans rfl
              have hcz20_3 : wr.cell? ⟨gb355, 3, none⟩ = some (.slice A0_3 l0_3.length c0_3) := (blk_cell BK355.out 3).trans rfl
              have hcz20_4 : wr.cell? ⟨gb355, 4, none⟩ = some (.slice A0_4 l0_4.length c0_4) := (blk_cell BK355.out 4).trans rfl
              have hcz20_5 : wr.cell? ⟨gb355, 5, none⟩ = some (.slice A0_5 l0_5.length c0_5) := (blk_cell BK355.out 5).trans rfl
              have hfz20_0 := blk_frozen BK355.out 0
              have hfz20_1 := blk_frozen BK355.out 1
              have hfz20_2 := blk_frozen BK355.out 2
              have hfz20_3 := blk_frozen BK355.out 3
              have hfz20_4 := blk_frozen BK355.out 4
              have hfz20_5 := blk_frozen BK355.out 5
              obtain ⟨Ao21, co21, eo21⟩ := Kd.S_slice HO_3.out
              subst eo21
              have p362 : 0 ≤ (x7_2 : Int) := of_decide_eq_true (by first | (with_reducible assumption) | assumption)
              have q362 : x7_2 < (t356.length : Int) := of_decide_eq_true (by first | (with_reducible assumption) | assumption)
              obtain ⟨ad362, A362_0, c362_0, e362, hx362_0, hl362_0, hi362_0⟩ := at_L7 (Kd.S_reads' HO_3.out).2.2 x7_2 p362 q362
              cases e362
              obtain ⟨ce362, hce362, hMe362, hcc362⟩ := Kd.S_get HO_3.out [] x7_2 p362 (by first | exact q362 | exact of_decide_eq_true (by first | (with_reducible assumption) | assumption) | (have e_ := (Kd.S_reads' HO_3.out).1; omega))
              obtain ⟨ve362_0, rfl, ge362_0⟩ := hMe362
              have hv362_0 := hcc362 0 _ rfl
              rw [Nat.add_zero, show ((Kd.slice 4 Kd.bool)).sz = 1 from rfl, Nat.mul_one] at hv362_0
              replace hv362_0 := Option.some.inj (hv362_0.symm.trans hx362_0)
              rw [hv362_0] at ge362_0
              have HL362_0 := Aside0.mk (show Kd.R Kd.bool 4 _ _ _ _ (rd_L7 t356 x7_2) from ge362_0)
              clear hv362_0 ge362_0
              clear hcc362 hce362
              have HR362_0 := Aside0.mk hi362_0
              have HC362_0 := Aside0.mk hl362_0
              clear hi362_0 hl362_0
              replace p362 := eq_true p362
              replace q362 := eq_true q362
              have p363 : 0 ≤ (x5_1 : Int) := of_decide_eq_true (by first | (with_reducible assumption) | assumption)
              have q363 : x5_1 < ((rd_L7 t356 x7_2).length : Int) := of_decide_eq_true (by first | (with_reducible assumption) | assumption)
              obtain ⟨ad363, e363, hx363_0⟩ := Kd.at_bool (by repeat (first | (with_reducible exact HR362_0.out) | (with_reducible refine Kd.C_alloc ?_ _) | (with_reducible refine Kd.C_drewN ?_ _) | (with_reducible refine Kd.C_drew ?_) | exact HR362_0.out)) x5_1 p363 q363
              (try rw [← Nbq17.out] at hx363_0)
              cases e363
              replace p363 := eq_true p363
              replace q363 := eq_true q363
              go_wp2
              go_roundg k2
              case measure => have := HK1.out; have := HK2.out; omega
              case rel => exact ⟨(x7_2), (wrap64 (x7_2 + 1)), (by first | rfl | (simp; done) | (simp [*]; done)), (by first | rfl | (simp; done) | (simp [*]; done)), H', ⟨by have := HK1.out; have := HK2.out; omega⟩, ⟨by (with_reducible repeat (first | apply Kd.S_alloc | apply Kd.S_drewN | apply Kd.S_drew)); exact HO_3.out⟩, ⟨by (with_reducible repeat (first | apply Kd.R_alloc | apply Kd.R_drewN | apply Kd.R_drew)); exact HO_4.out⟩, ⟨by (with_reducible repeat (first | refine blk_drewN ?_ _ | refine blk_drew ?_ | refine blk_alloc ?_ _)); exact BK355.out⟩, ⟨by repeat (first | (with_reducible first | exact HB.out | apply below_alloc | apply pw_below_drewN | apply below_drew1 | refine below_set ?_ GE355.out) | exact HB.out)⟩⟩
             ·rw [if_neg c19] at H
              have c19b0 : decide (x6_2 < 0) = false := decide_eq_false c19
              clear c19
              by_cases c22 : 0 ≤ x6_2
              ·rw [if_pos c22] at H
               have c22b0 : decide (0 ≤ x6_2) = true := decide_eq_true c22
               clear c22
               by_cases c23 : x6_2 < (t356.length : Int)
               ·rw [if_pos c23] at H
                have c23b0 : decide (x6_2 < (t356.length : Int)) = true := decide_eq_true c23
                clear c23
                by_cases c24 : x7_2 < ((rd_L7 t356 x6_2).length : Int)
                ·rw [if_pos c24] at H
                 have c24b0 : decide (x7_2 < ((rd_L7 t356 x6_2).length : Int)) = true := decide_eq_true c24
                 clear c24
                 obtain ⟨bq25, hbq25⟩ : ∃ b_ : Bool, b_ = (rdOf false (rd_L7 t356 x6_2) x7_2) := ⟨_, rfl⟩
                 replace H : (if bq25 = true then (truantref10_Nearest.l1 k2 t356 x4_1 x5_1 x7_2 (wrap64 (x7_2 + 1)) a0_0 l0_1 a0_2 l0_3 l0_4 l0_5) else (truantref10_Nearest.l1 k2 t356 x4_1 x5_1 x6_2 (wrap64 (x7_2 + 1)) a0_0 l0_1 a0_2 l0_3 l0_4 l0_5)) = some r := by rw [← hbq25] at H; exact H
                 have Nbq25 := Aside0.mk hbq25
                 clear hbq25
                 by_cases c26 : bq25 = true
                 ·subst c26
                  have H1 : (truantref10_Nearest.l1 k2 t356 x4_1 x5_1 x7_2 (wrap64 (x7_2 + 1)) a0_0 l0_1 a0_2 l0_3 l0_4 l0_5) = some r := by rw [if_pos rfl] at H; exact H
                  clear H
                  have H := H1
                  clear H1
                  have H' := Aside0.mk H
                  clear H
                  have hcz27_0 : wr.cell? ⟨gb355, 0, none⟩ = some (.string a0_0) := (blk_cell BK355.out 0).trans rfl
                  have hcz27_1 : wr.cell? ⟨gb355, 1, none⟩ = some (.slice A0_1 l0_1.length c0_1) := (blk_cell BK355.out 1).trans rfl
                  have hcz27_2 : wr.cell? ⟨gb355, 2, none⟩ = some (.string a0_2) := (blk_cell BK355.out 2).trans rfl
                  have hcz27_3 : wr.cell? ⟨gb355, 3, none⟩ = some (.slice A0_3 l0_3.length c0_3) := (blk_cell BK355.out 3).trans rfl
                  have hcz27_4 : wr.cell? ⟨gb355, 4, none⟩ = some (.slice A0_4 l0_4.length c0_4) := (blk_cell BK355.out 4).trans rfl
                  have hcz27_5 : wr.cell? ⟨gb355, 5, none⟩ = some (.slice A0_5 l0_5.length c0_5) := (blk_cell BK355.out 5).trans rfl
                  have hfz27_0 := blk_frozen BK355.out 0
                  have hfz27_1 := blk_frozen BK355.out 1
                  have hfz27_2 := blk_frozen BK355.out 2
                  have hfz27_3 := blk_frozen BK355.out 3
                  have hfz27_4 := blk_frozen BK355.out 4
                  have hfz27_5 := blk_frozen BK355.out 5
                  obtain ⟨Ao28, co28, eo28⟩ := Kd.S_slice HO_3.out
                  subst eo28
                  have p362 : 0 ≤ (x7_2 : Int) := of_decide_eq_true (by first | (with_reducible assumption) | assumption)
                  have q362 : x7_2 < (t356.length : Int) := of_decide_eq_true (by first | (with_reducible assumption) | assumption)
                  obtain ⟨ad362, A362_0, c362_0, e362, hx362_0, hl362_0, hi362_0⟩ := at_L7 (Kd.S_reads' HO_3.out).2.2 x7_2 p362 q362
                  cases e362
                  obtain ⟨ce362, hce362, hMe362, hcc362⟩ := Kd.S_get HO_3.out [] x7_2 p362 (by first | exact q362 | exact of_decide_eq_true (by first | (with_reducible assumption) | assumption) | (have e_ := (Kd.S_reads' HO_3.out).1; omega))
                  obtain ⟨ve362_0, rfl, ge362_0⟩ := hMe362
                  have hv362_0 := hcc362 0 _ rfl
                  rw [Nat.add_zero, show ((Kd.slice 4 Kd.bool)).sz = 1 from rfl, Nat.mul_one] at hv362_0
                  replace hv362_0 := Option.some.inj (hv362_0.symm.trans hx362_0)
                  rw [hv362_0] at ge362_0
                  have HL362_0 := Aside0.mk (show Kd.R Kd.bool 4 _ _ _ _ (rd_L7 t356 x7_2) from ge362_0)
                  clear hv362_0 ge362_0
                  clear hcc362 hce362
                  have HR362_0 := Aside0.mk hi362_0
                  have HC362_0 := Aside0.mk hl362_0
                  clear hi362_0 hl362_0
                  replace p362 := eq_true p362
                  replace q362 := eq_true q362
                  have p363 : 0 ≤ (x5_1 : Int) := of_decide_eq_true (by first | (with_reducible assumption) | assumption)
                  have q363 : x5_1 < ((rd_L7 t356 x7_2).length : Int) := of_decide_eq_true (by first | (with_reducible assumption) | assumption)
                  obtain ⟨ad363, e363, hx363_0⟩ := Kd.at_bool (by repeat (first | (with_reducible exact HR362_0.out) | (with_reducible refine Kd.C_alloc ?_ _) | (with_reducible refine Kd.C_drewN ?_ _) | (with_reducible refine Kd.C_drew ?_) | exact HR362_0.out)) x5_1 p363 q363
                  (try rw [← Nbq17.out] at hx363_0)
                  (try rw [← Nbq25.out] at hx363_0)
                  cases e363
                  replace p363 := eq_true p363
                  replace q363 := eq_true q363
                  have p364 : 0 ≤ (x6_2 : Int) := of_decide_eq_true (by first | (with_reducible assumption) | assumption)
                  have q364 : x6_2 < (t356.length : Int) := of_decide_eq_true (by first | (with_reducible assumption) | assumption)
                  obtain ⟨ad364, A364_0, c364_0, e364, hx364_0, hl364_0, hi364_0⟩ := at_L7 (Kd.S_reads' HO_3.out).2.2 x6_2 p364 q364
                  obtain rfl : ad362 = ad364 := (by injection e364)
                  obtain ⟨ce364, hce364, hMe364, hcc364⟩ := Kd.S_get HO_3.out [] x6_2 p364 (by first | exact q364 | exact of_decide_eq_true (by first | (with_reducible assumption) | assumption) | (have e_ := (Kd.S_reads' HO_3.out).1; omega))
                  obtain ⟨ve364_0, rfl, ge364_0⟩ := hMe364
                  have hv364_0 := hcc364 0 _ rfl
                  rw [Nat.add_zero, show ((Kd.slice 4 Kd.bool)).sz = 1 from rfl, Nat.mul_one] at hv364_0
                  replace hv364_0 := Option.some.inj (hv364_0.symm.trans hx364_0)
                  rw [hv364_0] at ge364_0
                  have HL364_0 := Aside0.mk (show Kd.R Kd.bool 4 _ _ _ _ (rd_L7 t356 x6_2) from ge364_0)
                  clear hv364_0 ge364_0
                  clear hcc364 hce364
                  have HR364_0 := Aside0.mk hi364_0
                  have HC364_0 := Aside0.mk hl364_0
                  clear hi364_0 hl364_0
                  replace p364 := eq_true p364
                  replace q364 := eq_true q364
                  have p365 : 0 ≤ (x7_2 : Int) := of_decide_eq_true (by first | (with_reducible assumption) | assumption)
                  have q365 : x7_2 < ((rd_L7 t356 x6_2).length : Int) := of_decide_eq_true (by first | (with_reducible assumption) | assumption)
                  obtain ⟨ad365, e365, hx365_0⟩ := Kd.at_bool (by repeat (first | (with_reducible exact HR364_0.out) | (with_reducible refine Kd.C_alloc ?_ _) | (with_reducible refine Kd.C_drewN ?_ _) | (with_reducible refine Kd.C_drew ?_) | exact HR364_0.out)) x7_2 p365 q365
                  (try rw [← Nbq17.out] at hx365_0)
                  (try rw [← Nbq25.out] at hx365_0)
                  cases e365
                  replace p365 := eq_true p365
                  replace q365 := eq_true q365
                  go_wp2
                  go_roundg k2
                  case measure => have := HK1.out; have := HK2.out; omega
                  case rel => exact ⟨(x7_2), (wrap64 (x7_2 + 1)), (by first | rfl | (simp; done) | (simp [*]; done)), (by first | rfl | (simp; done) | (simp [*]; done)), H', ⟨by have := HK1.out; have := HK2.out; omega⟩, ⟨by (with_reducible repeat (first | apply Kd.S_alloc | apply Kd.S_drewN | apply Kd.S_drew)); exact HO_3.out⟩, ⟨by (with_reducible repeat (first | apply Kd.R_alloc | apply Kd.R_drewN | apply Kd.R_drew)); exact HO_4.out⟩, ⟨by (with_reducible repeat (first | refine blk_drewN ?_ _ | refine blk_drew ?_ | refine blk_alloc ?_ _)); exact BK355.out⟩, ⟨by repeat (first | (with_reducible first | exact HB.out | apply below_alloc | apply pw_below_drewN | apply below_drew1 | refine below_set ?_ GE355.out) | exact HB.out)⟩⟩
                 ·replace c26 := Bool.eq_false_iff.mpr c26
                  subst c26
                  have H1 : (truantref10_Nearest.l1 k2 t356 x4_1 x5_1 x6_2 (wrap64 (x7_2 + 1)) a0_0 l0_1 a0_2 l0_3 l0_4 l0_5) = some r := by rw [if_neg (show ¬ (false = true) by decide)] at H; exact H
                  clear H
                  have H := H1
                  clear H1
                  have H' := Aside0.mk H
                  clear H
                  have hcz29_0 : wr.cell? ⟨gb355, 0, none⟩ = some (.string a0_0) := (blk_cell BK355.out 0).trans rfl
                  have hcz29_1 : wr.cell? ⟨gb355, 1, none⟩ = some (.slice A0_1 l0_1.length c0_1) := (blk_cell BK355.out 1).trans rfl
                  have hcz29_2 : wr.cell? ⟨gb355, 2, none⟩ = some (.string a0_2) := (blk_cell BK355.out 2).trans rfl
                  have hcz29_3 : wr.cell? ⟨gb355, 3, none⟩ = some (.slice A0_3 l0_3.length c0_3) := (blk_cell BK355.out 3).trans rfl
                  have hcz29_4 : wr.cell? ⟨gb355, 4, none⟩ = some (.slice A0_4 l0_4.length c0_4) := (blk_cell BK355.out 4).trans rfl
                  have hcz29_5 : wr.cell? ⟨gb355, 5, none⟩ = some (.slice A0_5 l0_5.length c0_5) := (blk_cell BK355.out 5).trans rfl
                  have hfz29_0 := blk_frozen BK355.out 0
                  have hfz29_1 := blk_frozen BK355.out 1
                  have hfz29_2 := blk_frozen BK355.out 2
                  have hfz29_3 := blk_frozen BK355.out 3
                  have hfz29_4 := blk_frozen BK355.out 4
                  have hfz29_5 := blk_frozen BK355.out 5
                  obtain ⟨Ao30, co30, eo30⟩ := Kd.S_slice HO_3.out
                  subst eo30
                  have p362 : 0 ≤ (x7_2 : Int) := of_decide_eq_true (by first | (with_reducible assumption) | assumption)
                  have q362 : x7_2 < (t356.length : Int) := of_decide_eq_true (by first | (with_reducible assumption) | assumption)
                  obtain ⟨ad362, A362_0, c362_0, e362, hx362_0, hl362_0, hi362_0⟩ := at_L7 (Kd.S_reads' HO_3.out).2.2 x7_2 p362 q362
                  cases e362
                  obtain ⟨ce362, hce362, hMe362, hcc362⟩ := Kd.S_get HO_3.out [] x7_2 p362 (by first | exact q362 | exact of_decide_eq_true (by first | (with_reducible assumption) | assumption) | (have e_ := (Kd.S_reads' HO_3.out).1; omega))
                  obtain ⟨ve362_0, rfl, ge362_0⟩ := hMe362
                  have hv362_0 := hcc362 0 _ rfl
                  rw [Nat.add_zero, show ((Kd.slice 4 Kd.bool)).sz = 1 from rfl, Nat.mul_one] at hv362_0
                  replace hv362_0 := Option.some.inj (hv362_0.symm.trans hx362_0)
                  rw [hv362_0] at ge362_0
                  have HL362_0 := Aside0.mk (show Kd.R Kd.bool 4 _ _ _ _ (rd_L7 t356 x7_2) from ge362_0)
                  clear hv362_0 ge362_0
                  clear hcc362 hce362
                  have HR362_0 := Aside0.mk hi362_0
                  have HC362_0 := Aside0.mk hl362_0
                  clear hi362_0 hl362_0
                  replace p362 := eq_true p362
                  replace q362 := eq_true q362
                  have p363 : 0 ≤ (x5_1 : Int) := of_decide_eq_true (by first | (with_reducible assumption) | assumption)
                  have q363 : x5_1 < ((rd_L7 t356 x7_2).length : Int) := of_decide_eq_true (by first | (with_reducible assumption) | assumption)
                  obtain ⟨ad363, e363, hx363_0⟩ := Kd.at_bool (by repeat (first | (with_reducible exact HR362_0.out) | (with_reducible refine Kd.C_alloc ?_ _) | (with_reducible refine Kd.C_drewN ?_ _) | (with_reducible refine Kd.C_drew ?_) | exact HR362_0.out)) x5_1 p363 q363
                  (try rw [← Nbq17.out] at hx363_0)
                  (try rw [← Nbq25.out] at hx363_0)
                  cases e363
                  replace p363 := eq_true p363
                  replace q363 := eq_true q363
                  have p364 : 0 ≤ (x6_2 : Int) := of_decide_eq_true (by first | (with_reducible assumption) | assumption)
                  have q364 : x6_2 < (t356.length : Int) := of_decide_eq_true (by first | (with_reducible assumption) | assumption)
                  obtain ⟨ad364, A364_0, c364_0, e364, hx364_0, hl364_0, hi364_0⟩ := at_L7 (Kd.S_reads' HO_3.out).2.2 x6_2 p364 q364
                  obtain rfl : ad362 = ad364 := (by injection e364)
                  obtain ⟨ce364, hce364, hMe364, hcc364⟩ := Kd.S_get HO_3.out [] x6_2 p364 (by first | exact q364 | exact of_decide_eq_true (by first | (with_reducible assumption) | assumption) | (have e_ := (Kd.S_reads' HO_3.out).1; omega))
                  obtain ⟨ve364_0, rfl, ge364_0⟩ := hMe364
                  have hv364_0 := hcc364 0 _ rfl
                  rw [Nat.add_zero, show ((Kd.slice 4 Kd.bool)).sz = 1 from rfl, Nat.mul_one] at hv364_0
                  replace hv364_0 := Option.some.inj (hv364_0.symm.trans hx364_0)
                  rw [hv364_0] at ge364_0
                  have HL364_0 := Aside0.mk (show Kd.R Kd.bool 4 _ _ _ _ (rd_L7 t356 x6_2) from ge364_0)
                  clear hv364_0 ge364_0
                  clear hcc364 hce364
                  have HR364_0 := Aside0.mk hi364_0
                  have HC364_0 := Aside0.mk hl364_0
                  clear hi364_0 hl364_0
                  replace p364 := eq_true p364
                  replace q364 := eq_true q364
                  have p365 : 0 ≤ (x7_2 : Int) := of_decide_eq_true (by first | (with_reducible assumption) | assumption)
                  have q365 : x7_2 < ((rd_L7 t356 x6_2).length : Int) := of_decide_eq_true (by first | (with_reducible assumption) | assumption)
                  obtain ⟨ad365, e365, hx365_0⟩ := Kd.at_bool (by repeat (first | (with_reducible exact HR364_0.out) | (with_reducible refine Kd.C_alloc ?_ _) | (with_reducible refine Kd.C_drewN ?_ _) | (with_reducible refine Kd.C_drew ?_) | exact HR364_0.out)) x7_2 p365 q365
                  (try rw [← Nbq17.out] at hx365_0)
                  (try rw [← Nbq25.out] at hx365_0)
                  cases e365
                  replace p365 := eq_true p365
                  replace q365 := eq_true q365
                  go_wp2
                  go_roundg k2
                  case measure => have := HK1.out; have := HK2.out; omega
                  case rel => exact ⟨(x6_2), (wrap64 (x7_2 + 1)), (by first | rfl | (simp; done) | (simp [*]; done)), (by first | rfl | (simp; done) | (simp [*]; done)), H', ⟨by have := HK1.out; have := HK2.out; omega⟩, ⟨by (with_reducible repeat (first | apply Kd.S_alloc | apply Kd.S_drewN | apply Kd.S_drew)); exact HO_3.out⟩, ⟨by (with_reducible repeat (first | apply Kd.R_alloc | apply Kd.R_drewN | apply Kd.R_drew)); exact HO_4.out⟩, ⟨by (with_reducible repeat (first | refine blk_drewN ?_ _ | refine blk_drew ?_ | refine blk_alloc ?_ _)); exact BK355.out⟩, ⟨by repeat (first | (with_reducible first | exact HB.out | apply below_alloc | apply pw_below_drewN | apply below_drew1 | refine below_set ?_ GE355.out) | exact HB.out)⟩⟩
                ·rw [if_neg c24] at H
                 exact absurd H (by simp)
               ·rw [if_neg c23] at H
                exact absurd H (by simp)
              ·rw [if_neg c22] at H
               exact absurd H (by simp)
            ·replace c18 := Bool.eq_false_iff.mpr c18
             subst c18
             have H1 : (truantref10_Nearest.l1 k2 t356 x4_1 x5_1 x6_2 (wrap64 (x7_2 + 1)) a0_0 l0_1 a0_2 l0_3 l0_4 l0_5) = some r := by rw [if_neg (show ¬ (false = true) by decide)] at H; exact H
             clear H
             have H := H1
             clear H1
             have H' := Aside0.mk H
             clear H
             have hcz31_0 : wr.cell? ⟨gb355, 0, none⟩ = some (.string a0_0) := (blk_cell BK355.out 0).trans rfl
             have hcz31_1 : wr.cell? ⟨gb355, 1, none⟩ = some (.slice A0_1 l0_1.length c0_1) := (blk_cell BK355.out 1).trans rfl
             have hcz31_2 : wr.cell? ⟨gb355, 2, none⟩ = some (.string a0_2) := (blk_cell BK355.out 2).trans rfl
             have hcz31_3 : wr.cell? ⟨gb355, 3, none⟩ = some (.slice A0_3 l0_3.length c0_3) := (blk_cell BK355.out 3).trans rfl
             have hcz31_4 : wr.cell? ⟨gb355, 4, none⟩ = some (.slice A0_4 l0_4.length c0_4) := (blk_cell BK355.out 4).trans rfl
             have hcz31_5 : wr.cell? ⟨gb355, 5, none⟩ = some (.slice A0_5 l0_5.length c0_5) := (blk_cell BK355.out 5).trans rfl
             have hfz31_0 := blk_frozen BK355.out 0
             have hfz31_1 := blk_frozen BK355.out 1
             have hfz31_2 := blk_frozen BK355.out 2
             have hfz31_3 := blk_frozen BK355.out 3
             have hfz31_4 := blk_frozen BK355.out 4
             have hfz31_5 := blk_frozen BK355.out 5
             obtain ⟨Ao32, co32, eo32⟩ := Kd.S_slice HO_3.out
             subst eo32
             have p362 : 0 ≤ (x7_2 : Int) := of_decide_eq_true (by first | (with_reducible assumption) | assumption)
             have q362 : x7_2 < (t356.length : Int) := of_decide_eq_true (by first | (with_reducible assumption) | assumption)
             obtain ⟨ad362, A362_0, c362_0, e362, hx362_0, hl362_0, hi362_0⟩ := at_L7 (Kd.S_reads' HO_3.out).2.2 x7_2 p362 q362
             cases e362
             obtain ⟨ce362, hce362, hMe362, hcc362⟩ := Kd.S_get HO_3.out [] x7_2 p362 (by first | exact q362 | exact of_decide_eq_true (by first | (with_reducible assumption) | assumption) | (have e_ := (Kd.S_reads' HO_3.out).1; omega))
             obtain ⟨ve362_0, rfl, ge362_0⟩ := hMe362
             have hv362_0 := hcc362 0 _ rfl
             rw [Nat.add_zero, show ((Kd.slice 4 Kd.bool)).sz = 1 from rfl, Nat.mul_one] at hv362_0
             replace hv362_0 := Option.some.inj (hv362_0.symm.trans hx362_0)
             rw [hv362_0] at ge362_0
             have HL362_0 := Aside0.mk (show Kd.R Kd.bool 4 _ _ _ _ (rd_L7 t356 x7_2) from ge362_0)
             clear hv362_0 ge362_0
             clear hcc362 hce362
             have HR362_0 := Aside0.mk hi362_0
             have HC362_0 := Aside0.mk hl362_0
             clear hi362_0 hl362_0
             replace p362 := eq_true p362
             replace q362 := eq_true q362
             have p363 : 0 ≤ (x5_1 : Int) := of_decide_eq_true (by first | (with_reducible assumption) | assumption)
             have q363 : x5_1 < ((rd_L7 t356 x7_2).length : Int) := of_decide_eq_true (by first | (with_reducible assumption) | assumption)
             obtain ⟨ad363, e363, hx363_0⟩ := Kd.at_bool (by repeat (first | (with_reducible exact HR362_0.out) | (with_reducible refine Kd.C_alloc ?_ _) | (with_reducible refine Kd.C_drewN ?_ _) | (with_reducible refine Kd.C_drew ?_) | exact HR362_0.out)) x5_1 p363 q363
             (try rw [← Nbq17.out] at hx363_0)
             cases e363
             replace p363 := eq_true p363
             replace q363 := eq_true q363
             go_wp2
             go_roundg k2
             case measure => have := HK1.out; have := HK2.out; omega
             case rel => exact ⟨(x6_2), (wrap64 (x7_2 + 1)), (by first | rfl | (simp; done) | (simp [*]; done)), (by first | rfl | (simp; done) | (simp [*]; done)), H', ⟨by have := HK1.out; have := HK2.out; omega⟩, ⟨by (with_reducible repeat (first | apply Kd.S_alloc | apply Kd.S_drewN | apply Kd.S_drew)); exact HO_3.out⟩, ⟨by (with_reducible repeat (first | apply Kd.R_alloc | apply Kd.R_drewN | apply Kd.R_drew)); exact HO_4.out⟩, ⟨by (with_reducible repeat (first | refine blk_drewN ?_ _ | refine blk_drew ?_ | refine blk_alloc ?_ _)); exact BK355.out⟩, ⟨by repeat (first | (with_reducible first | exact HB.out | apply below_alloc | apply pw_below_drewN | apply below_drew1 | refine below_set ?_ GE355.out) | exact HB.out)⟩⟩
           ·rw [if_neg c16] at H
            exact absurd H (by simp)
          ·rw [if_neg c15] at H
           exact absurd H (by simp)
         ·rw [if_neg c14] at H
          exact absurd H (by simp)
        ·rw [if_neg c13] at H
         exact absurd H (by simp)
      ·rw [if_neg c10] at H
       have c10b0 : decide (x7_2 < (l0_5.length : Int)) = false := decide_eq_false c10
       clear c10
       by_cases c33 : x4_1.length < 17592186044416
       ·rw [if_pos c33] at H
        have LMc33 := Aside0.mk c33
        clear c33
        obtain ⟨y366, hy366⟩ : ∃ y_ : List Int, y_ = (x4_1 ++ [x6_2]) := ⟨_, rfl⟩
        replace H : (truantref10_Nearest.l0 k2 t356 y366 (wrap64 (x5_1 + 1)) a0_0 l0_1 a0_2 l0_3 l0_4 l0_5) = some r := by first | (rw [hy366]; with_reducible exact H) | (have H2_ := (Option.bind_some _ _).symm.trans H; rw [hy366]; with_reducible exact H2_) | (have H2_ := (Option.bind_some _ _).symm.trans H; with_reducible exact H2_) | with_reducible exact H | (rw [hy366]; exact H) | exact H
        have Ny366 := Aside0.mk hy366
        clear hy366
        have H' := Aside0.mk H
        clear H
        have hcz34_0 : wr.cell? ⟨gb355, 0, none⟩ = some (.string a0_0) := (blk_cell BK355.out 0).trans rfl
        have hcz34_1 : wr.cell? ⟨gb355, 1, none⟩ = some (.slice A0_1 l0_1.length c0_1) := (blk_cell BK355.out 1).trans rfl
        have hcz34_2 : wr.cell? ⟨gb355, 2, none⟩ = some (.string a0_2) := (blk_cell BK355.out 2).trans rfl
        have hcz34_3 : wr.cell? ⟨gb355, 3, none⟩ = some (.slice A0_3 l0_3.length c0_3) := (blk_cell BK355.out 3).trans rfl
        have hcz34_4 : wr.cell? ⟨gb355, 4, none⟩ = some (.slice A0_4 l0_4.length c0_4) := (blk_cell BK355.out 4).trans rfl
        have hcz34_5 : wr.cell? ⟨gb355, 5, none⟩ = some (.slice A0_5 l0_5.length c0_5) := (blk_cell BK355.out 5).trans rfl
        have hfz34_0 := blk_frozen BK355.out 0
        have hfz34_1 := blk_frozen BK355.out 1
        have hfz34_2 := blk_frozen BK355.out 2
        have hfz34_3 := blk_frozen BK355.out 3
        have hfz34_4 := blk_frozen BK355.out 4
        have hfz34_5 := blk_frozen BK355.out 5
        go_wp2_with (first | ((with_reducible refine gate_builtin (b := .append) (xs := #[.tmp 51, .tmp 53]) rfl ?_); at_builtin; refine Kd.R_append (Kd.int .i64) (w0 := w) w.heap.size rfl (.tmp 51) (.tmp 53) 34 3 (.int .i64 0) 8 rfl Try.underlying34 info3 rfl (by decide) (by omega) u4 x4_1 x6_2 [.int .i64 x6_2] (fun _ => True) (fun _ => False) rfl rfl ?aP (fun _ hk => hk.elim) ?aF ?aO ?aB ?aS ?aL ?_; (case aP => exact rfl); (case aB => exact (by repeat (first | (with_reducible first | exact HB.out | apply below_alloc | apply pw_below_drewN | apply below_drew1 | refine below_set ?_ GE355.out) | exact HB.out))); (case aF => exact (fun _ _ => trivial)); (case aO => exact (by (with_reducible repeat (first | apply Kd.R_alloc | apply Kd.R_drewN | apply Kd.R_drew)); exact HO_4.out)); (case aS => exact (below_size (by repeat (first | (with_reducible first | exact HB.out | apply below_alloc | apply pw_below_drewN | apply below_drew1 | refine below_set ?_ GE355.out) | exact HB.out)))); (case aL => have := LMc33.out; omega); intro v367 w35 ho hb hg hat; rw [← Ny366.out] at ho; have n0_ := Aside0.mk (Kd.S_over' (by (with_reducible repeat (first | apply Kd.S_alloc | apply Kd.S_drewN | apply Kd.S_drew)); exact HO_3.out) (Kd.R_typed (by (with_reducible repeat (first | apply Kd.R_alloc | apply Kd.R_drewN | apply Kd.R_drew)); exact HO_4.out)) (by decide) hg); have n1_ := Aside0.mk (blk_grown (g := gb355) (o := .cells #[.string a0_0, .slice A0_1 l0_1.length c0_1, .string a0_2, .slice A0_3 l0_3.length c0_3, .slice A0_4 l0_4.length c0_4, .slice A0_5 l0_5.length c0_5] 26 (0, 0)) (by (with_reducible repeat (first | refine blk_drewN ?_ _ | refine blk_drew ?_ | refine blk_alloc ?_ _)); exact BK355.out) hg (Kd.R_ne HO_4.out BK355.out (by decide))); have n2_ := Aside0.mk (hb); have n3_ := Aside0.mk (ho); clear HO_3; clear BK355; clear HB; clear HO_4; have HO_3 := n0_; have BK355 := n1_; have HB := n2_; have HO368 := n3_; clear n0_ n1_ n2_ n3_; clear ho hb hg hat))
        go_roundg k2
        case measure => have := HK1.out; have := HK2.out; omega
        case rel => exact ⟨(y366), (wrap64 (x5_1 + 1)), (by first | rfl | (simp; done) | (simp [*]; done)), H', ⟨by have := HK1.out; have := HK2.out; omega⟩, ⟨by (with_reducible repeat (first | apply Kd.S_alloc | apply Kd.S_drewN | apply Kd.S_drew)); exact HO_3.out⟩, ⟨by (with_reducible repeat (first | apply Kd.R_alloc | apply Kd.R_drewN | apply Kd.R_drew)); exact HO368.out⟩, ⟨by (with_reducible repeat (first | refine blk_drewN ?_ _ | refine blk_drew ?_ | refine blk_alloc ?_ _)); exact BK355.out⟩, ⟨by repeat (first | (with_reducible first | exact HB.out | apply below_alloc | apply pw_below_drewN | apply below_drew1 | refine below_set ?_ GE355.out) | exact HB.out)⟩⟩
       ·rw [if_neg c33] at H
        exact absurd H (by simp)
   ·rw [if_neg c8] at H
    have c8b0 : decide (x5_1 < (l0_5.length : Int)) = false := decide_eq_false c8
    clear c8
    obtain rfl := Option.some.inj H
    have hcz36_0 : wr.cell? ⟨gb355, 0, none⟩ = some (.string a0_0) := (blk_cell BK355.out 0).trans rfl
    have hcz36_1 : wr.cell? ⟨gb355, 1, none⟩ = some (.slice A0_1 l0_1.length c0_1) := (blk_cell BK355.out 1).trans rfl
    have hcz36_2 : wr.cell? ⟨gb355, 2, none⟩ = some (.string a0_2) := (blk_cell BK355.out 2).trans rfl
    have hcz36_3 : wr.cell? ⟨gb355, 3, none⟩ = some (.slice A0_3 l0_3.length c0_3) := (blk_cell BK355.out 3).trans rfl
    have hcz36_4 : wr.cell? ⟨gb355, 4, none⟩ = some (.slice A0_4 l0_4.length c0_4) := (blk_cell BK355.out 4).trans rfl
    have hcz36_5 : wr.cell? ⟨gb355, 5, none⟩ = some (.slice A0_5 l0_5.length c0_5) := (blk_cell BK355.out 5).trans rfl
    have hfz36_0 := blk_frozen BK355.out 0
    have hfz36_1 := blk_frozen BK355.out 1
    have hfz36_2 := blk_frozen BK355.out 2
    have hfz36_3 := blk_frozen BK355.out 3
    have hfz36_4 := blk_frozen BK355.out 4
    have hfz36_5 := blk_frozen BK355.out 5
    go_wp2
    go_ret
    exact ⟨_, by first | rfl | (simp [errW_none, errW_some] <;> rfl) | (simp [*, errW_none, errW_some] <;> rfl), by (with_reducible repeat (first | apply Kd.R_alloc | apply Kd.R_drewN | apply Kd.R_drew)); exact HO_4.out, by repeat (first | (with_reducible first | exact HB.out | apply below_alloc | apply pw_below_drewN | apply below_drew1 | refine below_set ?_ GE355.out) | exact HB.out)⟩

end Go.Proofs.Ytclhjalgflebfaa.Q

