/- What the row of FlowOrder rests on, part 4: contracts of the functions that it reaches, and the plain law. -/
import Derived.Test.YtclhjalgflebfaaJFlowOrder3
namespace Go.Proofs.Ytclhjalgflebfaa.Q
open Go.RowKit Go.Proofs.YtclhjalgflebfaaW.PrintWords Go.Proofs.YtclhjalgflebfaaW.PrintLast Go.Proofs.YtclhjalgflebfaaW.PrintMore
attribute [local go_sem] max2_int min2_int max_two min_two max_three min_three max_four min_four   -- for this text's walks alone
set_option linter.unusedVariables false
set_option linter.unusedSimpArgs false

/-! ### truantref09_Order: function 23 -/
mutual
def truantref09_Order.l0 : Nat → List Bool → List Int → List Int → ByteArray → List ByteArray → ByteArray → List ByteArray → List (S58) → List (S40) → Option (List Int)
 | 0, _, _, _, _, _, _, _, _, _ => none
 | k + 1, x3, x4, x5, x353000, x353001, x353002, x353003, x353004, x353005 => if (x4.length : Int) > 0 then (if 0 ≤ (wrap64 ((x4.length : Int) - 1)) then (if (wrap64 ((x4.length : Int) - 1)) < (x4.length : Int) then ((truantref09_Next.f k x353000 x353001 x353002 x353003 x353004 x353005 (rd x4 (wrap64 ((x4.length : Int) - 1)))).bind fun t364 => (truantref09_Order.l1 k x3 x4 x5 (rd x4 (wrap64 ((x4.length : Int) - 1))) t364 (-1) (wrap64 ((t364.length : Int) - 1)) x353000 x353001 x353002 x353003 x353004 x353005)) else (none)) else (none)) else (some x5)
def truantref09_Order.l1 : Nat → List Bool → List Int → List Int → Int → List Int → Int → Int → ByteArray → List ByteArray → ByteArray → List ByteArray → List (S58) → List (S40) → Option (List Int)
 | 0, _, _, _, _, _, _, _, _, _, _, _, _, _ => none
 | k + 1, x3, x4, x5, x6, x7, x8, x9, x353000, x353001, x353002, x353003, x353004, x353005 => if x9 ≥ 0 then (if 0 ≤ x9 then (if x9 < (x7.length : Int) then (if 0 ≤ (rd x7 x9) then (if (rd x7 x9) < (x3.length : Int) then (if (rdOf false x3 (rd x7 x9) = true) then (truantref09_Order.l1 k x3 x4 x5 x6 x7 x8 (wrap64 (x9 - 1)) x353000 x353001 x353002 x353003 x353004 x353005) else (truantref09_Order.l1 k x3 x4 x5 x6 x7 (rd x7 x9) (wrap64 (x9 - 1)) x353000 x353001 x353002 x353003 x353004 x353005)) else (none)) else (none)) else (none)) else (none)) else (if x8 ≥ 0 then (if 0 ≤ x8 then (if x8 < (x3.length : Int) then (if x4.length < 17592186044416 then (truantref09_Order.l0 k (x3.set (x8 : Int).toNat true) (x4 ++ [x8]) x5 x353000 x353001 x353002 x353003 x353004 x353005) else (none)) else (none)) else (none)) else ((some (([x6] : List Int) : List Int)).bind fun y374 => (if y374.length + x5.length < 17592186044416 then (if 0 ≤ (wrap64 ((x4.length : Int) - 1)) then (if (wrap64 ((x4.length : Int) - 1)) ≤ (x4.length : Int) then (truantref09_Order.l0 k x3 (x4.take ((wrap64 ((x4.length : Int) - 1)) : Int).toNat) (y374 ++ x5) x353000 x353001 x353002 x353003 x353004 x353005) else (none)) else (none)) else (none))))
end
def truantref09_Order.f (k : Nat) (a0_0 : ByteArray) (l0_1 : List ByteArray) (a0_2 : ByteArray) (l0_3 : List ByteArray) (l0_4 : List (S58)) (l0_5 : List (S40)) : Option (List Int) := if (l0_5.length : Int) = 0 then (some ([] : List Int)) else (if 0 ≤ (l0_5.length : Int) then (if ((l0_5.length : Int) : Int).toNat ≤ 281474976710656 then ((some (List.replicate ((l0_5.length : Int) : Int).toNat false : List Bool)).bind fun y353 => (if 0 < (y353.length : Int) then (truantref09_Order.l0 k (y353.set (0 : Int).toNat true) (([0] : List Int)) (([] : List Int)) a0_0 l0_1 a0_2 l0_3 l0_4 l0_5) else (none))) else (none)) else (none))
theorem truantref09_Order.mono_l : ∀ k, (∀ y0 y1 y2 y3 y4 y5 y6 y7 y8, LeO (truantref09_Order.l0 k y0 y1 y2 y3 y4 y5 y6 y7 y8) (truantref09_Order.l0 (k + 1) y0 y1 y2 y3 y4 y5 y6 y7 y8)) ∧ (∀ y0 y1 y2 y3 y4 y5 y6 y7 y8 y9 y10 y11 y12, LeO (truantref09_Order.l1 k y0 y1 y2 y3 y4 y5 y6 y7 y8 y9 y10 y11 y12) (truantref09_Order.l1 (k + 1) y0 y1 y2 y3 y4 y5 y6 y7 y8 y9 y10 y11 y12))
 | 0 => ⟨fun _ _ _ _ _ _ _ _ _ r h => by simp [truantref09_Order.l0] at h, fun _ _ _ _ _ _ _ _ _ _ _ _ _ r h => by simp [truantref09_Order.l1] at h⟩
 | k + 1 => by
  obtain ⟨ih0, ih1⟩ := truantref09_Order.mono_l k
  refine ⟨?_, ?_⟩
  ·intro y0 y1 y2 y3 y4 y5 y6 y7 y8
   unfold truantref09_Order.l0
   repeat' first
   | (with_reducible exact ih0 _ _ _ _ _ _ _ _ _)
   | (with_reducible exact ih1 _ _ _ _ _ _ _ _ _ _ _ _ _)
   | (with_reducible exact truantref09_Next.mono _ _ _ _ _ _ _ _)
   | (with_reducible exact LeO.refl _)
   | (with_reducible exact LeO.none _)
   | (with_reducible refine LeO.ite ?_ ?_)
   | (with_reducible refine LeO.bind ?_ (fun _ => ?_))
   | exact ih0 _ _ _ _ _ _ _ _ _
   | exact ih1 _ _ _ _ _ _ _ _ _ _ _ _ _
   | exact truantref09_Next.mono _ _ _ _ _ _ _ _
   | exact LeO.none _
   | refine LeO.ite ?_ ?_
   | refine LeO.bind ?_ (fun _ => ?_)
  ·intro y0 y1 y2 y3 y4 y5 y6 y7 y8 y9 y10 y11 y12
   unfold truantref09_Order.l1
   repeat' first
   | (with_reducible exact ih0 _ _ _ _ _ _ _ _ _)
   | (with_reducible exact ih1 _ _ _ _ _ _ _ _ _ _ _ _ _)
   | (with_reducible exact truantref09_Next.mono _ _ _ _ _ _ _ _)
   | (with_reducible exact LeO.refl _)
   | (with_reducible exact LeO.none _)
   | (with_reducible refine LeO.ite ?_ ?_)
   | (with_reducible refine LeO.bind ?_ (fun _ => ?_))
   | exact ih0 _ _ _ _ _ _ _ _ _
   | exact ih1 _ _ _ _ _ _ _ _ _ _ _ _ _
   | exact truantref09_Next.mono _ _ _ _ _ _ _ _
   | exact LeO.none _
   | refine LeO.ite ?_ ?_
   | refine LeO.bind ?_ (fun _ => ?_)
theorem truantref09_Order.mono : ∀ a0 a1 a2 a3 a4 a5 k, LeO (truantref09_Order.f k a0 a1 a2 a3 a4 a5) (truantref09_Order.f (k + 1) a0 a1 a2 a3 a4 a5) := by
 intro a0 a1 a2 a3 a4 a5 k
 obtain ⟨ih0, ih1⟩ := truantref09_Order.mono_l k
 unfold truantref09_Order.f
 repeat' first
   | (with_reducible exact ih0 _ _ _ _ _ _ _ _ _)
   | (with_reducible exact ih1 _ _ _ _ _ _ _ _ _ _ _ _ _)
   | (with_reducible exact truantref09_Next.mono _ _ _ _ _ _ _ _)
   | (with_reducible exact LeO.refl _)
   | (with_reducible exact LeO.none _)
   | (with_reducible refine LeO.ite ?_ ?_)
   | (with_reducible refine LeO.bind ?_ (fun _ => ?_))
   | exact ih0 _ _ _ _ _ _ _ _ _
   | exact ih1 _ _ _ _ _ _ _ _ _ _ _ _ _
   | exact truantref09_Next.mono _ _ _ _ _ _ _ _
   | exact LeO.none _
   | refine LeO.ite ?_ ?_
   | refine LeO.bind ?_ (fun _ => ?_)
set_option maxHeartbeats 8000000 in
set_option maxRecDepth 100000 in
theorem truantref09_Order.calls (k : Nat) (a0_0 : ByteArray) (A0_1 : Option Addr) (c0_1 : Nat) (l0_1 : List ByteArray) (a0_2 : ByteArray) (A0_3 : Option Addr) (c0_3 : Nat) (l0_3 : List ByteArray) (A0_4 : Option Addr) (c0_4 : Nat) (l0_4 : List (S58)) (A0_5 : Option Addr) (c0_5 : Nat) (l0_5 : List (S40)) (r : List Int) (w : World) (hr0_1 : Kd.C Kd.string w A0_1 l0_1.length l0_1) (hc0_1 : l0_1.length ≤ c0_1) (hr0_3 : Kd.C Kd.string w A0_3 l0_3.length l0_3) (hc0_3 : l0_3.length ≤ c0_3) (hr0_4 : Kd.C k58 w A0_4 l0_4.length l0_4) (hc0_4 : l0_4.length ≤ c0_4) (hr0_5 : Kd.C k40 w A0_5 l0_5.length l0_5) (hc0_5 : l0_5.length ≤ c0_5) (h : truantref09_Order.f k a0_0 l0_1 a0_2 l0_3 l0_4 l0_5 = some r) :
  Calls Try.prog 23 #[.agg #[.string a0_0, .slice A0_1 l0_1.length c0_1, .string a0_2, .slice A0_3 l0_3.length c0_3, .slice A0_4 l0_4.length c0_4, .slice A0_5 l0_5.length c0_5]] w fun e w' => ∃ v0_ : Value, e = .returned (v0_) ∧ Kd.R (Kd.int .i64) 3 w' w.heap.size (fun _ => True) v0_ r ∧ Below w.heap.size w w' := by
 have hu26 := Try.underlying26
 have HR0_1 := Aside0.mk hr0_1
 have HC0_1 := Aside0.mk hc0_1
 clear hr0_1 hc0_1
 have HR0_3 := Aside0.mk hr0_3
 have HC0_3 := Aside0.mk hc0_3
 clear hr0_3 hc0_3
 have HR0_4 := Aside0.mk hr0_4
 have HC0_4 := Aside0.mk hc0_4
 clear hr0_4 hc0_4
 have HR0_5 := Aside0.mk hr0_5
 have HC0_5 := Aside0.mk hc0_5
 clear hr0_5 hc0_5
 have HB := Aside0.mk (Below.refl w.heap.size w)
 have H : (if (l0_5.length : Int) = 0 then (some ([] : List Int)) else (if 0 ≤ (l0_5.length : Int) then (if ((l0_5.length : Int) : Int).toNat ≤ 281474976710656 then ((some (List.replicate ((l0_5.length : Int) : Int).toNat false : List Bool)).bind fun y353 => (if 0 < (y353.length : Int) then (truantref09_Order.l0 k (y353.set (0 : Int).toNat true) (([0] : List Int)) (([] : List Int)) a0_0 l0_1 a0_2 l0_3 l0_4 l0_5) else (none))) else (none)) else (none))) = some r := h
 clear h
 by_cases c2 : (l0_5.length : Int) = 0
 ·rw [if_pos c2] at H
  have c2b0 : ((l0_5.length : Int) == 0) = true := beq_iff_eq.mpr c2
  have c2b1 : ((l0_5.length : Int) != 0) = false := bne_eq_false_iff_eq.mpr c2
  clear c2
  obtain rfl := Option.some.inj H
  go_enter Try.func23, Try.ntmps23
  go_wp2_with (first | ((with_reducible refine gate_dst (N := 1) rfl ?_); refine box_event ?hg (N := 1) ?hd (cs := #[.string a0_0, .slice A0_1 l0_1.length c0_1, .string a0_2, .slice A0_3 l0_3.length c0_3, .slice A0_4 l0_4.length c0_4, .slice A0_5 l0_5.length c0_5]) (t := 26) ?hr ?_; (case hd => rfl); (case hg => rfl); (case hr => first | (go_simp; done) | (go_simp; rfl)); intro gb352 hg w3 hbox hb; have n0_ := Aside0.mk (below_step (by repeat (first | (with_reducible first | exact HB.out | apply below_alloc | apply pw_below_drewN | apply below_drew1) | exact HB.out)) hb); have n1_ := Aside0.mk (hbox); have n2_ := Aside0.mk ((by rw [hg]; exact (below_size (by repeat (first | (with_reducible first | exact HB.out | apply below_alloc | apply pw_below_drewN | apply below_drew1) | exact HB.out))) : w.heap.size ≤ gb352)); have n3_ := Aside0.mk ((by rw [hg]; exact (below_size (by repeat (first | (with_reducible first | exact HB.out | apply below_alloc | apply pw_below_drewN | apply below_drew1) | exact HB.out))) : w.heap.size ≤ gb352)); clear HB; have HB := n0_; have BK352 := n1_; have GW352 := n2_; have GE352 := n3_; clear n0_ n1_ n2_ n3_; clear hb hbox hg; have hcz4_0 : w3.cell? ⟨gb352, 0, none⟩ = some (.string a0_0) := (blk_cell BK352.out 0).trans rfl; have hcz4_1 : w3.cell? ⟨gb352, 1, none⟩ = some (.slice A0_1 l0_1.length c0_1) := (blk_cell BK352.out 1).trans rfl; have hcz4_2 : w3.cell? ⟨gb352, 2, none⟩ = some (.string a0_2) := (blk_cell BK352.out 2).trans rfl; have hcz4_3 : w3.cell? ⟨gb352, 3, none⟩ = some (.slice A0_3 l0_3.length c0_3) := (blk_cell BK352.out 3).trans rfl; have hcz4_4 : w3.cell? ⟨gb352, 4, none⟩ = some (.slice A0_4 l0_4.length c0_4) := (blk_cell BK352.out 4).trans rfl; have hcz4_5 : w3.cell? ⟨gb352, 5, none⟩ = some (.slice A0_5 l0_5.length c0_5) := (blk_cell BK352.out 5).trans rfl; have hfz4_0 := blk_frozen BK352.out 0; have hfz4_1 := blk_frozen BK352.out 1; have hfz4_2 := blk_frozen BK352.out 2; have hfz4_3 := blk_frozen BK352.out 3; have hfz4_4 := blk_frozen BK352.out 4; have hfz4_5 := blk_frozen BK352.out 5))
  go_ret
  exact ⟨_, by first | rfl | (simp [errW_none, errW_some] <;> rfl) | (simp [*, errW_none, errW_some] <;> rfl), by first | exact Kd.R_nil _ _ _ _ _ | exact Kd.N_nil _ _ _ _ _ | exact Kd.V_nil _ _ _ _ _ | exact Kd.Q_nil _ _ _ _ _ | exact Kd.S_nil _ _ _ _ _, by repeat (first | (with_reducible first | exact HB.out | apply below_alloc | apply pw_below_drewN | apply below_drew1 | refine below_set ?_ GE352.out) | exact HB.out)⟩
 ·rw [if_neg c2] at H
  have c2b0 : ((l0_5.length : Int) == 0) = false := beq_eq_false_iff_ne.mpr c2
  have c2b1 : ((l0_5.length : Int) != 0) = true := bne_iff_ne.mpr c2
  have c2b2 : ¬ (l0_5 = []) := fun h_ => c2 (by rw [h_]; rfl)
  by_cases c5 : 0 ≤ (l0_5.length : Int)
  ·rw [if_pos c5] at H
   have c5b0 := eq_true c5
   have c5b1 : decide (0 ≤ (l0_5.length : Int)) = true := decide_eq_true c5
   clear c5
   by_cases c6 : ((l0_5.length : Int) : Int).toNat ≤ 281474976710656
   ·rw [if_pos c6] at H
    have c6b0 := eq_true c6
    have c6b1 : decide (((l0_5.length : Int) : Int).toNat ≤ 281474976710656) = true := decide_eq_true c6
    clear c6
    obtain ⟨y353, hy353⟩ : ∃ y_ : List Bool, y_ = (List.replicate ((l0_5.length : Int) : Int).toNat false) := ⟨_, rfl⟩
    replace H : (if 0 < (y353.length : Int) then (truantref09_Order.l0 k (y353.set (0 : Int).toNat true) (([0] : List Int)) (([] : List Int)) a0_0 l0_1 a0_2 l0_3 l0_4 l0_5) else (none)) = some r := by first | (rw [hy353]; with_reducible exact H) | (have H2_ := (Option.bind_some _ _).symm.trans H; rw [hy353]; with_reducible exact H2_) | (have H2_ := (Option.bind_some _ _).symm.trans H; with_reducible exact H2_) | with_reducible exact H | (rw [hy353]; exact H) | exact H
    have Ny353 := Aside0.mk hy353
    clear hy353
    obtain ⟨y356, hy356⟩ : ∃ y_ : List Int, y_ = (([0] : List Int)) := ⟨_, rfl⟩
    replace H : (if 0 < (y353.length : Int) then (truantref09_Order.l0 k (y353.set (0 : Int).toNat true) y356 (([] : List Int)) a0_0 l0_1 a0_2 l0_3 l0_4 l0_5) else (none)) = some r := by first | (rw [hy356]; with_reducible exact H) | (have H2_ := (Option.bind_some _ _).symm.trans H; rw [hy356]; with_reducible exact H2_) | (have H2_ := (Option.bind_some _ _).symm.trans H; with_reducible exact H2_) | with_reducible exact H | (rw [hy356]; exact H) | exact H
    have Ny356 := Aside0.mk hy356
    clear hy356
    by_cases c7 : 0 < (y353.length : Int)
    ·rw [if_pos c7] at H
     have c7b0 : decide (0 < (y353.length : Int)) = true := decide_eq_true c7
     have c7b1 : decide (0 < y353.length) = true := decide_eq_true (by omega)
     clear c7
     obtain ⟨y359, hy359⟩ : ∃ y_ : List Bool, y_ = (y353.set (0 : Int).toNat true) := ⟨_, rfl⟩
     replace H : (truantref09_Order.l0 k y359 y356 (([] : List Int)) a0_0 l0_1 a0_2 l0_3 l0_4 l0_5) = some r := by first | (rw [hy359]; with_reducible exact H) | (have H2_ := (Option.bind_some _ _).symm.trans H; rw [hy359]; with_reducible exact H2_) | (have H2_ := (Option.bind_some _ _).symm.trans H; with_reducible exact H2_) | with_reducible exact H | (rw [hy359]; exact H) | exact H
     have Ny359 := Aside0.mk hy359
     clear hy359
     obtain ⟨y360, hy360⟩ : ∃ y_ : List Int, y_ = (([] : List Int)) := ⟨_, rfl⟩
     replace H : (truantref09_Order.l0 k y359 y356 y360 a0_0 l0_1 a0_2 l0_3 l0_4 l0_5) = some r := by first | (rw [hy360]; with_reducible exact H) | (have H2_ := (Option.bind_some _ _).symm.trans H; rw [hy360]; with_reducible exact H2_) | (have H2_ := (Option.bind_some _ _).symm.trans H; with_reducible exact H2_) | with_reducible exact H | (rw [hy360]; exact H) | exact H
     have Ny360 := Aside0.mk hy360
     clear hy360
     have H' := Aside0.mk H
     clear H
     go_enter Try.func23, Try.ntmps23
     go_wp2_with (first | ((with_reducible refine gate_dst (N := 1) rfl ?_); refine box_event ?hg (N := 1) ?hd (cs := #[.string a0_0, .slice A0_1 l0_1.length c0_1, .string a0_2, .slice A0_3 l0_3.length c0_3, .slice A0_4 l0_4.length c0_4, .slice A0_5 l0_5.length c0_5]) (t := 26) ?hr ?_; (case hd => rfl); (case hg => rfl); (case hr => first | (go_simp; done) | (go_simp; rfl)); intro gb352 hg w9 hbox hb; have n0_ := Aside0.mk (below_step (by repeat (first | (with_reducible first | exact HB.out | apply below_alloc | apply pw_below_drewN | apply below_drew1) | exact HB.out)) hb); have n1_ := Aside0.mk (hbox); have n2_ := Aside0.mk ((by rw [hg]; exact (below_size (by repeat (first | (with_reducible first | exact HB.out | apply below_alloc | apply pw_below_drewN | apply below_drew1) | exact HB.out))) : w.heap.size ≤ gb352)); have n3_ := Aside0.mk ((by rw [hg]; exact (below_size (by repeat (first | (with_reducible first | exact HB.out | apply below_alloc | apply pw_below_drewN | apply below_drew1) | exact HB.out))) : w.heap.size ≤ gb352)); clear HB; have HB := n0_; have BK352 := n1_; have GW352 := n2_; have GE352 := n3_; clear n0_ n1_ n2_ n3_; clear hb hbox hg; have hcz10_0 : w9.cell? ⟨gb352, 0, none⟩ = some (.string a0_0) := (blk_cell BK352.out 0).trans rfl; have hcz10_1 : w9.cell? ⟨gb352, 1, none⟩ = some (.slice A0_1 l0_1.length c0_1) := (blk_cell BK352.out 1).trans rfl; have hcz10_2 : w9.cell? ⟨gb352, 2, none⟩ = some (.string a0_2) := (blk_cell BK352.out 2).trans rfl; have hcz10_3 : w9.cell? ⟨gb352, 3, none⟩ = some (.slice A0_3 l0_3.length c0_3) := (blk_cell BK352.out 3).trans rfl; have hcz10_4 : w9.cell? ⟨gb352, 4, none⟩ = some (.slice A0_4 l0_4.length c0_4) := (blk_cell BK352.out 4).trans rfl; have hcz10_5 : w9.cell? ⟨gb352, 5, none⟩ = some (.slice A0_5 l0_5.length c0_5) := (blk_cell BK352.out 5).trans rfl; have hfz10_0 := blk_frozen BK352.out 0; have hfz10_1 := blk_frozen BK352.out 1; have hfz10_2 := blk_frozen BK352.out 2; have hfz10_3 := blk_frozen BK352.out 3; have hfz10_4 := blk_frozen BK352.out 4; have hfz10_5 := blk_frozen BK352.out 5) | ((with_reducible refine gate_dst (N := 17) rfl ?_); refine Kd.R_make Kd.bool _ 4 rfl (N := 17) rfl 31 _ _ rfl (l0_5.length : Int) rfl rfl Try.underlying31 (.bool false) 1 info4 rfl (by decide) (by omega) false (ok := fun _ => True) (okp := fun _ => True) rfl (fun _ hk => hk) trivial (of_decide_eq_true (by first | (with_reducible assumption) | assumption)) (Nat.le_trans (Nat.mul_le_mul_right _ (of_decide_eq_true (by first | (with_reducible assumption) | assumption) : (l0_5.length : Int).toNat ≤ 281474976710656)) (by omega)) (Below.refl _ _) (Nat.le_refl _) ?_; intro v354 w11 ho12 hb hg_ hnew_; clear hg_ hnew_; (first | rw [← Ny353.out] at ho12 | (simp only [Int.reduceToNat] at ho12; rw [← Ny353.out] at ho12)); have n0_ := Aside0.mk (Kd.R_lower ho12 (below_size (by repeat (first | (with_reducible first | exact HB.out | apply below_alloc | apply pw_below_drewN | apply below_drew1 | refine below_set ?_ GE352.out) | exact HB.out)))); have n1_ := Aside0.mk (blk_below (g := gb352) (o := .cells #[.string a0_0, .slice A0_1 l0_1.length c0_1, .string a0_2, .slice A0_3 l0_3.length c0_3, .slice A0_4 l0_4.length c0_4, .slice A0_5 l0_5.length c0_5] 26 (0, 0)) (by (with_reducible repeat (first | refine blk_drewN ?_ _ | refine blk_drew ?_ | refine blk_alloc ?_ _)); exact BK352.out) hb); have n2_ := Aside0.mk (below_step (by repeat (first | (with_reducible first | exact HB.out | apply below_alloc | apply pw_below_drewN | apply below_drew1 | refine below_set ?_ GE352.out) | exact HB.out)) hb); clear BK352; clear HB; have HO355 := n0_; have BK352 := n1_; have HB := n2_; clear n0_ n1_ n2_; clear hb ho12) | ((with_reducible refine gate_dst (N := 18) rfl ?_); refine Kd.R_lit (Kd.int .i64) _ 3 ?hg (N := 18) ?hd (xs := ([0] : List Int)) (inner := [.int .i64 0]) (ok := fun _ => True) (okp := fun _ => True) ?hr ?hp (fun _ hk => hk) trivial (Below.refl _ _) (Nat.le_refl _) (by simp) ?_; (case hd => rfl); (case hg => rfl); (case hr => first | (go_simp; done) | (go_simp; rfl)); (case hp => exact (Reps.one (show Kd.M (Kd.int .i64) _ _ _ 0 [.int .i64 0] from rfl) (Reps.none _ _))); intro v357 w13 ho14 hb hg_ hnew_; clear hg_ hnew_; (first | rw [← Ny356.out] at ho14 | (simp only [Int.reduceToNat] at ho14; rw [← Ny356.out] at ho14)); have n0_ := Aside0.mk (Kd.R_below (by (with_reducible repeat (first | apply Kd.R_alloc | apply Kd.R_drewN | apply Kd.R_drew)); exact HO355.out) hb); have n1_ := Aside0.mk (Kd.R_lower ho14 (below_size (by repeat (first | (with_reducible first | exact HB.out | apply below_alloc | apply pw_below_drewN | apply below_drew1 | refine below_set ?_ GE352.out) | exact HB.out)))); have n2_ := Aside0.mk (blk_below (g := gb352) (o := .cells #[.string a0_0, .slice A0_1 l0_1.length c0_1, .string a0_2, .slice A0_3 l0_3.length c0_3, .slice A0_4 l0_4.length c0_4, .slice A0_5 l0_5.length c0_5] 26 (0, 0)) (by (with_reducible repeat (first | refine blk_drewN ?_ _ | refine blk_drew ?_ | refine blk_alloc ?_ _)); exact BK352.out) hb); have n3_ := Aside0.mk (below_step (by repeat (first | (with_reducible first | exact HB.out | apply below_alloc | apply pw_below_drewN | apply below_drew1 | refine below_set ?_ GE352.out) | exact HB.out)) hb); clear HO355; clear BK352; clear HB; have HO355 := n0_; have HO358 := n1_; have BK352 := n2_; have HB := n3_; clear n0_ n1_ n2_ n3_; clear hb ho14; have p8 : 0 ≤ (0 : Int) := (by omega); have q8 : (0 : Int) < ((y353.length : Int) : Int) := of_decide_eq_true (by first | (with_reducible assumption) | assumption); have qi8 : (0 < y353.length) = True := eq_true (by omega); obtain ⟨go8, co8, eo8, gb8, gl8, cl8, HG8⟩ := Kd.R_form HO355.out (by omega); (first | cases eo8 | (injection eo8 with ea_ en_ ec_; (first | subst ea_ | (injection ea_ with ea_; subst ea_)); subst ec_; clear en_)); have GB8 := Aside0.mk gb8; have GG8 := Aside0.mk HG8; clear gb8 gl8 HG8; obtain ⟨hx8_0, hf8_0⟩ := Kd.R_celln false HO355.out (0 : Int) p8 q8; (try rw [show ((0 : Int)).toNat = 0 from rfl] at hx8_0); (try simp only [Nat.reduceMul, Nat.zero_mul, Nat.zero_add, Nat.reduceAdd] at hx8_0); (try rw [show ((0 : Int)).toNat = 0 from rfl] at hf8_0); (try simp only [Nat.reduceMul, Nat.zero_mul, Nat.zero_add, Nat.reduceAdd] at hf8_0); replace p8 := eq_true p8; replace q8 := eq_true q8; obtain ⟨hy15_, hz15_⟩ := Kd.R_celln false HO355.out (0 : Int) (by omega) (of_decide_eq_true (by first | (with_reducible assumption) | assumption)); (try simp only [Int.reduceToNat, Int.toNat_zero, Int.toNat_ofNat, Nat.reduceMul, Nat.zero_mul, Nat.zero_add] at hy15_ hz15_); (try rw [show ((0 : Int)).toNat = 0 from rfl] at hy15_); (try rw [show ((0 : Int)).toNat = 0 from rfl] at hz15_); have HP15 := Kd.R_putg HO355.out (0 : Int) true) | ((with_reducible refine gate_store (t := 4) (p := 20) rfl ?_); refine store_event (t := 4) (p := 20) (v := ?vo_w16) (w1 := (w13.setCell ⟨go8, (0 : Int).toNat, none⟩ (.bool true))) ?hg ?ho ?hn ?hr ?_; (case ho => rfl); (case hg => rfl); (case hn => rfl); (case hr => first | (go_simp; done) | (go_simp; rfl)); intro w16 hw; have hg : w13.grownBy w16 (some go8) := (by rw [hw]; exact HP15.2); have hp_ : Kd.R Kd.bool 4 w16 w.heap.size (fun _ => True) (.slice (some ⟨go8, 0, none⟩) y353.length co8) y359 := (by rw [hw, Ny359.out]; exact HP15.1); clear HP15; have n0_ := Aside0.mk (blk_grown (g := gb352) (o := .cells #[.string a0_0, .slice A0_1 l0_1.length c0_1, .string a0_2, .slice A0_3 l0_3.length c0_3, .slice A0_4 l0_4.length c0_4, .slice A0_5 l0_5.length c0_5] 26 (0, 0)) (by (with_reducible repeat (first | refine blk_drewN ?_ _ | refine blk_drew ?_ | refine blk_alloc ?_ _)); exact BK352.out) hg (Kd.R_ne HO355.out BK352.out (by decide))); have n1_ := Aside0.mk (hp_); have n2_ := Aside0.mk (Kd.R_over' (v := (.slice (some ⟨go8, 0, none⟩) y353.length co8)) (by (with_reducible repeat (first | apply Kd.R_alloc | apply Kd.R_drewN | apply Kd.R_drew)); exact HO358.out) (Kd.R_typed HO355.out) (by decide) hg); have n3_ := Aside0.mk ((by rw [hw]; exact below_set (HB.out) GB8.out : Below w.heap.size w w16)); clear BK352; clear HO355; clear HO358; clear HB; have BK352 := n0_; have HO355 := n1_; have HO358 := n2_; have HB := n3_; clear n0_ n1_ n2_ n3_; clear hg hw hp_) | ((with_reducible refine gate_dst (N := 21) rfl ?_); refine Kd.R_lit (Kd.int .i64) _ 3 ?hg (N := 21) ?hd (xs := ([] : List Int)) (inner := []) (ok := fun _ => True) (okp := fun _ => True) ?hr ?hp (fun _ hk => hk) trivial (Below.refl _ _) (Nat.le_refl _) (by simp) ?_; (case hd => rfl); (case hg => rfl); (case hr => first | (go_simp; done) | (go_simp; rfl)); (case hp => exact (Reps.none _ _)); intro v361 w17 ho18 hb hg_ hnew_; clear hg_ hnew_; (first | rw [← Ny360.out] at ho18 | (simp only [Int.reduceToNat] at ho18; rw [← Ny360.out] at ho18)); have n0_ := Aside0.mk (Kd.R_below (by (with_reducible repeat (first | apply Kd.R_alloc | apply Kd.R_drewN | apply Kd.R_drew)); exact HO355.out) hb); have n1_ := Aside0.mk (Kd.R_elder' (by (with_reducible repeat (first | apply Kd.R_alloc | apply Kd.R_drewN | apply Kd.R_drew)); exact HO358.out) (Kd.R_base ho18) hb); have n2_ := Aside0.mk (Kd.R_lower (Kd.R_new' ho18 (Kd.R_lt (by (with_reducible repeat (first | apply Kd.R_alloc | apply Kd.R_drewN | apply Kd.R_drew)); exact HO358.out))) (below_size (by repeat (first | (with_reducible first | exact HB.out | apply below_alloc | apply pw_below_drewN | apply below_drew1 | refine below_set ?_ GE352.out) | exact HB.out)))); have n3_ := Aside0.mk (blk_below (g := gb352) (o := .cells #[.string a0_0, .slice A0_1 l0_1.length c0_1, .string a0_2, .slice A0_3 l0_3.length c0_3, .slice A0_4 l0_4.length c0_4, .slice A0_5 l0_5.length c0_5] 26 (0, 0)) (by (with_reducible repeat (first | refine blk_drewN ?_ _ | refine blk_drew ?_ | refine blk_alloc ?_ _)); exact BK352.out) hb); have n4_ := Aside0.mk (below_step (by repeat (first | (with_reducible first | exact HB.out | apply below_alloc | apply pw_below_drewN | apply below_drew1 | refine below_set ?_ GE352.out) | exact HB.out)) hb); clear HO355; clear HO358; clear BK352; clear HB; have HO355 := n0_; have HO358 := n1_; have HO362 := n2_; have BK352 := n3_; have HB := n4_; clear n0_ n1_ n2_ n3_ n4_; clear hb ho18))
     go_loopg [4, 5] k (fun kq v4 v5 w' => ∃ (x3_1 : List Bool) (x4_1 : List Int) (x5_1 : List Int), Aside0 (truantref09_Order.l0 kq x3_1 x4_1 x5_1 a0_0 l0_1 a0_2 l0_3 l0_4 l0_5 = some r) ∧ Aside0 (kq ≤ k) ∧ Aside0 (Kd.R Kd.bool 4 w' w.heap.size (fun _ => True) (.slice (some ⟨go8, 0, none⟩) y353.length co8) x3_1) ∧ Aside0 (Kd.R (Kd.int .i64) 3 w' w.heap.size (fun k_ => some k_ ≠ (v5 : Value).ownBlock) v4 x4_1) ∧ Aside0 (Kd.R (Kd.int .i64) 3 w' w.heap.size (fun k_ => some k_ ≠ (v4 : Value).ownBlock) v5 x5_1) ∧ Aside0 (w'.heap[gb352]? = some (.cells #[.string a0_0, (.slice A0_1 l0_1.length c0_1), .string a0_2, (.slice A0_3 l0_3.length c0_3), (.slice A0_4 l0_4.length c0_4), (.slice A0_5 l0_5.length c0_5)] 26 (0, 0))) ∧ Aside0 (Below w.heap.size w w'))
     case atStart => exact ⟨(y359), (y356), (y360), H', ⟨Nat.le_refl _⟩, ⟨by (with_reducible repeat (first | apply Kd.R_alloc | apply Kd.R_drewN | apply Kd.R_drew)); exact HO355.out⟩, ⟨by (with_reducible repeat (first | apply Kd.R_alloc | apply Kd.R_drewN | apply Kd.R_drew)); exact Kd.R_mono HO358.out (fun _ hk => hk.2)⟩, ⟨by (with_reducible repeat (first | apply Kd.R_alloc | apply Kd.R_drewN | apply Kd.R_drew)); exact Kd.R_mono HO362.out (fun _ hk => hk.2)⟩, ⟨by (with_reducible repeat (first | refine blk_drewN ?_ _ | refine blk_drew ?_ | refine blk_alloc ?_ _)); exact BK352.out⟩, ⟨by repeat (first | (with_reducible first | exact HB.out | apply below_alloc | apply pw_below_drewN | apply below_drew1 | refine below_set ?_ GE352.out) | exact HB.out)⟩⟩
     case round =>
      clear H'
      try clear c2
      try clear c2b0
      try clear c2b1
      try clear c2b2
      try clear p2
      try clear c5
      try clear c5b0
      try clear c5b1
      try clear c6
      try clear c6b0
      try clear c6b1
      try clear c7
      try clear c7b0
      try clear c7b1
      try clear p8
      try clear q8
      try clear hx8
      try clear qi8
      try clear hf8
      try clear hcz10_0
      try clear hcz10_1
      try clear hcz10_2
      try clear hcz10_3
      try clear hcz10_4
      try clear hcz10_5
      try clear hcz4_0
      try clear hcz4_1
      try clear hcz4_2
      try clear hcz4_3
      try clear hcz4_4
      try clear hcz4_5
      try clear hfz10_0
      try clear hfz10_1
      try clear hfz10_2
      try clear hfz10_3
      try clear hfz10_4
      try clear hfz10_5
      try clear hfz4_0
      try clear hfz4_1
      try clear hfz4_2
      try clear hfz4_3
      try clear hfz4_4
      try clear hfz4_5
      try clear hx8_0
      try clear p8
      try clear q8
      obtain ⟨x3_1, x4_1, x5_1, HA, HK1, HO_3, HO_4, HO_5, BK352, HB⟩ := hrel
      have hl3_1 := (Kd.R_reads' HO_3.out).1
      rw [hl3_1] at HO_3
      (try simp only [hl3_1])
      (try simp only [hl3_1] at BK352)
      (try simp only [hl3_1] at HO_4)
      (try simp only [hl3_1] at HO_5)
      cases gk with
      | zero => exact absurd HA.out (by simp [truantref09_Order.l0])
      | succ k1 =>
       have H := HA.out
       clear HA
       simp only [truantref09_Order.l0] at H
       by_cases c19 : (x4_1.length : Int) > 0
       ·rw [if_pos c19] at H
        have c19b0 : decide (0 < (x4_1.length : Int)) = true := decide_eq_true c19
        have c19b1 : decide (0 < x4_1.length) = true := decide_eq_true (by omega)
        clear c19
        obtain ⟨ji20, hji20⟩ : ∃ j_ : Int, (wrap64 ((x4_1.length : Int) - 1)) = j_ := ⟨_, rfl⟩
        replace H : (if 0 ≤ (ji20) then (if (ji20) < (x4_1.length : Int) then ((truantref09_Next.f k1 a0_0 l0_1 a0_2 l0_3 l0_4 l0_5 (rd x4_1 (ji20))).bind fun t364 => (truantref09_Order.l1 k1 x3_1 x4_1 x5_1 (rd x4_1 (ji20)) t364 (-1) (wrap64 ((t364.length : Int) - 1)) a0_0 l0_1 a0_2 l0_3 l0_4 l0_5)) else (none)) else (none)) = some r := by first | (rw [hji20] at H; exact H) | (simp only [hji20] at H ⊢; exact H)
        have hji20w : (IntKind.i64.wrap ((x4_1.length : Int) - 1)) = ji20 := (i64_w _).trans hji20
        by_cases c21 : 0 ≤ (ji20)
        ·rw [if_pos c21] at H
         have c21b0 : decide (0 ≤ (ji20)) = true := decide_eq_true c21
         clear c21
         by_cases c22 : (ji20) < (x4_1.length : Int)
         ·rw [if_pos c22] at H
          have c22b0 : decide ((ji20) < (x4_1.length : Int)) = true := decide_eq_true c22
          clear c22
          replace H := Option.bind_eq_some_iff.mp H
          obtain ⟨t364, A230, H⟩ := H
          replace H : (truantref09_Order.l1 k1 x3_1 x4_1 x5_1 (rd x4_1 (ji20)) t364 (-1) (wrap64 ((t364.length : Int) - 1)) a0_0 l0_1 a0_2 l0_3 l0_4 l0_5) = some r := H
          have A23 := Aside0.mk A230
          clear A230
          have H' := Aside0.mk H
          clear H
          obtain ⟨Ao24, co24, eo24⟩ := Kd.R_slice HO_4.out
          subst eo24
          have p363 : 0 ≤ ((ji20) : Int) := of_decide_eq_true (by first | (with_reducible assumption) | assumption)
          have q363 : (ji20) < (x4_1.length : Int) := of_decide_eq_true (by first | (with_reducible assumption) | assumption)
          obtain ⟨ad363, e363, hx363_0⟩ := Kd.at_int (Kd.R_reads' HO_4.out).2.2 (ji20) p363 q363
          cases e363
          replace p363 := eq_true p363
          replace q363 := eq_true q363
          have hcz25_0 : wr.cell? ⟨gb352, 0, none⟩ = some (.string a0_0) := (blk_cell BK352.out 0).trans rfl
          have hcz25_1 : wr.cell? ⟨gb352, 1, none⟩ = some (.slice A0_1 l0_1.length c0_1) := (blk_cell BK352.out 1).trans rfl
          have hcz25_2 : wr.cell? ⟨gb352, 2, none⟩ = some (.string a0_2) := (blk_cell BK352.out 2).trans rfl
          have hcz25_3 : wr.cell? ⟨gb352, 3, none⟩ = some (.slice A0_3 l0_3.length c0_3) := (blk_cell BK352.out 3).trans rfl
          have hcz25_4 : wr.cell? ⟨gb352, 4, none⟩ = some (.slice A0_4 l0_4.length c0_4) := (blk_cell BK352.out 4).trans rfl
          have hcz25_5 : wr.cell? ⟨gb352, 5, none⟩ = some (.slice A0_5 l0_5.length c0_5) := (blk_cell BK352.out 5).trans rfl
          have hfz25_0 := blk_frozen BK352.out 0
          have hfz25_1 := blk_frozen BK352.out 1
          have hfz25_2 := blk_frozen BK352.out 2
          have hfz25_3 := blk_frozen BK352.out 3
          have hfz25_4 := blk_frozen BK352.out 4
          have hfz25_5 := blk_frozen BK352.out 5
          go_wp2_with (first | ((with_reducible refine gate_callee (f := 21) rfl ?_); refine goesL_ (some 33) rfl rfl Try.func21 (by kernel_rfl) rfl #[.agg #[.string a0_0, .slice A0_1 l0_1.length c0_1, .string a0_2, .slice A0_3 l0_3.length c0_3, .slice A0_4 l0_4.length c0_4, .slice A0_5 l0_5.length c0_5], .int .i64 (rd x4_1 (ji20))] rfl (by (try simp only [List.map_toArray, List.map_cons, List.map_nil]); first | done | (simp only [hji20]; rfl) | rfl | (simp only [List.length_drop, List.length_take]; rfl)) ?_; (with_reducible refine (truantref09_Next.calls k1 a0_0 _ _ l0_1 a0_2 _ _ l0_3 _ _ l0_4 _ _ l0_5 (rd x4_1 (ji20)) t364 _ ?side1 ?side2 ?side3 ?side4 ?side5 ?side6 ?side7 ?side8 A23.out).mono ?_); (case side1 => repeat (first | exact (Kd.C_below HR0_1.out HB.out) | (with_reducible refine Kd.C_alloc ?_ _) | (with_reducible refine Kd.C_drewN ?_ _) | (with_reducible refine Kd.C_drew ?_))); (case side2 => exact HC0_1.out); (case side3 => repeat (first | exact (Kd.C_below HR0_3.out HB.out) | (with_reducible refine Kd.C_alloc ?_ _) | (with_reducible refine Kd.C_drewN ?_ _) | (with_reducible refine Kd.C_drew ?_))); (case side4 => exact HC0_3.out); (case side5 => repeat (first | exact (Kd.C_below HR0_4.out HB.out) | (with_reducible refine Kd.C_alloc ?_ _) | (with_reducible refine Kd.C_drewN ?_ _) | (with_reducible refine Kd.C_drew ?_))); (case side6 => exact HC0_4.out); (case side7 => repeat (first | exact (Kd.C_below HR0_5.out HB.out) | (with_reducible refine Kd.C_alloc ?_ _) | (with_reducible refine Kd.C_drewN ?_ _) | (with_reducible refine Kd.C_drew ?_))); (case side8 => exact HC0_5.out); rintro e w26 ⟨v365, rfl, ho0, hb⟩; refine ⟨_, rfl, ?_⟩; have n0_ := Aside0.mk (Kd.R_below (by (with_reducible repeat (first | apply Kd.R_alloc | apply Kd.R_drewN | apply Kd.R_drew)); exact HO_3.out) hb); have n1_ := Aside0.mk (Kd.R_elder' (by (with_reducible repeat (first | apply Kd.R_alloc | apply Kd.R_drewN | apply Kd.R_drew)); exact HO_4.out) (Kd.R_base ho0) hb); have n2_ := Aside0.mk (Kd.R_elder' (by (with_reducible repeat (first | apply Kd.R_alloc | apply Kd.R_drewN | apply Kd.R_drew)); exact HO_5.out) (Kd.R_base ho0) hb); have n3_ := Aside0.mk (Kd.R_lower (Kd.R_new' (Kd.R_new' ho0 (Kd.R_lt (by (with_reducible repeat (first | apply Kd.R_alloc | apply Kd.R_drewN | apply Kd.R_drew)); exact HO_4.out))) (Kd.R_lt (by (with_reducible repeat (first | apply Kd.R_alloc | apply Kd.R_drewN | apply Kd.R_drew)); exact HO_5.out))) (below_size (by repeat (first | (with_reducible first | exact HB.out | apply below_alloc | apply pw_below_drewN | apply below_drew1 | refine below_set ?_ GE352.out) | exact HB.out)))); have n4_ := Aside0.mk (blk_below (g := gb352) (o := .cells #[.string a0_0, .slice A0_1 l0_1.length c0_1, .string a0_2, .slice A0_3 l0_3.length c0_3, .slice A0_4 l0_4.length c0_4, .slice A0_5 l0_5.length c0_5] 26 (0, 0)) (by (with_reducible repeat (first | refine blk_drewN ?_ _ | refine blk_drew ?_ | refine blk_alloc ?_ _)); exact BK352.out) hb); have n5_ := Aside0.mk (below_step (by repeat (first | (with_reducible first | exact HB.out | apply below_alloc | apply pw_below_drewN | apply below_drew1 | refine below_set ?_ GE352.out) | exact HB.out)) hb); clear HO_3; clear HO_4; clear HO_5; clear BK352; clear HB; have HO_3 := n0_; have HO_4 := n1_; have HO_5 := n2_; have HO366 := n3_; have BK352 := n4_; have HB := n5_; clear n0_ n1_ n2_ n3_ n4_ n5_; (try clear hb); (try clear hb2); (try clear hk); (try clear hi); (try clear ho0); obtain ⟨Ao27, co27, eo27⟩ := Kd.R_slice HO366.out; subst eo27))
          go_loopg [8, 9] k1 (fun kq v8 v9 w' => ∃ (x8_2 : Int) (x9_2 : Int), v8 = .int .i64 x8_2 ∧ v9 = .int .i64 x9_2 ∧ Aside0 (truantref09_Order.l1 kq x3_1 x4_1 x5_1 (rd x4_1 (ji20)) t364 x8_2 x9_2 a0_0 l0_1 a0_2 l0_3 l0_4 l0_5 = some r) ∧ Aside0 (kq ≤ k1) ∧ Aside0 (Kd.R Kd.bool 4 w' w.heap.size (fun _ => True) (.slice (some ⟨go8, 0, none⟩) x3_1.length co8) x3_1) ∧ Aside0 (Kd.R (Kd.int .i64) 3 w' w.heap.size (fun k_ => some k_ ≠ (u5 : Value).ownBlock ∧ some k_ ≠ ((.slice Ao27 t364.length co27) : Value).ownBlock) (.slice (some ad363) x4_1.length co24) x4_1) ∧ Aside0 (Kd.R (Kd.int .i64) 3 w' w.heap.size (fun k_ => some k_ ≠ ((.slice (some ad363) x4_1.length co24) : Value).ownBlock ∧ some k_ ≠ ((.slice Ao27 t364.length co27) : Value).ownBlock) u5 x5_1) ∧ Aside0 (Kd.R (Kd.int .i64) 3 w' w.heap.size (fun k_ => some k_ ≠ ((.slice (some ad363) x4_1.length co24) : Value).ownBlock ∧ some k_ ≠ (u5 : Value).ownBlock) (.slice Ao27 t364.length co27) t364) ∧ Aside0 (w'.heap[gb352]? = some (.cells #[.string a0_0, (.slice A0_1 l0_1.length c0_1), .string a0_2, (.slice A0_3 l0_3.length c0_3), (.slice A0_4 l0_4.length c0_4), (.slice A0_5 l0_5.length c0_5)] 26 (0, 0))) ∧ Aside0 (Below w.heap.size w w'))
          case atStart => exact ⟨((-1)), (wrap64 ((t364.length : Int) - 1)), (by first | rfl | (simp; done) | (simp [*]; done)), (by first | rfl | (simp; done) | (simp [*]; done)), H', ⟨Nat.le_refl _⟩, ⟨by (try simp only [hl3_1]); (with_reducible repeat (first | apply Kd.R_alloc | apply Kd.R_drewN | apply Kd.R_drew)); exact HO_3.out⟩, ⟨by (try simp only [hl3_1]); (with_reducible repeat (first | apply Kd.R_alloc | apply Kd.R_drewN | apply Kd.R_drew)); exact HO_4.out⟩, ⟨by (try simp only [hl3_1]); (with_reducible repeat (first | apply Kd.R_alloc | apply Kd.R_drewN | apply Kd.R_drew)); exact HO_5.out⟩, ⟨by (try simp only [hl3_1]); (with_reducible repeat (first | apply Kd.R_alloc | apply Kd.R_drewN | apply Kd.R_drew)); exact Kd.R_mono HO366.out (fun _ hk => ⟨hk.1.2, hk.2⟩)⟩, ⟨by (try simp only [hl3_1]); (with_reducible repeat (first | refine blk_drewN ?_ _ | refine blk_drew ?_ | refine blk_alloc ?_ _)); exact BK352.out⟩, ⟨by repeat (first | (with_reducible first | exact HB.out | apply below_alloc | apply pw_below_drewN | apply below_drew1 | refine below_set ?_ GE352.out) | exact HB.out)⟩⟩
          case round =>
           clear H'
           try clear c1
           try clear c2
           try clear c2b0
           try clear c2b1
           try clear c2b2
           try clear p2
           try clear p3
           try clear q3
           try clear hx3
           try clear c5
           try clear c5b0
           try clear c5b1
           try clear c6
           try clear c6b0
           try clear c6b1
           try clear p6
           try clear c7
           try clear c7b0
           try clear c7b1
           try clear p8
           try clear q8
           try clear hx8
           try clear qi8
           try clear hf8
           try clear c19
           try clear c19b0
           try clear c19b1
           try clear c21
           try clear c21b0
           try clear c22
           try clear c22b0
           try clear c23
           try clear hcz10_0
           try clear hcz10_1
           try clear hcz10_2
           try clear hcz10_3
           try clear hcz10_4
           try clear hcz10_5
           try clear hcz25_0
           try clear hcz25_1
           try clear hcz25_2
           try clear hcz25_3
           try clear hcz25_4
           try clear hcz25_5
           try clear hcz4_0
           try clear hcz4_1
           try clear hcz4_2
           try clear hcz4_3
           try clear hcz4_4
           try clear hcz4_5
           try clear hfz10_0
           try clear hfz10_1
           try clear hfz10_2
           try clear hfz10_3
           try clear hfz10_4
           try clear hfz10_5
           try clear hfz25_0
           try clear hfz25_1
           try clear hfz25_2
           try clear hfz25_3
           try clear hfz25_4
           try clear hfz25_5
           try clear hfz4_0
           try clear hfz4_1
           try clear hfz4_2
           try clear hfz4_3
           try clear hfz4_4
           try clear hfz4_5
           try clear hx363_0
           try clear hx8_0
           try clear p2
           try clear p363
           try clear p8
           try clear q363
           try clear q8
           obtain ⟨x8_2, x9_2, rfl, rfl, HA, HK2, HO_3, HO_4, HO_5, HO_7, BK352, HB⟩ := hrel
           cases gk with
           | zero => exact absurd HA.out (by simp [truantref09_Order.l1])
           | succ k2 =>
            have H := HA.out
            clear HA
            simp only [truantref09_Order.l1] at H
            by_cases c28 : x9_2 ≥ 0
            ·rw [if_pos c28] at H
             have c28b0 : decide (0 ≤ x9_2) = true := decide_eq_true c28
             clear c28
             by_cases c29 : 0 ≤ x9_2
             ·rw [if_pos c29] at H
              have c29b0 : decide (0 ≤ x9_2) = true := decide_eq_true c29
              clear c29
              by_cases c30 : x9_2 < (t364.length : Int)
              ·rw [if_pos c30] at H
               have c30b0 : decide (x9_2 < (t364.length : Int)) = true := decide_eq_true c30
               clear c30
               by_cases c31 : 0 ≤ (rd t364 x9_2)
               ·rw [if_pos c31] at H
                have c31b0 : decide (0 ≤ (rd t364 x9_2)) = true := decide_eq_true c31
                clear c31
                by_cases c32 : (rd t364 x9_2) < (x3_1.length : Int)
                ·rw [if_pos c32] at H
                 have c32b0 : decide ((rd t364 x9_2) < (x3_1.length : Int)) = true := decide_eq_true c32
                 clear c32
                 obtain ⟨bq33, hbq33⟩ : ∃ b_ : Bool, b_ = (rdOf false x3_1 (rd t364 x9_2)) := ⟨_, rfl⟩
                 replace H : (if (bq33 = true) then (truantref09_Order.l1 k2 x3_1 x4_1 x5_1 (rd x4_1 (ji20)) t364 x8_2 (wrap64 (x9_2 - 1)) a0_0 l0_1 a0_2 l0_3 l0_4 l0_5) else (truantref09_Order.l1 k2 x3_1 x4_1 x5_1 (rd x4_1 (ji20)) t364 (rd t364 x9_2) (wrap64 (x9_2 - 1)) a0_0 l0_1 a0_2 l0_3 l0_4 l0_5)) = some r := by rw [← hbq33] at H; exact H
                 have Nbq33 := Aside0.mk hbq33
                 clear hbq33
                 by_cases c34 : (bq33 = true)
                 ·subst c34
                  have H1 : (truantref09_Order.l1 k2 x3_1 x4_1 x5_1 (rd x4_1 (ji20)) t364 x8_2 (wrap64 (x9_2 - 1)) a0_0 l0_1 a0_2 l0_3 l0_4 l0_5) = some r := by rw [if_pos rfl] at H; exact H
                  clear H
                  have H := H1
                  clear H1
                  have H' := Aside0.mk H
                  clear H
                  have p367 : 0 ≤ (x9_2 : Int) := of_decide_eq_true (by first | (with_reducible assumption) | assumption)
                  have q367 : x9_2 < (t364.length : Int) := of_decide_eq_true (by first | (with_reducible assumption) | assumption)
                  obtain ⟨ad367, e367, hx367_0⟩ := Kd.at_int (Kd.R_reads' HO_7.out).2.2 x9_2 p367 q367
                  cases e367
                  replace p367 := eq_true p367
                  replace q367 := eq_true q367
                  have p368 : 0 ≤ ((rd t364 x9_2) : Int) := of_decide_eq_true (by first | (with_reducible assumption) | assumption)
                  have q368 : (rd t364 x9_2) < (x3_1.length : Int) := of_decide_eq_true (by first | (with_reducible assumption) | assumption)
                  obtain ⟨ad368, e368, hx368_0⟩ := Kd.at_bool (Kd.R_reads' HO_3.out).2.2 (rd t364 x9_2) p368 q368
                  (try rw [← Nbq33.out] at hx368_0)
                  obtain rfl : (⟨go8, 0, none⟩ : Addr) = ad368 := (by injection e368)
                  (first | simp only [add_plain] at hx368_0 | simp only [add_at] at hx368_0 | simp only [Addr.add, Nat.zero_add] at hx368_0 | skip)
                  replace p368 := eq_true p368
                  replace q368 := eq_true q368
                  go_wp2
                  go_roundg k2
                  case measure => have := HK1.out; have := HK2.out; omega
                  case rel => exact ⟨(x8_2), (wrap64 (x9_2 - 1)), (by first | rfl | (simp; done) | (simp [*]; done)), (by first | rfl | (simp; done) | (simp [*]; done)), H', ⟨by have := HK1.out; have := HK2.out; omega⟩, ⟨by (try simp only [hl3_1]); (with_reducible repeat (first | apply Kd.R_alloc | apply Kd.R_drewN | apply Kd.R_drew)); exact HO_3.out⟩, ⟨by (try simp only [hl3_1]); (with_reducible repeat (first | apply Kd.R_alloc | apply Kd.R_drewN | apply Kd.R_drew)); exact HO_4.out⟩, ⟨by (try simp only [hl3_1]); (with_reducible repeat (first | apply Kd.R_alloc | apply Kd.R_drewN | apply Kd.R_drew)); exact HO_5.out⟩, ⟨by (try simp only [hl3_1]); (with_reducible repeat (first | apply Kd.R_alloc | apply Kd.R_drewN | apply Kd.R_drew)); exact HO_7.out⟩, ⟨by (try simp only [hl3_1]); (with_reducible repeat (first | refine blk_drewN ?_ _ | refine blk_drew ?_ | refine blk_alloc ?_ _)); exact BK352.out⟩, ⟨by repeat (first | (with_reducible first | exact HB.out | apply below_alloc | apply pw_below_drewN | apply below_drew1 | refine below_set ?_ GE352.out) | exact HB.out)⟩⟩
                 ·replace c34 := Bool.eq_false_iff.mpr c34
                  subst c34
                  have H1 : (truantref09_Order.l1 k2 x3_1 x4_1 x5_1 (rd x4_1 (ji20)) t364 (rd t364 x9_2) (wrap64 (x9_2 - 1)) a0_0 l0_1 a0_2 l0_3 l0_4 l0_5) = some r := by rw [if_neg (show ¬ (false = true) by decide)] at H; exact H
                  clear H
                  have H := H1
                  clear H1
                  have H' := Aside0.mk H
                  clear H
                  have p367 : 0 ≤ (x9_2 : Int) := of_decide_eq_true (by first | (with_reducible assumption) | assumption)
                  have q367 : x9_2 < (t364.length : Int) := of_decide_eq_true (by first | (with_reducible assumption) | assumption)
                  obtain ⟨ad367, e367, hx367_0⟩ := Kd.at_int (Kd.R_reads' HO_7.out).2.2 x9_2 p367 q367
                  cases e367
                  replace p367 := eq_true p367
                  replace q367 := eq_true q367
                  have p368 : 0 ≤ ((rd t364 x9_2) : Int) := of_decide_eq_true (by first | (with_reducible assumption) | assumption)
                  have q368 : (rd t364 x9_2) < (x3_1.length : Int) := of_decide_eq_true (by first | (with_reducible assumption) | assumption)
                  obtain ⟨ad368, e368, hx368_0⟩ := Kd.at_bool (Kd.R_reads' HO_3.out).2.2 (rd t364 x9_2) p368 q368
                  (try rw [← Nbq33.out] at hx368_0)
                  obtain rfl : (⟨go8, 0, none⟩ : Addr) = ad368 := (by injection e368)
                  (first | simp only [add_plain] at hx368_0 | simp only [add_at] at hx368_0 | simp only [Addr.add, Nat.zero_add] at hx368_0 | skip)
                  replace p368 := eq_true p368
                  replace q368 := eq_true q368
                  have p369 : 0 ≤ (x9_2 : Int) := of_decide_eq_true (by first | (with_reducible assumption) | assumption)
                  have q369 : x9_2 < (t364.length : Int) := of_decide_eq_true (by first | (with_reducible assumption) | assumption)
                  obtain ⟨ad369, e369, hx369_0⟩ := Kd.at_int (Kd.R_reads' HO_7.out).2.2 x9_2 p369 q369
                  obtain rfl : ad367 = ad369 := (by injection e369)
                  replace p369 := eq_true p369
                  replace q369 := eq_true q369
                  go_wp2
                  go_roundg k2
                  case measure => have := HK1.out; have := HK2.out; omega
                  case rel => exact ⟨(rd t364 x9_2), (wrap64 (x9_2 - 1)), (by first | rfl | (simp; done) | (simp [*]; done)), (by first | rfl | (simp; done) | (simp [*]; done)), H', ⟨by have := HK1.out; have := HK2.out; omega⟩, ⟨by (try simp only [hl3_1]); (with_reducible repeat (first | apply Kd.R_alloc | apply Kd.R_drewN | apply Kd.R_drew)); exact HO_3.out⟩, ⟨by (try simp only [hl3_1]); (with_reducible repeat (first | apply Kd.R_alloc | apply Kd.R_drewN | apply Kd.R_drew)); exact HO_4.out⟩, ⟨by (try simp only [hl3_1]); (with_reducible repeat (first | apply Kd.R_alloc | apply Kd.R_drewN | apply Kd.R_drew)); exact HO_5.out⟩, ⟨by (try simp only [hl3_1]); (with_reducible repeat (first | apply Kd.R_alloc | apply Kd.R_drewN | apply Kd.R_drew)); exact HO_7.out⟩, ⟨by (try simp only [hl3_1]); (with_reducible repeat (first | refine blk_drewN ?_ _ | refine blk_drew ?_ | refine blk_alloc ?_ _)); exact BK352.out⟩, ⟨by repeat (first | (with_reducible first | exact HB.out | apply below_alloc | apply pw_below_drewN | apply below_drew1 | refine below_set ?_ GE352.out) | exact HB.out)⟩⟩
                ·rw [if_neg c32] at H
                 exact absurd H (by simp)
               ·rw [if_neg c31] at H
                exact absurd H (by simp)
              ·rw [if_neg c30] at H
               exact absurd H (by simp)
             ·rw [if_neg c29] at H
              exact absurd H (by simp)
            ·rw [if_neg c28] at H
             have c28b0 : decide (0 ≤ x9_2) = false := decide_eq_false c28
             clear c28
             by_cases c35 : x8_2 ≥ 0
             ·rw [if_pos c35] at H
              have c35b0 : decide (0 ≤ x8_2) = true := decide_eq_true c35
              clear c35
              by_cases c36 : 0 ≤ x8_2
              ·rw [if_pos c36] at H
               have c36b0 : decide (0 ≤ x8_2) = true := decide_eq_true c36
               clear c36
               by_cases c37 : x8_2 < (x3_1.length : Int)
               ·rw [if_pos c37] at H
                have c37b0 : decide (x8_2 < (x3_1.length : Int)) = true := decide_eq_true c37
                clear c37
                obtain ⟨y370, hy370⟩ : ∃ y_ : List Bool, y_ = (x3_1.set (x8_2 : Int).toNat true) := ⟨_, rfl⟩
                replace H : (if x4_1.length < 17592186044416 then (truantref09_Order.l0 k2 y370 (x4_1 ++ [x8_2]) x5_1 a0_0 l0_1 a0_2 l0_3 l0_4 l0_5) else (none)) = some r := by first | (rw [hy370]; with_reducible exact H) | (have H2_ := (Option.bind_some _ _).symm.trans H; rw [hy370]; with_reducible exact H2_) | (have H2_ := (Option.bind_some _ _).symm.trans H; with_reducible exact H2_) | with_reducible exact H | (rw [hy370]; exact H) | exact H
                have Ny370 := Aside0.mk hy370
                clear hy370
                by_cases c39 : x4_1.length < 17592186044416
                ·rw [if_pos c39] at H
                 have LMc39 := Aside0.mk c39
                 clear c39
                 obtain ⟨y371, hy371⟩ : ∃ y_ : List Int, y_ = (x4_1 ++ [x8_2]) := ⟨_, rfl⟩
                 replace H : (truantref09_Order.l0 k2 y370 y371 x5_1 a0_0 l0_1 a0_2 l0_3 l0_4 l0_5) = some r := by first | (rw [hy371]; with_reducible exact H) | (have H2_ := (Option.bind_some _ _).symm.trans H; rw [hy371]; with_reducible exact H2_) | (have H2_ := (Option.bind_some _ _).symm.trans H; with_reducible exact H2_) | with_reducible exact H | (rw [hy371]; exact H) | exact H
                 have Ny371 := Aside0.mk hy371
                 clear hy371
                 have H' := Aside0.mk H
                 clear H
                 have p38 : 0 ≤ (x8_2 : Int) := of_decide_eq_true (by first | (with_reducible assumption) | assumption)
                 have q38 : (x8_2 : Int) < ((x3_1.length : Int) : Int) := of_decide_eq_true (by first | (with_reducible assumption) | assumption)
                 obtain ⟨hx38_0, hf38_0⟩ := Kd.R_celln false HO_3.out (x8_2 : Int) p38 q38
                 replace p38 := eq_true p38
                 replace q38 := eq_true q38
                 have HP40 := Kd.R_putg HO_3.out (x8_2 : Int) true
                 go_wp2_with (first | ((with_reducible refine gate_store (t := 4) (p := 57) rfl ?_); refine store_event (t := 4) (p := 57) (v := ?vo_w41) (w1 := (wr.setCell ⟨go8, (x8_2 : Int).toNat, none⟩ (.bool true))) ?hg ?ho ?hn ?hr ?_; (case ho => rfl); (case hg => rfl); (case hn => rfl); (case hr => first | (go_simp; done) | (go_simp; rfl)); intro w41 hw; have hg : wr.grownBy w41 (some go8) := (by rw [hw]; exact HP40.2); have hp_ : Kd.R Kd.bool 4 w41 w.heap.size (fun _ => True) (.slice (some ⟨go8, 0, none⟩) x3_1.length co8) y370 := (by rw [hw, Ny370.out]; exact HP40.1); clear HP40; have n0_ := Aside0.mk (hp_); have n1_ := Aside0.mk (Kd.R_over' (v := (.slice (some ⟨go8, 0, none⟩) x3_1.length co8)) (by (with_reducible repeat (first | apply Kd.R_alloc | apply Kd.R_drewN | apply Kd.R_drew)); exact HO_4.out) (Kd.R_typed HO_3.out) (by decide) hg); have n2_ := Aside0.mk (Kd.R_over' (v := (.slice (some ⟨go8, 0, none⟩) x3_1.length co8)) (by (with_reducible repeat (first | apply Kd.R_alloc | apply Kd.R_drewN | apply Kd.R_drew)); exact HO_5.out) (Kd.R_typed HO_3.out) (by decide) hg); have n3_ := Aside0.mk (Kd.R_over' (v := (.slice (some ⟨go8, 0, none⟩) x3_1.length co8)) (by (with_reducible repeat (first | apply Kd.R_alloc | apply Kd.R_drewN | apply Kd.R_drew)); exact HO_7.out) (Kd.R_typed HO_3.out) (by decide) hg); have n4_ := Aside0.mk (blk_grown (g := gb352) (o := .cells #[.string a0_0, .slice A0_1 l0_1.length c0_1, .string a0_2, .slice A0_3 l0_3.length c0_3, .slice A0_4 l0_4.length c0_4, .slice A0_5 l0_5.length c0_5] 26 (0, 0)) (by (with_reducible repeat (first | refine blk_drewN ?_ _ | refine blk_drew ?_ | refine blk_alloc ?_ _)); exact BK352.out) hg (Kd.R_ne HO_3.out BK352.out (by decide))); have n5_ := Aside0.mk ((by rw [hw]; exact below_set (HB.out) GB8.out : Below w.heap.size w w41)); clear HO_3; clear HO_4; clear HO_5; clear HO_7; clear BK352; clear HB; have HO_3 := n0_; have HO_4 := n1_; have HO_5 := n2_; have HO_7 := n3_; have BK352 := n4_; have HB := n5_; clear n0_ n1_ n2_ n3_ n4_ n5_; clear hg hw hp_) | ((with_reducible refine gate_builtin (b := .append) (xs := #[.tmp 58, .tmp 60]) rfl ?_); at_builtin; refine Kd.R_append (Kd.int .i64) (w0 := w) w.heap.size rfl (.tmp 58) (.tmp 60) 34 3 (.int .i64 0) 8 rfl Try.underlying34 info3 rfl (by decide) (by omega) (.slice (some ad363) x4_1.length co24) x4_1 x8_2 [.int .i64 x8_2] (fun k_ => some k_ ≠ (u5 : Value).ownBlock ∧ some k_ ≠ (.slice Ao27 t364.length co27 : Value).ownBlock) (fun _ => False) rfl rfl ?aP (fun _ hk => hk.elim) ?aF ?aO ?aB ?aS ?aL ?_; (case aP => exact rfl); (case aB => exact (by repeat (first | (with_reducible first | exact HB.out | apply below_alloc | apply pw_below_drewN | apply below_drew1 | refine below_set ?_ GE352.out) | exact HB.out))); (case aF => exact (fun k_ hk => ⟨Kd.fresh' (Kd.R_lt (by (with_reducible repeat (first | apply Kd.R_alloc | apply Kd.R_drewN | apply Kd.R_drew)); exact HO_5.out)) k_ hk, Kd.fresh' (Kd.R_lt (by (with_reducible repeat (first | apply Kd.R_alloc | apply Kd.R_drewN | apply Kd.R_drew)); exact HO_7.out)) k_ hk⟩)); (case aO => exact (by (with_reducible repeat (first | apply Kd.R_alloc | apply Kd.R_drewN | apply Kd.R_drew)); exact HO_4.out)); (case aS => exact (below_size (by repeat (first | (with_reducible first | exact HB.out | apply below_alloc | apply pw_below_drewN | apply below_drew1 | refine below_set ?_ GE352.out) | exact HB.out)))); (case aL => have := LMc39.out; omega); intro v372 w42 ho hb hg hat; rw [← Ny371.out] at ho; have n0_ := Aside0.mk (Kd.R_over' (by (with_reducible repeat (first | apply Kd.R_alloc | apply Kd.R_drewN | apply Kd.R_drew)); exact HO_3.out) (Kd.R_typed (by (with_reducible repeat (first | apply Kd.R_alloc | apply Kd.R_drewN | apply Kd.R_drew)); exact HO_4.out)) (by decide) hg); have n1_ := Aside0.mk (Kd.R_after (ok := (fun k_ => some k_ ≠ (.slice Ao27 t364.length co27 : Value).ownBlock)) (by (with_reducible repeat (first | apply Kd.R_alloc | apply Kd.R_drewN | apply Kd.R_drew)); exact Kd.R_mono HO_5.out (fun _ hk => ⟨hk.2, hk.1⟩)) hg hat); have n2_ := Aside0.mk (Kd.R_after (ok := (fun k_ => some k_ ≠ (u5 : Value).ownBlock)) (by (with_reducible repeat (first | apply Kd.R_alloc | apply Kd.R_drewN | apply Kd.R_drew)); exact Kd.R_mono HO_7.out (fun _ hk => ⟨hk.2, hk.1⟩)) hg hat); have n3_ := Aside0.mk (blk_grown (g := gb352) (o := .cells #[.string a0_0, .slice A0_1 l0_1.length c0_1, .string a0_2, .slice A0_3 l0_3.length c0_3, .slice A0_4 l0_4.length c0_4, .slice A0_5 l0_5.length c0_5] 26 (0, 0)) (by (with_reducible repeat (first | refine blk_drewN ?_ _ | refine blk_drew ?_ | refine blk_alloc ?_ _)); exact BK352.out) hg (Kd.R_ne HO_4.out BK352.out (by decide))); have n4_ := Aside0.mk (hb); have n5_ := Aside0.mk (ho); clear HO_3; clear HO_5; clear HO_7; clear BK352; clear HB; clear HO_4; have HO_3 := n0_; have HO_5 := n1_; have HO_7 := n2_; have BK352 := n3_; have HB := n4_; have HO373 := n5_; clear n0_ n1_ n2_ n3_ n4_ n5_; clear ho hb hg hat))
                 (try simp only [← hl3_1])
                 go_roundg k2
                 case measure => have := HK1.out; have := HK2.out; omega
                 case rel => exact ⟨(y370), (y371), (x5_1), H', ⟨by have := HK1.out; have := HK2.out; omega⟩, ⟨by (try simp only [hl3_1]); (with_reducible repeat (first | apply Kd.R_alloc | apply Kd.R_drewN | apply Kd.R_drew)); exact HO_3.out⟩, ⟨by (try simp only [hl3_1]); (with_reducible repeat (first | apply Kd.R_alloc | apply Kd.R_drewN | apply Kd.R_drew)); exact Kd.R_mono HO373.out (fun _ hk => hk.1)⟩, ⟨by (try simp only [hl3_1]); (with_reducible repeat (first | apply Kd.R_alloc | apply Kd.R_drewN | apply Kd.R_drew)); exact Kd.R_mono HO_5.out (fun _ hk => hk.2)⟩, ⟨by (try simp only [hl3_1]); (with_reducible repeat (first | refine blk_drewN ?_ _ | refine blk_drew ?_ | refine blk_alloc ?_ _)); exact BK352.out⟩, ⟨by repeat (first | (with_reducible first | exact HB.out | apply below_alloc | apply pw_below_drewN | apply below_drew1 | refine below_set ?_ GE352.out) | exact HB.out)⟩⟩
                ·rw [if_neg c39] at H
                 exact absurd H (by simp)
               ·rw [if_neg c37] at H
                exact absurd H (by simp)
              ·rw [if_neg c36] at H
               exact absurd H (by simp)
             ·rw [if_neg c35] at H
              have c35b0 : decide (0 ≤ x8_2) = false := decide_eq_false c35
              clear c35
              obtain ⟨y374, hy374⟩ : ∃ y_ : List Int, y_ = (([(rd x4_1 (ji20))] : List Int)) := ⟨_, rfl⟩
              replace H : (if y374.length + x5_1.length < 17592186044416 then (if 0 ≤ (wrap64 ((x4_1.length : Int) - 1)) then (if (wrap64 ((x4_1.length : Int) - 1)) ≤ (x4_1.length : Int) then (truantref09_Order.l0 k2 x3_1 (x4_1.take ((wrap64 ((x4_1.length : Int) - 1)) : Int).toNat) (y374 ++ x5_1) a0_0 l0_1 a0_2 l0_3 l0_4 l0_5) else (none)) else (none)) else (none)) = some r := by first | (rw [hy374]; with_reducible exact H) | (have H2_ := (Option.bind_some _ _).symm.trans H; rw [hy374]; with_reducible exact H2_) | (have H2_ := (Option.bind_some _ _).symm.trans H; with_reducible exact H2_) | with_reducible exact H | (rw [hy374]; exact H) | exact H
              have Ny374 := Aside0.mk hy374
              clear hy374
              by_cases c43 : y374.length + x5_1.length < 17592186044416
              ·rw [if_pos c43] at H
               have LMc43 := Aside0.mk c43
               clear c43
               obtain ⟨y377, hy377⟩ : ∃ y_ : List Int, y_ = (y374 ++ x5_1) := ⟨_, rfl⟩
               replace H : (if 0 ≤ (wrap64 ((x4_1.length : Int) - 1)) then (if (wrap64 ((x4_1.length : Int) - 1)) ≤ (x4_1.length : Int) then (truantref09_Order.l0 k2 x3_1 (x4_1.take ((wrap64 ((x4_1.length : Int) - 1)) : Int).toNat) y377 a0_0 l0_1 a0_2 l0_3 l0_4 l0_5) else (none)) else (none)) = some r := by first | (rw [hy377]; with_reducible exact H) | (have H2_ := (Option.bind_some _ _).symm.trans H; rw [hy377]; with_reducible exact H2_) | (have H2_ := (Option.bind_some _ _).symm.trans H; with_reducible exact H2_) | with_reducible exact H | (rw [hy377]; exact H) | exact H
               have Ny377 := Aside0.mk hy377
               clear hy377
               obtain ⟨ji44, hji44⟩ : ∃ j_ : Int, (wrap64 ((x4_1.length : Int) - 1)) = j_ := ⟨_, rfl⟩
               replace H : (if 0 ≤ (ji44) then (if (ji44) ≤ (x4_1.length : Int) then (truantref09_Order.l0 k2 x3_1 (x4_1.take ((ji44) : Int).toNat) y377 a0_0 l0_1 a0_2 l0_3 l0_4 l0_5) else (none)) else (none)) = some r := by first | (rw [hji44] at H; exact H) | (simp only [hji44] at H ⊢; exact H)
               have hji44w : (IntKind.i64.wrap ((x4_1.length : Int) - 1)) = ji44 := (i64_w _).trans hji44
               by_cases c45 : 0 ≤ (ji44)
               ·rw [if_pos c45] at H
                have c45b0 := eq_true c45
                have c45b1 : decide (0 ≤ (ji44)) = true := decide_eq_true c45
                clear c45
                by_cases c46 : (ji44) ≤ (x4_1.length : Int)
                ·rw [if_pos c46] at H
                 have c46b0 := eq_true c46
                 have c46b1 : decide ((ji44) ≤ (x4_1.length : Int)) = true := decide_eq_true c46
                 clear c46
                 obtain ⟨y380, hy380⟩ : ∃ y_ : List Int, y_ = (x4_1.take ((ji44) : Int).toNat) := ⟨_, rfl⟩
                 replace H : (truantref09_Order.l0 k2 x3_1 y380 y377 a0_0 l0_1 a0_2 l0_3 l0_4 l0_5) = some r := by first | (rw [hy380]; with_reducible exact H) | (have H2_ := (Option.bind_some _ _).symm.trans H; rw [hy380]; with_reducible exact H2_) | (have H2_ := (Option.bind_some _ _).symm.trans H; with_reducible exact H2_) | with_reducible exact H | (rw [hy380]; exact H) | exact H
                 have Ny380 := Aside0.mk hy380
                 clear hy380
                 have H' := Aside0.mk H
                 clear H
                 have ej_ : ji20 = ji44 := hji20.symm.trans hji44; have q0_ : 0 ≤ ji20 := (by have := of_decide_eq_true c45b1; omega); have q1_ : ji20 ≤ (co24 : Int) := (by have h1_ := (Kd.R_reads' HO_4.out).2.1; have h2_ := of_decide_eq_true c46b1; omega); clear ej_; go_wp2_with (first | ((with_reducible refine gate_dst (N := 63) rfl ?_); refine Kd.R_lit (Kd.int .i64) _ 3 ?hg (N := 63) ?hd (xs := ([(rd x4_1 (ji20))] : List Int)) (inner := [.int .i64 (rd x4_1 (ji20))]) (ok := fun _ => True) (okp := fun _ => True) ?hr ?hp (fun _ hk => hk) trivial (Below.refl _ _) (Nat.le_refl _) (by simp) ?_; (case hd => rfl); (case hg => rfl); (case hr => first | (go_simp; done) | (go_simp; rfl)); (case hp => exact (Reps.one (show Kd.M (Kd.int .i64) _ _ _ (rd x4_1 (ji20)) [.int .i64 (rd x4_1 (ji20))] from rfl) (Reps.none _ _))); intro v375 w47 ho48 hb hg_ hnew_; clear hg_ hnew_; (first | rw [← Ny374.out] at ho48 | (simp only [Int.reduceToNat] at ho48; rw [← Ny374.out] at ho48)); have n0_ := Aside0.mk (Kd.R_below (by (with_reducible repeat (first | apply Kd.R_alloc | apply Kd.R_drewN | apply Kd.R_drew)); exact HO_3.out) hb); have n1_ := Aside0.mk (Kd.R_elder' (by (with_reducible repeat (first | apply Kd.R_alloc | apply Kd.R_drewN | apply Kd.R_drew)); exact HO_4.out) (Kd.R_base ho48) hb); have n2_ := Aside0.mk (Kd.R_elder' (by (with_reducible repeat (first | apply Kd.R_alloc | apply Kd.R_drewN | apply Kd.R_drew)); exact HO_5.out) (Kd.R_base ho48) hb); have n3_ := Aside0.mk (Kd.R_elder' (by (with_reducible repeat (first | apply Kd.R_alloc | apply Kd.R_drewN | apply Kd.R_drew)); exact HO_7.out) (Kd.R_base ho48) hb); have n4_ := Aside0.mk (Kd.R_lower (Kd.R_new' (Kd.R_new' (Kd.R_new' ho48 (Kd.R_lt (by (with_reducible repeat (first | apply Kd.R_alloc | apply Kd.R_drewN | apply Kd.R_drew)); exact HO_4.out))) (Kd.R_lt (by (with_reducible repeat (first | apply Kd.R_alloc | apply Kd.R_drewN | apply Kd.R_drew)); exact HO_5.out))) (Kd.R_lt (by (with_reducible repeat (first | apply Kd.R_alloc | apply Kd.R_drewN | apply Kd.R_drew)); exact HO_7.out))) (below_size (by repeat (first | (with_reducible first | exact HB.out | apply below_alloc | apply pw_below_drewN | apply below_drew1 | refine below_set ?_ GE352.out) | exact HB.out)))); have n5_ := Aside0.mk (blk_below (g := gb352) (o := .cells #[.string a0_0, .slice A0_1 l0_1.length c0_1, .string a0_2, .slice A0_3 l0_3.length c0_3, .slice A0_4 l0_4.length c0_4, .slice A0_5 l0_5.length c0_5] 26 (0, 0)) (by (with_reducible repeat (first | refine blk_drewN ?_ _ | refine blk_drew ?_ | refine blk_alloc ?_ _)); exact BK352.out) hb); have n6_ := Aside0.mk (below_step (by repeat (first | (with_reducible first | exact HB.out | apply below_alloc | apply pw_below_drewN | apply below_drew1 | refine below_set ?_ GE352.out) | exact HB.out)) hb); clear HO_3; clear HO_4; clear HO_5; clear HO_7; clear BK352; clear HB; have HO_3 := n0_; have HO_4 := n1_; have HO_5 := n2_; have HO_7 := n3_; have HO376 := n4_; have BK352 := n5_; have HB := n6_; clear n0_ n1_ n2_ n3_ n4_ n5_ n6_; clear hb ho48; obtain ⟨Ao50, co50, eo50⟩ := Kd.R_slice HO_5.out; subst eo50) | ((with_reducible refine gate_builtin (b := .append) (xs := #[.tmp 63, .tmp 64]) rfl ?_); at_builtin; refine Kd.R_append_rows (Kd.int .i64) (w0 := w) w.heap.size rfl (.tmp 63) (.tmp 64) 34 3 (.int .i64 0) 8 rfl Try.underlying34 info3 rfl (by decide) (by omega) v375 y374 x5_1 _ _ _ (fun k_ => some k_ ≠ (.slice (some ad363) x4_1.length co24 : Value).ownBlock ∧ some k_ ≠ (.slice Ao50 x5_1.length co50 : Value).ownBlock ∧ some k_ ≠ (.slice Ao27 t364.length co27 : Value).ownBlock) (fun _ => False) rfl rfl ?aO ?aR (fun _ _ h => h) (fun _ h => h.elim) ?aF ?aB ?aS ?aL ?_; (case aR => repeat (first | exact (Kd.R_reads' HO_5.out).2.2 | (with_reducible refine Kd.C_alloc ?_ _) | (with_reducible refine Kd.C_drewN ?_ _) | (with_reducible refine Kd.C_drew ?_))); (case aB => exact (by repeat (first | (with_reducible first | exact HB.out | apply below_alloc | apply pw_below_drewN | apply below_drew1 | refine below_set ?_ GE352.out) | exact HB.out))); (case aF => exact (fun k_ hk => ⟨Kd.fresh' (Kd.R_lt (by (with_reducible repeat (first | apply Kd.R_alloc | apply Kd.R_drewN | apply Kd.R_drew)); exact HO_4.out)) k_ hk, Kd.fresh' (Kd.R_lt (by (with_reducible repeat (first | apply Kd.R_alloc | apply Kd.R_drewN | apply Kd.R_drew)); exact HO_5.out)) k_ hk, Kd.fresh' (Kd.R_lt (by (with_reducible repeat (first | apply Kd.R_alloc | apply Kd.R_drewN | apply Kd.R_drew)); exact HO_7.out)) k_ hk⟩)); (case aO => exact (by (with_reducible repeat (first | apply Kd.R_alloc | apply Kd.R_drewN | apply Kd.R_drew)); exact Kd.R_mono HO376.out (fun _ hk => ⟨hk.1.1.2, ⟨hk.1.2, hk.2⟩⟩))); (case aS => exact (below_size (by repeat (first | (with_reducible first | exact HB.out | apply below_alloc | apply pw_below_drewN | apply below_drew1 | refine below_set ?_ GE352.out) | exact HB.out)))); (case aL => have := LMc43.out; omega); intro v378 w49 ho hb hg hat; rw [← Ny377.out] at ho; have n0_ := Aside0.mk (Kd.R_over' (by (with_reducible repeat (first | apply Kd.R_alloc | apply Kd.R_drewN | apply Kd.R_drew)); exact HO_3.out) (Kd.R_typed (by (with_reducible repeat (first | apply Kd.R_alloc | apply Kd.R_drewN | apply Kd.R_drew)); exact HO376.out)) (by decide) hg); have n1_ := Aside0.mk (Kd.R_after (ok := (fun k_ => some k_ ≠ (.slice Ao50 x5_1.length co50 : Value).ownBlock ∧ some k_ ≠ (.slice Ao27 t364.length co27 : Value).ownBlock)) (by (with_reducible repeat (first | apply Kd.R_alloc | apply Kd.R_drewN | apply Kd.R_drew)); exact HO_4.out) hg hat); have n2_ := Aside0.mk (Kd.R_after (ok := (fun k_ => some k_ ≠ (.slice (some ad363) x4_1.length co24 : Value).ownBlock ∧ some k_ ≠ (.slice Ao27 t364.length co27 : Value).ownBlock)) (by (with_reducible repeat (first | apply Kd.R_alloc | apply Kd.R_drewN | apply Kd.R_drew)); exact HO_5.out) hg hat); have n3_ := Aside0.mk (Kd.R_after (ok := (fun k_ => some k_ ≠ (.slice (some ad363) x4_1.length co24 : Value).ownBlock ∧ some k_ ≠ (.slice Ao50 x5_1.length co50 : Value).ownBlock)) (by (with_reducible repeat (first | apply Kd.R_alloc | apply Kd.R_drewN | apply Kd.R_drew)); exact HO_7.out) hg hat); have n4_ := Aside0.mk (blk_grown (g := gb352) (o := .cells #[.string a0_0, .slice A0_1 l0_1.length c0_1, .string a0_2, .slice A0_3 l0_3.length c0_3, .slice A0_4 l0_4.length c0_4, .slice A0_5 l0_5.length c0_5] 26 (0, 0)) (by (with_reducible repeat (first | refine blk_drewN ?_ _ | refine blk_drew ?_ | refine blk_alloc ?_ _)); exact BK352.out) hg (Kd.R_ne HO376.out BK352.out (by decide))); have n5_ := Aside0.mk (hb); have n6_ := Aside0.mk (ho); clear HO_3; clear HO_4; clear HO_5; clear HO_7; clear BK352; clear HB; clear HO376; have HO_3 := n0_; have HO_4 := n1_; have HO_5 := n2_; have HO_7 := n3_; have BK352 := n4_; have HB := n5_; have HO379 := n6_; clear n0_ n1_ n2_ n3_ n4_ n5_ n6_; clear ho hb hg hat; have q51 : ((ji44) : Int) ≤ ((x4_1.length : Int) : Int) := of_decide_eq_true (by first | (with_reducible assumption) | assumption); obtain ⟨i051, hi051, _, hsz51, _⟩ := info_parts info3; have hcut51 := cut_to (P := Try.prog) 34 3 .i64 Try.underlying34 hi051 (some ad363) x4_1.length co24 (ji44) (of_decide_eq_true (by first | (with_reducible assumption) | assumption)) q51 (Kd.R_reads' HO_4.out).2.1; have hr51 := Kd.R_take (m := ((ji44) : Int).toNat) HO_4.out (by omega); have hy51 : y380.length = ((ji44) : Int).toNat := (by rw [Ny380.out, List.length_take]; omega); rw [← Ny380.out] at hr51; rw [← hy51] at hr51 hcut51; clear hy51 hi051 hsz51 HO_4; have HO382 := Aside0.mk hr51; clear hr51; replace q51 := eq_true q51))
                 (try simp only [← hl3_1])
                 go_roundg k2
                 case measure => have := HK1.out; have := HK2.out; omega
                 case rel => exact ⟨(x3_1), (y380), (y377), H', ⟨by have := HK1.out; have := HK2.out; omega⟩, ⟨by (try simp only [hl3_1]); (with_reducible repeat (first | apply Kd.R_alloc | apply Kd.R_drewN | apply Kd.R_drew)); exact HO_3.out⟩, ⟨by (try simp only [hl3_1]); (with_reducible repeat (first | apply Kd.R_alloc | apply Kd.R_drewN | apply Kd.R_drew)); have e_ : y380.length = ji20.toNat := (by have h1_ := of_decide_eq_true c46b1; have h2_ := of_decide_eq_true c45b1; rw [Ny380.out, List.length_take, show ji20 = ji44 from hji20.symm.trans hji44]; omega); rw [← e_]; exact Kd.R_mono HO382.out (fun _ hk => hk.2)⟩, ⟨by (try simp only [hl3_1]); (with_reducible repeat (first | apply Kd.R_alloc | apply Kd.R_drewN | apply Kd.R_drew)); exact Kd.R_mono HO379.out (fun _ hk => hk.1)⟩, ⟨by (try simp only [hl3_1]); (with_reducible repeat (first | refine blk_drewN ?_ _ | refine blk_drew ?_ | refine blk_alloc ?_ _)); exact BK352.out⟩, ⟨by repeat (first | (with_reducible first | exact HB.out | apply below_alloc | apply pw_below_drewN | apply below_drew1 | refine below_set ?_ GE352.out) | exact HB.out)⟩⟩
                ·rw [if_neg c46] at H
                 exact absurd H (by simp)
               ·rw [if_neg c45] at H
                exact absurd H (by simp)
              ·rw [if_neg c43] at H
               exact absurd H (by simp)
         ·rw [if_neg c22] at H
          exact absurd H (by simp)
        ·rw [if_neg c21] at H
         exact absurd H (by simp)
       ·rw [if_neg c19] at H
        have c19b0 : decide (0 < (x4_1.length : Int)) = false := decide_eq_false c19
        have c19b1 : decide (0 < x4_1.length) = false := decide_eq_false (by omega)
        clear c19
        obtain rfl := Option.some.inj H
        obtain ⟨Ao52, co52, eo52⟩ := Kd.R_slice HO_4.out
        subst eo52
        go_wp2
        go_ret
        exact ⟨_, by first | rfl | (simp [errW_none, errW_some] <;> rfl) | (simp [*, errW_none, errW_some] <;> rfl), by (with_reducible repeat (first | apply Kd.R_alloc | apply Kd.R_drewN | apply Kd.R_drew)); exact Kd.R_mono HO_5.out (fun _ hk => trivial), by repeat (first | (with_reducible first | exact HB.out | apply below_alloc | apply pw_below_drewN | apply below_drew1 | refine below_set ?_ GE352.out) | exact HB.out)⟩
    ·rw [if_neg c7] at H
     exact absurd H (by simp)
   ·rw [if_neg c6] at H
    exact absurd H (by simp)
  ·rw [if_neg c5] at H
   exact absurd H (by simp)

end Go.Proofs.Ytclhjalgflebfaa.Q

/- Flow, plain law: the order, with a stack as by the walk. -/

namespace Go.Proofs.Ytclhjalgflebfaa.Q
open Go.RowKit Go.Proofs.YtclhjalgflebfaaW.PrintWords Go.Proofs.YtclhjalgflebfaaW.PrintLast Go.Proofs.YtclhjalgflebfaaW.PrintMore
set_option linter.unusedVariables false
set_option linter.unusedSimpArgs false
section
variable (a0 : ByteArray) (l1 : List ByteArray) (a2 : ByteArray) (l3 : List ByteArray) (l4 : List S58) (l : List S40) (hl : l.length ≤ 1099511627776)
include hl
end
end Go.Proofs.Ytclhjalgflebfaa.Q

/- Flow, plain law: the anchor, and what is more than is asked. -/

namespace Go.Proofs.Ytclhjalgflebfaa.Q
open Go.RowKit Go.Proofs.YtclhjalgflebfaaW.PrintWords Go.Proofs.YtclhjalgflebfaaW.PrintLast Go.Proofs.YtclhjalgflebfaaW.PrintMore
set_option linter.unusedVariables false
set_option linter.unusedSimpArgs false
theorem awake_true : Ev (fun k => truantlaw09_awake.f k) true := by
 have h : truantlaw09_awake.f 40 = some true := by kernel_rfl
 exact Ev.of (fun k => truantlaw09_awake.mono k) h
section
variable (a0 : ByteArray) (l1 : List ByteArray) (a2 : ByteArray) (l3 : List ByteArray) (l4 : List S58) (l : List S40)
theorem wide_ev : ∃ b, Ev (fun k => truantlaw09_wide.f k a0 l1 a2 l3 l4 l) b ∧ (b = false → l.length ≤ 60 ∧ l4.length ≤ 300) := by
 unfold truantlaw09_wide.f
 by_cases h1 : (l4.length : Int) > 300
 ·exact ⟨true, Ev.pos h1 (Ev.step (fun k => rfl) (Ev.now _)), fun h => by cases h⟩
 ·by_cases h2 : (l.length : Int) > 60
  ·refine ⟨true, Ev.neg h1 (Ev.step (fun k => rfl) ?_), fun h => by cases h⟩
   rw [decide_eq_true h2]
   exact Ev.now _
  ·have key : ∀ (d i : Nat) (acc : Int), l.length - i = d → i ≤ l.length → ∃ b, Ev (fun k => truantlaw09_wide.l0 k acc (i : Int) a0 l1 a2 l3 l4 l) b := by
    intro d
    induction d with
    | zero => intro i acc hd hi; exact ⟨_, Ev.step (fun k => rfl) (Ev.neg (by omega) (Ev.now _))⟩
    | succ d ih =>
     intro i acc hd hi
     obtain ⟨b, hb⟩ := ih (i + 1) (wrap64 (acc + (((rd_T40 l (i : Int)).f0).length : Int))) (by omega) (by omega)
     refine ⟨b, Ev.step (fun k => rfl) (Ev.pos (by omega) (Ev.pos (by omega) ?_))⟩
     rw [wrap_up (n := l.length) (by omega) (by omega)]
     exact hb
   obtain ⟨b, hb⟩ := key _ 0 0 rfl (Nat.zero_le _)
   refine ⟨b, Ev.neg h1 (Ev.step (fun k => rfl) ?_), fun _ => by omega⟩
   rw [decide_eq_false h2]
   exact hb
end
end Go.Proofs.Ytclhjalgflebfaa.Q

/- Flow: the order: each reached block once, behind one that leads to it. -/

namespace Go.Proofs.Ytclhjalgflebfaa.Q
open Go.RowKit Go.Proofs.YtclhjalgflebfaaW.PrintWords Go.Proofs.YtclhjalgflebfaaW.PrintLast Go.Proofs.YtclhjalgflebfaaW.PrintMore
set_option linter.unusedVariables false
set_option linter.unusedSimpArgs false
theorem ahead_mem {l : List S40} {b i : Int} : ∀ n, i ∈ aheadTo l n b ↔ 0 ≤ i ∧ i < (n : Int) ∧ b ∈ nextOf l i
 | 0 => by
  constructor
  ·intro h; cases h
  ·intro h; omega
 | n + 1 => by
  unfold aheadTo
  rw [List.mem_append, ahead_mem n, List.mem_map]
  constructor
  ·rintro (h | ⟨y, hy, rfl⟩)
   ·exact ⟨h.1, by omega, h.2.2⟩
   ·obtain ⟨h1, h2⟩ := List.mem_filter.mp hy
    have : y = b := by simpa using h2
    subst this
    exact ⟨by omega, by omega, h1⟩
  ·rintro ⟨h0, h1, h2⟩
   by_cases he : i = n
   ·right
    subst he
    exact ⟨b, List.mem_filter.mpr ⟨h2, by simp⟩, rfl⟩
   ·exact .inl ⟨h0, by omega, h2⟩
theorem backTo_mono (l : List S40) (o : List Int) : ∀ (d i : Nat), ∃ r, backTo l o (i + d) = backTo l o i ++ r
 | 0, i => ⟨[], by simp⟩
 | d + 1, i => by
  obtain ⟨r, hr⟩ := backTo_mono l o d i
  refine ⟨r ++ backAt l o (i + d), ?_⟩
  show backTo l o (i + d) ++ backAt l o (i + d) = _
  rw [hr, List.append_assoc]
theorem nd_inj {o : List Int} (h : o.Nodup) {i j : Nat} (hi : i < o.length) (hj : j < o.length) (he : o.getD i 0 = o.getD j 0) : i = j := by
 rw [getD_at _ _ hi, getD_at _ _ hj] at he
 rcases Nat.lt_trichotomy i j with hlt | heq | hgt
 ·exact absurd he ((List.pairwise_iff_getElem.mp h) i j hi hj hlt)
 ·exact heq
 ·exact absurd he.symm ((List.pairwise_iff_getElem.mp h) j i hj hi hgt)
theorem atN_nd {o : List Int} (h : o.Nodup) : ∀ {n i : Nat}, n ≤ o.length → i < n → atN o n (o.getD i 0) = some (i : Int)
 | 0, _, _, hi => by omega
 | n + 1, i, hn, hi => by
  unfold atN
  by_cases he : i = n
  ·rw [he, if_pos rfl]
  ·rw [if_neg (fun hh => he (nd_inj h (by omega) (by omega) hh))]
   exact atN_nd h (by omega) (by omega)
theorem atN_no {o : List Int} {y : Int} : ∀ {n : Nat}, (∀ j, j < n → o.getD j 0 ≠ y) → atN o n y = none
 | 0, _ => rfl
 | n + 1, h => by
  unfold atN
  rw [if_neg (fun hh => h n (by omega) hh.symm)]
  exact atN_no (fun j hj => h j (by omega))
/-- The place of a block. -/
def plc (o : List Int) (y : Int) : Int := (atN o o.length y).getD (-1) + 1
theorem plc_in {o : List Int} (h : o.Nodup) {i : Nat} (hi : i < o.length) : plc o (o.getD i 0) = (i : Int) + 1 := by unfold plc; rw [atN_nd h (Nat.le_refl _) hi]; rfl
theorem plc_out {o : List Int} {y : Int} (hy : y ∉ o) : plc o y = 0 := by
 unfold plc
 rw [atN_no (fun j hj he => hy (by rw [← he, getD_at _ _ hj]; exact List.getElem_mem _))]
 rfl
theorem mem_getD {o : List Int} {y : Int} (h : y ∈ o) : ∃ i, i < o.length ∧ o.getD i 0 = y := by
 obtain ⟨i, hi, he⟩ := List.mem_iff_getElem.mp h
 exact ⟨i, hi, by rw [getD_at _ _ hi]; exact he⟩
theorem no_back {l : List S40} {o : List Int} (hnd : o.Nodup) (hb : backTo l o l.length = []) {y b : Int} (h0 : 0 ≤ y) (hlt : y < (l.length : Int)) (hyo : y ∈ o) (hbo : b ∈ o) (hn : b ∈ nextOf l y) : plc o y < plc o b := by
 obtain ⟨i, rfl⟩ := Int.eq_ofNat_of_zero_le h0
 have hi : i < l.length := by omega
 obtain ⟨r, hr⟩ := backTo_mono l o (l.length - (i + 1)) (i + 1)
 rw [show i + 1 + (l.length - (i + 1)) = l.length by omega, hb] at hr
 have h1 : backTo l o (i + 1) = [] := (List.append_eq_nil_iff.mp hr.symm).1
 have h2 : backTo l o i ++ backAt l o i = [] := h1
 have h3 := (List.append_eq_nil_iff.mp h2).2
 obtain ⟨p, hp, hpe⟩ := mem_getD hyo
 obtain ⟨m, hm, hme⟩ := mem_getD hbo
 have e1 : atN o o.length (i : Int) = some (p : Int) := by rw [← hpe]; exact atN_nd hnd (Nat.le_refl _) hp
 have e2 : atN o o.length b = some (m : Int) := by rw [← hme]; exact atN_nd hnd (Nat.le_refl _) hm
 unfold backAt at h3
 rw [e1] at h3
 have h4 : backRow o i (p : Int) (sortI (nextOf l i)) = [] := h3
 unfold backRow at h4
 have h5 := List.map_eq_nil_iff.mp h4
 have h6 := List.filter_eq_nil_iff.mp h5 b (sort_mem_iff.mpr hn)
 rw [e2] at h6
 have h7 : ¬ ((m : Int) ≤ (p : Int)) := by simpa using h6
 unfold plc
 rw [e1, e2]
 show (p : Int) + 1 < (m : Int) + 1
 omega
section
variable (s : List Bool) (x : List (List Int)) (P : List Int) (fl : Bool)
theorem order_l2 (q : Bool) (b : Nat) (L : List Int) (hL : rd_L2 x (b : Int) = L) (hx : b < x.length) (hb : b < s.length) (hsP : s.length = P.length) (hin : ∀ y ∈ L, 0 ≤ y ∧ y < (s.length : Int)) (hLl : L.length ≤ 120)
  (hF : fl = true ∨ ∀ y ∈ L, rdOf false s y = true → rdOf false s (b : Int) = true → rd P y < rd P (b : Int))
  (h : Ev (fun k => truantlaw09_FlowOrder.l1 k s x P fl (wrap64 ((b : Int) + 1))) q) :
  ∀ (d j : Nat) (acc : Bool), L.length - j = d → j ≤ L.length → (acc = true ∨ ∃ y ∈ L.drop j, rdOf false s y = true ∧ rd P y < rd P (b : Int)) → Ev (fun k => truantlaw09_FlowOrder.l2 k s x P fl (b : Int) acc (j : Int)) q := by
 have c0 : (0 : Int) ≤ (b : Int) := Int.natCast_nonneg b
 have c1 : (b : Int) < (x.length : Int) := Int.ofNat_lt.mpr hx
 have c2 : (b : Int) < (s.length : Int) := Int.ofNat_lt.mpr hb
 have c3 : (b : Int) < (P.length : Int) := by rw [← hsP]; exact c2
 intro d
 induction d with
 | zero =>
  intro j acc hd hj ha
  have hacc : acc = true := by
   rcases ha with ha | ⟨y, hy, _⟩
   ·exact ha
   ·rw [List.drop_of_length_le (by omega)] at hy
    cases hy
  refine Ev.step (fun k => rfl) (Ev.pos c0 (Ev.pos c1 (Ev.neg ?_ (Ev.pos hacc h))))
  rw [hL]
  omega
 | succ d ih =>
  intro j acc hd hj ha
  have hlt : j < L.length := by omega
  have e1 : L.length - (j + 1) = d := by omega
  have ih := fun acc h => ih (j + 1) acc e1 hlt h
  have c4 : (j : Int) < ((rd_L2 x (b : Int)).length : Int) := by rw [hL]; exact Int.ofNat_lt.mpr hlt
  have hrd : rd (rd_L2 x (b : Int)) (j : Int) = L[j] := by rw [hL]; unfold rd; rw [Int.toNat_natCast, getD_at _ _ hlt]
  have hy := hin _ (List.getElem_mem hlt)
  have hyP : L[j] < (P.length : Int) := by rw [← hsP]; exact hy.2
  have hw : wrap64 ((j : Int) + 1) = ((j + 1 : Nat) : Int) := wrap_up (n := L.length) hlt (by omega)
  rw [List.drop_eq_getElem_cons hlt] at ha
  have hF1 : fl = true ∨ (rdOf false s L[j] = true → rdOf false s (b : Int) = true → ¬ rd P L[j] ≥ rd P (b : Int)) := hF.imp id (fun f h1 h2 => by have := f _ (List.getElem_mem hlt) h1 h2; omega)
  refine Ev.step (fun k => rfl) (Ev.pos c0 (Ev.pos c1 (Ev.pos c4 (Ev.pos (Int.natCast_nonneg j) ?_))))
  rw [hrd, hw]
  have ihT := ih true (.inl rfl)
  by_cases hacc : acc = true
  ·refine Ev.pos hacc (Ev.pos c2 ?_)
   by_cases hsb : rdOf false s (b : Int) = true
   ·refine Ev.pos hsb (Ev.pos hy.1 (Ev.pos hy.2 ?_))
    by_cases hsy : rdOf false s L[j] = true
    ·refine Ev.pos hsy ?_
     by_cases hfl : fl = true
     ·exact Ev.pos hfl ihT
     ·exact Ev.neg hfl (Ev.pos hyP (Ev.pos c3 (Ev.neg (hF1.resolve_left hfl hsy hsb) ihT)))
    ·exact Ev.neg hsy ihT
   ·exact Ev.neg hsb ihT
  ·have ha1 := ha.resolve_left hacc
   refine Ev.neg hacc (Ev.pos hy.1 (Ev.pos hy.2 ?_))
   by_cases hsy : rdOf false s L[j] = true
   ·refine Ev.pos hsy (Ev.pos hyP (Ev.pos c3 (Ev.pos c2 ?_)))
    have hn := ih (decide (rd P L[j] < rd P (b : Int))) (by
     by_cases hl : rd P L[j] < rd P (b : Int)
     ·exact .inl (decide_eq_true hl)
     ·obtain ⟨y, hy1, hy2⟩ := ha1
      rcases List.mem_cons.mp hy1 with rfl | hy1
      ·exact absurd hy2.2 hl
      ·exact .inr ⟨y, hy1, hy2⟩)
    by_cases hsb : rdOf false s (b : Int) = true
    ·refine Ev.pos hsb ?_
     by_cases hfl : fl = true
     ·exact Ev.pos hfl hn
     ·exact Ev.neg hfl (Ev.neg (hF1.resolve_left hfl hsy hsb) hn)
    ·exact Ev.neg hsb hn
   ·have hn := ih false (by
     obtain ⟨y, hy1, hy2⟩ := ha1
     rcases List.mem_cons.mp hy1 with rfl | hy1
     ·exact absurd hy2.1 hsy
     ·exact .inr ⟨y, hy1, hy2⟩)
    refine Ev.neg hsy (Ev.pos c2 ?_)
    by_cases hsb : rdOf false s (b : Int) = true
    ·exact Ev.pos hsb hn
    ·exact Ev.neg hsb hn
theorem order_l1 (l : List S40) (hl : l.length ≤ 60) (hs : s.length = l.length) (hP : P.length = l.length) (hx : AheadIs l l.length x)
  (hI : ∀ b : Nat, b < l.length → rdOf false s (b : Int) = decide (rd P (b : Int) > 0))
  (hF : fl = true ∨ ∀ b : Nat, b < l.length → ∀ y ∈ aheadTo l l.length (b : Int), rdOf false s y = true → rdOf false s (b : Int) = true → rd P y < rd P (b : Int))
  (hL : ∀ b : Nat, b < l.length → b ≠ 0 → rdOf false s (b : Int) = true → ∃ y ∈ aheadTo l l.length (b : Int), rdOf false s y = true ∧ rd P y < rd P (b : Int)) :
  ∀ (d b : Nat), l.length - b = d → b ≤ l.length → Ev (fun k => truantlaw09_FlowOrder.l1 k s x P fl (b : Int)) true := by
 intro d
 induction d with
 | zero =>
  intro b hd hb
  exact Ev.step (fun k => rfl) (Ev.neg (by omega) (Ev.now _))
 | succ d ih =>
  intro b hd hb
  have hlt : b < l.length := by omega
  have hw : wrap64 ((b : Int) + 1) = ((b + 1 : Nat) : Int) := wrap_up (n := l.length) hlt (by omega)
  have hn : Ev (fun k => truantlaw09_FlowOrder.l1 k s x P fl (wrap64 ((b : Int) + 1))) true := by rw [hw]; exact ih (b + 1) (by omega) (by omega)
  have hxe : rd_L2 x (b : Int) = aheadTo l l.length (b : Int) := by unfold rd_L2; rw [Int.toNat_natCast]; exact hx.2 b hlt
  have hxl := hx.1
  have hal := ahead_len l (b : Int) l.length
  have go : ∀ acc : Bool, (acc = true ∨ ∃ y ∈ aheadTo l l.length (b : Int), rdOf false s y = true ∧ rd P y < rd P (b : Int)) → Ev (fun k => truantlaw09_FlowOrder.j3 k s x P fl (b : Int) acc) true := fun acc ha =>
   Ev.step (fun k => rfl) (order_l2 s x P fl true b _ hxe (by omega) (by omega) (by omega) (fun y hy => by have := (ahead_mem l.length).mp hy; exact ⟨this.1, by omega⟩) (by omega) (hF.imp id (fun f => f b hlt)) hn _ 0 acc rfl (Nat.zero_le _) ha)
  have hI1 : ¬ ((rdOf false s (b : Int)) != (decide (rd P (b : Int) > 0))) = true := by rw [hI b hlt]; simp
  refine Ev.step (fun k => rfl) (Ev.pos (by omega) (Ev.pos (by omega) (Ev.pos (by omega) (Ev.neg hI1 ?_))))
  by_cases hb0 : (b : Int) = 0
  ·exact Ev.pos hb0 (go true (.inl rfl))
  ·refine Ev.neg hb0 (go _ ?_)
   by_cases hsb : rdOf false s (b : Int) = true
   ·exact .inr (hL b hlt (by omega) hsb)
   ·left
    rw [Bool.not_eq_true] at hsb
    rw [hsb]
    rfl
end
theorem FlowOrder_pure : FlowOrder.Pure := by
 intro a0 l1 a2 l3 l4 l hwf
 have hev : Ev (fun k => truantlaw09_FlowOrder.f k a0 l1 a2 l3 l4 l) true := by
  unfold truantlaw09_FlowOrder.f
  refine Ev.bind awake_true (Ev.pos rfl ?_)
  obtain ⟨b, hb, hb2⟩ := wide_ev a0 l1 a2 l3 l4 l
  refine Ev.bind hb ?_
  cases b with
  | true => exact Ev.pos rfl (Ev.now _)
  | false =>
   obtain ⟨hl60, hl4⟩ := hb2 rfl
   refine Ev.neg (by simp) ?_
   obtain ⟨x, hx, hx1⟩ := flowAhead a0 l1 a2 l3 l4 l (by omega)
   by_cases hn : 0 < l.length
   ·obtain ⟨s, e, h1, h2, h3, h4⟩ := walk_facts l (by unfold LIMF; omega) hn
    have hc := h2.count
    rw [unseen_none, List.length_append] at hc
    simp only [List.length_singleton] at hc
    have hs := h2.len
    rw [List.length_replicate] at hs
    obtain ⟨o, ho⟩ : ∃ o : List Int, o = (e ++ [0]).reverse := ⟨_, rfl⟩
    have hol : o.length ≤ 60 := by rw [ho, List.length_reverse, List.length_append]; simp only [List.length_singleton]; omega
    have hm : ∀ y, y ∈ o ↔ y ∈ e ++ [0] := fun y => by rw [ho, List.mem_reverse]
    have hR : ∀ y, hasR s y ↔ y ∈ o := fun y => by rw [hm, h2.mem]; exact ⟨fun h => h.resolve_left (hasR_none _ _), .inr⟩
    have hnd : o.Nodup := by rw [ho]; exact (List.reverse_perm _).nodup_iff.mpr h2.nodup
    have ho0 : o = 0 :: e.reverse := by rw [ho]; simp
    have hin : ∀ y ∈ o, 0 ≤ y ∧ y < (l.length : Int) := fun y hy => by
     have := (hR y).mpr hy
     exact ⟨this.1, by have := this.2.1; omega⟩
    have hO : flow_Order.f a0 l1 a2 l3 l4 l = some o := by
     unfold flow_Order.f
     rw [h1]
     simp only [Option.bind_some]
     rw [if_pos (by rw [List.length_append]; simp only [List.length_singleton]; unfold LIMF; omega), ho]
    have hRc : flow_Reached.f a0 l1 a2 l3 l4 l = some s := by unfold flow_Reached.f; rw [h1]; rfl
    have hB : flow_Back.f a0 l1 a2 l3 l4 l = some (backTo l o l.length) := by
     unfold flow_Back.f
     rw [hO]
     simp only [Option.bind_some]
     rw [if_pos]
     unfold backOk LIMB
     simp only [Bool.and_eq_true, decide_eq_true_eq, List.all_eq_true]
     exact ⟨⟨by omega, by omega⟩, hin⟩
    have hled : ∀ b : Int, b ∈ o → b ≠ 0 → ∃ y, y ∈ o ∧ b ∈ nextOf l y ∧ plc o y < plc o b := fun b hbo hb0 => by
     obtain ⟨e1, e2, he⟩ := List.append_of_mem ((hm b).mp hbo)
     obtain ⟨p, hp, hpn⟩ := (h2.led e1 b e2 he).resolve_left (fun h => hb0 (by simpa using h))
     have hoe : o = e2.reverse ++ b :: e1.reverse := by rw [ho, he]; simp
     obtain ⟨j, hj, hje⟩ := mem_getD (List.mem_reverse.mpr hp)
     have hj2 : j < e2.length := by simpa using hj
     have hlen : o.length = e2.length + 1 + e1.length := by rw [hoe]; simp; omega
     have g1 : o.getD j 0 = p := by
      rw [← hje, hoe]
      simp only [List.getD]
      rw [List.getElem?_append_left hj]
     have g2 : o.getD e2.length 0 = b := by
      rw [hoe]
      simp only [List.getD]
      rw [List.getElem?_append_right (by simp)]
      simp
     refine ⟨p, by rw [hm, he]; simp [hp], hpn, ?_⟩
     have q1 := plc_in hnd (show j < o.length by omega)
     have q2 := plc_in hnd (show e2.length < o.length by omega)
     rw [g1] at q1
     rw [g2] at q2
     omega
    have hrs : ∀ y : Int, 0 ≤ y → y < (l.length : Int) → (rdOf false s y = true ↔ y ∈ o) := fun y h0 h1 => by
     rw [← hR]
     exact ⟨fun h => ⟨h0, by omega, h⟩, fun h => h.2.2⟩
    refine Ev.one hO (Ev.one hRc (Ev.bind hx (Ev.neg (by omega) (Ev.neg ?_ (Ev.pos ?_ ?_)))))
    ·rw [ho0, List.length_cons]; omega
    ·rw [ho0, List.length_cons]; omega
    have hz : (rd o 0 != 0) = false := by rw [ho0]; rfl
    rw [hz]
    refine Ev.step (fun k => rfl) (Ev.pos (by omega) ?_)
    rw [Int.toNat_natCast]
    have step0 : ∀ (d i : Nat) (P : List Int), o.length - i = d → i ≤ o.length → P.length = l.length → (∀ b : Nat, b < l.length → P.getD b 0 = (atN o i b).getD (-1) + 1) → Ev (fun k => truantlaw09_FlowOrder.l0 k o s x P (i : Int) a0 l1 a2 l3 l4 l) true := by
     intro d
     induction d with
     | zero =>
      intro i P hd hi hP hP2
      have ei : i = o.length := by omega
      subst ei
      refine Ev.step (fun k => rfl) (Ev.neg (by omega) (Ev.one hB ?_))
      have hPP : ∀ y : Int, 0 ≤ y → y < (l.length : Int) → rd P y = plc o y := fun y h0 h1 => by
       obtain ⟨m, rfl⟩ := Int.eq_ofNat_of_zero_le h0
       unfold rd
       rw [Int.toNat_natCast, hP2 m (by omega)]
       rfl
      refine order_l1 s x P _ l hl60 hs hP hx1 (fun b hb => ?_) ?_ (fun b hb hb0 hsb => ?_) _ 0 rfl (Nat.zero_le _)
      ·rw [hPP b (by omega) (by omega)]
       by_cases hbo : (b : Int) ∈ o
       ·rw [(hrs b (by omega) (by omega)).mpr hbo]
        obtain ⟨m, hm1, hm2⟩ := mem_getD hbo
        have := plc_in hnd hm1
        rw [hm2] at this
        rw [this]
        exact (decide_eq_true (by omega)).symm
       ·have h1 : ¬ rdOf false s (b : Int) = true := fun h => hbo ((hrs b (by omega) (by omega)).mp h)
        rw [Bool.not_eq_true] at h1
        rw [h1, plc_out hbo]
        rfl
      ·by_cases hbt : ((backTo l o l.length).length : Int) > 0
       ·exact .inl (decide_eq_true hbt)
       ·right
        have hbe : backTo l o l.length = [] := List.eq_nil_of_length_eq_zero (by omega)
        intro b hb y hy hsy hsb
        obtain ⟨y0, y1, y2⟩ := (ahead_mem l.length).mp hy
        rw [hPP y y0 y1, hPP b (by omega) (by omega)]
        exact no_back hnd hbe y0 y1 ((hrs y y0 y1).mp hsy) ((hrs b (by omega) (by omega)).mp hsb) y2
      ·obtain ⟨y, hy1, hy2, hy3⟩ := hled b ((hrs b (by omega) (by omega)).mp hsb) (by omega)
       obtain ⟨y0, yl⟩ := hin y hy1
       refine ⟨y, (ahead_mem l.length).mpr ⟨y0, yl, hy2⟩, (hrs y y0 yl).mpr hy1, ?_⟩
       rw [hPP y y0 yl, hPP b (by omega) (by omega)]
       exact hy3
     | succ d ih =>
      intro i P hd hi hP hP2
      have hlt : i < o.length := by omega
      have hrd : rd o (i : Int) = o[i] := by unfold rd; rw [Int.toNat_natCast, getD_at _ _ hlt]
      have hmem : o[i] ∈ o := List.getElem_mem hlt
      obtain ⟨y0, yl⟩ := hin _ hmem
      have hsy : rdOf false s o[i] = true := (hrs _ y0 yl).mpr hmem
      have hno : atN o i o[i] = none := atN_no (fun j hj he => by
       rw [← getD_at o 0 hlt] at he
       have := nd_inj hnd (by omega) hlt he
       omega)
      have hp0 : rd P o[i] = 0 := by
       have := hP2 o[i].toNat (by omega)
       rw [show ((o[i].toNat : Nat) : Int) = o[i] from Int.toNat_of_nonneg y0, hno] at this
       unfold rd
       exact this
      refine Ev.step (fun k => rfl) (Ev.pos (by omega) (Ev.pos (by omega) ?_))
      rw [hrd, wrap_up (n := o.length) hlt (by omega)]
      refine Ev.neg (by omega) (Ev.neg (by omega) (Ev.pos (by omega) (Ev.pos (by omega) (Ev.pos hp0 (Ev.pos (by omega) (Ev.pos hsy ?_))))))
      refine ih (i + 1) _ (by omega) (by omega) (by rw [List.length_set]; exact hP) (fun b hb => ?_)
      unfold atN
      rw [getD_at _ _ hlt]
      by_cases he : (b : Int) = o[i]
      ·rw [if_pos he, ← he, Int.toNat_natCast]
       simp only [List.getD]
       rw [List.getElem?_set_self (by omega)]
       rfl
      ·rw [if_neg he, ← hP2 b hb]
       simp only [List.getD]
       rw [List.getElem?_set_ne (by omega)]
    exact step0 _ 0 _ rfl (Nat.zero_le _) (by simp) (fun b hb => by simp [atN, List.getD, hb])
   ·obtain rfl : l = [] := List.eq_nil_of_length_eq_zero (by omega)
    exact Ev.one (b := []) rfl (Ev.one (b := []) rfl (Ev.bind hx (Ev.pos rfl (Ev.now _))))
 exact hev.rounds
end Go.Proofs.Ytclhjalgflebfaa.Q

