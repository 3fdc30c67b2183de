/- What the row of FlowExact rests on, part 2: contracts of the functions that it reaches, and the plain law. -/
import Derived.Test.YtclhjalgflebfaaJFlowExact1
namespace Go.Proofs.Ytclhjalgflebfaa.Q
open Go.RowKit Go.Proofs.YtclhjalgflebfaaW.PrintWords Go.Proofs.YtclhjalgflebfaaW.PrintLast Go.Proofs.YtclhjalgflebfaaW.PrintMore
attribute [local go_sem] max2_int min2_int max_two min_two max_three min_three max_four min_four   -- for this text's walks alone
set_option linter.unusedVariables false
set_option linter.unusedSimpArgs false

/-! ### truantref09_Order: function 23 -/
mutual
def truantref09_Order.l0 : Nat → List Bool → List Int → List Int → ByteArray → List ByteArray → ByteArray → List ByteArray → List (S58) → List (S40) → Option (List Int)
 | 0, _, _, _, _, _, _, _, _, _ => none
 | k + 1, x3, x4, x5, x353000, x353001, x353002, x353003, x353004, x353005 => if (x4.length : Int) > 0 then (if 0 ≤ (wrap64 ((x4.length : Int) - 1)) then (if (wrap64 ((x4.length : Int) - 1)) < (x4.length : Int) then ((truantref09_Next.f k x353000 x353001 x353002 x353003 x353004 x353005 (rd x4 (wrap64 ((x4.length : Int) - 1)))).bind fun t364 => (truantref09_Order.l1 k x3 x4 x5 (rd x4 (wrap64 ((x4.length : Int) - 1))) t364 (-1) (wrap64 ((t364.length : Int) - 1)) x353000 x353001 x353002 x353003 x353004 x353005)) else (none)) else (none)) else (some x5)
def truantref09_Order.l1 : Nat → List Bool → List Int → List Int → Int → List Int → Int → Int → ByteArray → List ByteArray → ByteArray → List ByteArray → List (S58) → List (S40) → Option (List Int)
 | 0, _, _, _, _, _, _, _, _, _, _, _, _, _ => none
 | k + 1, x3, x4, x5, x6, x7, x8, x9, x353000, x353001, x353002, x353003, x353004, x353005 => if x9 ≥ 0 then (if 0 ≤ x9 then (if x9 < (x7.length : Int) then (if 0 ≤ (rd x7 x9) then (if (rd x7 x9) < (x3.length : Int) then (if (rdOf false x3 (rd x7 x9) = true) then (truantref09_Order.l1 k x3 x4 x5 x6 x7 x8 (wrap64 (x9 - 1)) x353000 x353001 x353002 x353003 x353004 x353005) else (truantref09_Order.l1 k x3 x4 x5 x6 x7 (rd x7 x9) (wrap64 (x9 - 1)) x353000 x353001 x353002 x353003 x353004 x353005)) else (none)) else (none)) else (none)) else (none)) else (if x8 ≥ 0 then (if 0 ≤ x8 then (if x8 < (x3.length : Int) then (if x4.length < 17592186044416 then (truantref09_Order.l0 k (x3.set (x8 : Int).toNat true) (x4 ++ [x8]) x5 x353000 x353001 x353002 x353003 x353004 x353005) else (none)) else (none)) else (none)) else ((some (([x6] : List Int) : List Int)).bind fun y374 => (if y374.length + x5.length < 17592186044416 then (if 0 ≤ (wrap64 ((x4.length : Int) - 1)) then (if (wrap64 ((x4.length : Int) - 1)) ≤ (x4.length : Int) then (truantref09_Order.l0 k x3 (x4.take ((wrap64 ((x4.length : Int) - 1)) : Int).toNat) (y374 ++ x5) x353000 x353001 x353002 x353003 x353004 x353005) else (none)) else (none)) else (none))))
end
def truantref09_Order.f (k : Nat) (a0_0 : ByteArray) (l0_1 : List ByteArray) (a0_2 : ByteArray) (l0_3 : List ByteArray) (l0_4 : List (S58)) (l0_5 : List (S40)) : Option (List Int) := if (l0_5.length : Int) = 0 then (some ([] : List Int)) else (if 0 ≤ (l0_5.length : Int) then (if ((l0_5.length : Int) : Int).toNat ≤ 281474976710656 then ((some (List.replicate ((l0_5.length : Int) : Int).toNat false : List Bool)).bind fun y353 => (if 0 < (y353.length : Int) then (truantref09_Order.l0 k (y353.set (0 : Int).toNat true) (([0] : List Int)) (([] : List Int)) a0_0 l0_1 a0_2 l0_3 l0_4 l0_5) else (none))) else (none)) else (none))
theorem truantref09_Order.mono_l : ∀ k, (∀ y0 y1 y2 y3 y4 y5 y6 y7 y8, LeO (truantref09_Order.l0 k y0 y1 y2 y3 y4 y5 y6 y7 y8) (truantref09_Order.l0 (k + 1) y0 y1 y2 y3 y4 y5 y6 y7 y8)) ∧ (∀ y0 y1 y2 y3 y4 y5 y6 y7 y8 y9 y10 y11 y12, LeO (truantref09_Order.l1 k y0 y1 y2 y3 y4 y5 y6 y7 y8 y9 y10 y11 y12) (truantref09_Order.l1 (k + 1) y0 y1 y2 y3 y4 y5 y6 y7 y8 y9 y10 y11 y12))
 | 0 => ⟨fun _ _ _ _ _ _ _ _ _ r h => by simp [truantref09_Order.l0] at h, fun _ _ _ _ _ _ _ _ _ _ _ _ _ r h => by simp [truantref09_Order.l1] at h⟩
 | k + 1 => by
  obtain ⟨ih0, ih1⟩ := truantref09_Order.mono_l k
  refine ⟨?_, ?_⟩
  ·intro y0 y1 y2 y3 y4 y5 y6 y7 y8
   unfold truantref09_Order.l0
   repeat' first
   | (with_reducible exact ih0 _ _ _ _ _ _ _ _ _)
   | (with_reducible exact ih1 _ _ _ _ _ _ _ _ _ _ _ _ _)
   | (with_reducible exact truantref09_Next.mono _ _ _ _ _ _ _ _)
   | (with_reducible exact LeO.refl _)
   | (with_reducible exact LeO.none _)
   | (with_reducible refine LeO.ite ?_ ?_)
   | (with_reducible refine LeO.bind ?_ (fun _ => ?_))
   | exact ih0 _ _ _ _ _ _ _ _ _
   | exact ih1 _ _ _ _ _ _ _ _ _ _ _ _ _
   | exact truantref09_Next.mono _ _ _ _ _ _ _ _
   | exact LeO.none _
   | refine LeO.ite ?_ ?_
   | refine LeO.bind ?_ (fun _ => ?_)
  ·intro y0 y1 y2 y3 y4 y5 y6 y7 y8 y9 y10 y11 y12
   unfold truantref09_Order.l1
   repeat' first
   | (with_reducible exact ih0 _ _ _ _ _ _ _ _ _)
   | (with_reducible exact ih1 _ _ _ _ _ _ _ _ _ _ _ _ _)
   | (with_reducible exact truantref09_Next.mono _ _ _ _ _ _ _ _)
   | (with_reducible exact LeO.refl _)
   | (with_reducible exact LeO.none _)
   | (with_reducible refine LeO.ite ?_ ?_)
   | (with_reducible refine LeO.bind ?_ (fun _ => ?_))
   | exact ih0 _ _ _ _ _ _ _ _ _
   | exact ih1 _ _ _ _ _ _ _ _ _ _ _ _ _
   | exact truantref09_Next.mono _ _ _ _ _ _ _ _
   | exact LeO.none _
   | refine LeO.ite ?_ ?_
   | refine LeO.bind ?_ (fun _ => ?_)
theorem truantref09_Order.mono : ∀ a0 a1 a2 a3 a4 a5 k, LeO (truantref09_Order.f k a0 a1 a2 a3 a4 a5) (truantref09_Order.f (k + 1) a0 a1 a2 a3 a4 a5) := by
 intro a0 a1 a2 a3 a4 a5 k
 obtain ⟨ih0, ih1⟩ := truantref09_Order.mono_l k
 unfold truantref09_Order.f
 repeat' first
   | (with_reducible exact ih0 _ _ _ _ _ _ _ _ _)
   | (with_reducible exact ih1 _ _ _ _ _ _ _ _ _ _ _ _ _)
   | (with_reducible exact truantref09_Next.mono _ _ _ _ _ _ _ _)
   | (with_reducible exact LeO.refl _)
   | (with_reducible exact LeO.none _)
   | (with_reducible refine LeO.ite ?_ ?_)
   | (with_reducible refine LeO.bind ?_ (fun _ => ?_))
   | exact ih0 _ _ _ _ _ _ _ _ _
   | exact ih1 _ _ _ _ _ _ _ _ _ _ _ _ _
   | exact truantref09_Next.mono _ _ _ _ _ _ _ _
   | exact LeO.none _
   | refine LeO.ite ?_ ?_
   | refine LeO.bind ?_ (fun _ => ?_)
set_option maxHeartbeats 8000000 in
set_option maxRecDepth 100000 in
theorem truantref09_Order.calls (k : Nat) (a0_0 : ByteArray) (A0_1 : Option Addr) (c0_1 : Nat) (l0_1 : List ByteArray) (a0_2 : ByteArray) (A0_3 : Option Addr) (c0_3 : Nat) (l0_3 : List ByteArray) (A0_4 : Option Addr) (c0_4 : Nat) (l0_4 : List (S58)) (A0_5 : Option Addr) (c0_5 : Nat) (l0_5 : List (S40)) (r : List Int) (w : World) (hr0_1 : Kd.C Kd.string w A0_1 l0_1.length l0_1) (hc0_1 : l0_1.length ≤ c0_1) (hr0_3 : Kd.C Kd.string w A0_3 l0_3.length l0_3) (hc0_3 : l0_3.length ≤ c0_3) (hr0_4 : Kd.C k58 w A0_4 l0_4.length l0_4) (hc0_4 : l0_4.length ≤ c0_4) (hr0_5 : Kd.C k40 w A0_5 l0_5.length l0_5) (hc0_5 : l0_5.length ≤ c0_5) (h : truantref09_Order.f k a0_0 l0_1 a0_2 l0_3 l0_4 l0_5 = some r) :
  Calls Try.prog 23 #[.agg #[.string a0_0, .slice A0_1 l0_1.length c0_1, .string a0_2, .slice A0_3 l0_3.length c0_3, .slice A0_4 l0_4.length c0_4, .slice A0_5 l0_5.length c0_5]] w fun e w' => ∃ v0_ : Value, e = .returned (v0_) ∧ Kd.R (Kd.int .i64) 3 w' w.heap.size (fun _ => True) v0_ r ∧ Below w.heap.size w w' := by
 have hu26 := Try.underlying26
 have HR0_1 := Aside0.mk hr0_1
 have HC0_1 := Aside0.mk hc0_1
 clear hr0_1 hc0_1
 have HR0_3 := Aside0.mk hr0_3
 have HC0_3 := Aside0.mk hc0_3
 clear hr0_3 hc0_3
 have HR0_4 := Aside0.mk hr0_4
 have HC0_4 := Aside0.mk hc0_4
 clear hr0_4 hc0_4
 have HR0_5 := Aside0.mk hr0_5
 have HC0_5 := Aside0.mk hc0_5
 clear hr0_5 hc0_5
 have HB := Aside0.mk (Below.refl w.heap.size w)
 have H : (if (l0_5.length : Int) = 0 then (some ([] : List Int)) else (if 0 ≤ (l0_5.length : Int) then (if ((l0_5.length : Int) : Int).toNat ≤ 281474976710656 then ((some (List.replicate ((l0_5.length : Int) : Int).toNat false : List Bool)).bind fun y353 => (if 0 < (y353.length : Int) then (truantref09_Order.l0 k (y353.set (0 : Int).toNat true) (([0] : List Int)) (([] : List Int)) a0_0 l0_1 a0_2 l0_3 l0_4 l0_5) else (none))) else (none)) else (none))) = some r := h
 clear h
 by_cases c2 : (l0_5.length : Int) = 0
 ·rw [if_pos c2] at H
  have c2b0 : ((l0_5.length : Int) == 0) = true := beq_iff_eq.mpr c2
  have c2b1 : ((l0_5.length : Int) != 0) = false := bne_eq_false_iff_eq.mpr c2
  clear c2
  obtain rfl := Option.some.inj H
  go_enter Try.func23, Try.ntmps23
  go_wp2_with (first | ((with_reducible refine gate_dst (N := 1) rfl ?_); refine box_event ?hg (N := 1) ?hd (cs := #[.string a0_0, .slice A0_1 l0_1.length c0_1, .string a0_2, .slice A0_3 l0_3.length c0_3, .slice A0_4 l0_4.length c0_4, .slice A0_5 l0_5.length c0_5]) (t := 26) ?hr ?_; (case hd => rfl); (case hg => rfl); (case hr => first | (go_simp; done) | (go_simp; rfl)); intro gb352 hg w3 hbox hb; have n0_ := Aside0.mk (below_step (by repeat (first | (with_reducible first | exact HB.out | apply below_alloc | apply pw_below_drewN | apply below_drew1) | exact HB.out)) hb); have n1_ := Aside0.mk (hbox); have n2_ := Aside0.mk ((by rw [hg]; exact (below_size (by repeat (first | (with_reducible first | exact HB.out | apply below_alloc | apply pw_below_drewN | apply below_drew1) | exact HB.out))) : w.heap.size ≤ gb352)); have n3_ := Aside0.mk ((by rw [hg]; exact (below_size (by repeat (first | (with_reducible first | exact HB.out | apply below_alloc | apply pw_below_drewN | apply below_drew1) | exact HB.out))) : w.heap.size ≤ gb352)); clear HB; have HB := n0_; have BK352 := n1_; have GW352 := n2_; have GE352 := n3_; clear n0_ n1_ n2_ n3_; clear hb hbox hg; have hcz4_0 : w3.cell? ⟨gb352, 0, none⟩ = some (.string a0_0) := (blk_cell BK352.out 0).trans rfl; have hcz4_1 : w3.cell? ⟨gb352, 1, none⟩ = some (.slice A0_1 l0_1.length c0_1) := (blk_cell BK352.out 1).trans rfl; have hcz4_2 : w3.cell? ⟨gb352, 2, none⟩ = some (.string a0_2) := (blk_cell BK352.out 2).trans rfl; have hcz4_3 : w3.cell? ⟨gb352, 3, none⟩ = some (.slice A0_3 l0_3.length c0_3) := (blk_cell BK352.out 3).trans rfl; have hcz4_4 : w3.cell? ⟨gb352, 4, none⟩ = some (.slice A0_4 l0_4.length c0_4) := (blk_cell BK352.out 4).trans rfl; have hcz4_5 : w3.cell? ⟨gb352, 5, none⟩ = some (.slice A0_5 l0_5.length c0_5) := (blk_cell BK352.out 5).trans rfl; have hfz4_0 := blk_frozen BK352.out 0; have hfz4_1 := blk_frozen BK352.out 1; have hfz4_2 := blk_frozen BK352.out 2; have hfz4_3 := blk_frozen BK352.out 3; have hfz4_4 := blk_frozen BK352.out 4; have hfz4_5 := blk_frozen BK352.out 5))
  go_ret
  exact ⟨_, by first | rfl | (simp [errW_none, errW_some] <;> rfl) | (simp [*, errW_none, errW_some] <;> rfl), by first | exact Kd.R_nil _ _ _ _ _ | exact Kd.N_nil _ _ _ _ _ | exact Kd.V_nil _ _ _ _ _ | exact Kd.Q_nil _ _ _ _ _ | exact Kd.S_nil _ _ _ _ _, by repeat (first | (with_reducible first | exact HB.out | apply below_alloc | apply pw_below_drewN | apply below_drew1 | refine below_set ?_ GE352.out) | exact HB.out)⟩
 ·rw [if_neg c2] at H
  have c2b0 : ((l0_5.length : Int) == 0) = false := beq_eq_false_iff_ne.mpr c2
  have c2b1 : ((l0_5.length : Int) != 0) = true := bne_iff_ne.mpr c2
  have c2b2 : ¬ (l0_5 = []) := fun h_ => c2 (by rw [h_]; rfl)
  by_cases c5 : 0 ≤ (l0_5.length : Int)
  ·rw [if_pos c5] at H
   have c5b0 := eq_true c5
   have c5b1 : decide (0 ≤ (l0_5.length : Int)) = true := decide_eq_true c5
   clear c5
   by_cases c6 : ((l0_5.length : Int) : Int).toNat ≤ 281474976710656
   ·rw [if_pos c6] at H
    have c6b0 := eq_true c6
    have c6b1 : decide (((l0_5.length : Int) : Int).toNat ≤ 281474976710656) = true := decide_eq_true c6
    clear c6
    obtain ⟨y353, hy353⟩ : ∃ y_ : List Bool, y_ = (List.replicate ((l0_5.length : Int) : Int).toNat false) := ⟨_, rfl⟩
    replace H : (if 0 < (y353.length : Int) then (truantref09_Order.l0 k (y353.set (0 : Int).toNat true) (([0] : List Int)) (([] : List Int)) a0_0 l0_1 a0_2 l0_3 l0_4 l0_5) else (none)) = some r := by first | (rw [hy353]; with_reducible exact H) | (have H2_ := (Option.bind_some _ _).symm.trans H; rw [hy353]; with_reducible exact H2_) | (have H2_ := (Option.bind_some _ _).symm.trans H; with_reducible exact H2_) | with_reducible exact H | (rw [hy353]; exact H) | exact H
    have Ny353 := Aside0.mk hy353
    clear hy353
    obtain ⟨y356, hy356⟩ : ∃ y_ : List Int, y_ = (([0] : List Int)) := ⟨_, rfl⟩
    replace H : (if 0 < (y353.length : Int) then (truantref09_Order.l0 k (y353.set (0 : Int).toNat true) y356 (([] : List Int)) a0_0 l0_1 a0_2 l0_3 l0_4 l0_5) else (none)) = some r := by first | (rw [hy356]; with_reducible exact H) | (have H2_ := (Option.bind_some _ _).symm.trans H; rw [hy356]; with_reducible exact H2_) | (have H2_ := (Option.bind_some _ _).symm.trans H; with_reducible exact H2_) | with_reducible exact H | (rw [hy356]; exact H) | exact H
    have Ny356 := Aside0.mk hy356
    clear hy356
    by_cases c7 : 0 < (y353.length : Int)
    ·rw [if_pos c7] at H
     have c7b0 : decide (0 < (y353.length : Int)) = true := decide_eq_true c7
     have c7b1 : decide (0 < y353.length) = true := decide_eq_true (by omega)
     clear c7
     obtain ⟨y359, hy359⟩ : ∃ y_ : List Bool, y_ = (y353.set (0 : Int).toNat true) := ⟨_, rfl⟩
     replace H : (truantref09_Order.l0 k y359 y356 (([] : List Int)) a0_0 l0_1 a0_2 l0_3 l0_4 l0_5) = some r := by first | (rw [hy359]; with_reducible exact H) | (have H2_ := (Option.bind_some _ _).symm.trans H; rw [hy359]; with_reducible exact H2_) | (have H2_ := (Option.bind_some _ _).symm.trans H; with_reducible exact H2_) | with_reducible exact H | (rw [hy359]; exact H) | exact H
     have Ny359 := Aside0.mk hy359
     clear hy359
     obtain ⟨y360, hy360⟩ : ∃ y_ : List Int, y_ = (([] : List Int)) := ⟨_, rfl⟩
     replace H : (truantref09_Order.l0 k y359 y356 y360 a0_0 l0_1 a0_2 l0_3 l0_4 l0_5) = some r := by first | (rw [hy360]; with_reducible exact H) | (have H2_ := (Option.bind_some _ _).symm.trans H; rw [hy360]; with_reducible exact H2_) | (have H2_ := (Option.bind_some _ _).symm.trans H; with_reducible exact H2_) | with_reducible exact H | (rw [hy360]; exact H) | exact H
     have Ny360 := Aside0.mk hy360
     clear hy360
     have H' := Aside0.mk H
     clear H
     go_enter Try.func23, Try.ntmps23
     go_wp2_with (first | ((with_reducible refine gate_dst (N := 1) rfl ?_); refine box_event ?hg (N := 1) ?hd (cs := #[.string a0_0, .slice A0_1 l0_1.length c0_1, .string a0_2, .slice A0_3 l0_3.length c0_3, .slice A0_4 l0_4.length c0_4, .slice A0_5 l0_5.length c0_5]) (t := 26) ?hr ?_; (case hd => rfl); (case hg => rfl); (case hr => first | (go_simp; done) | (go_simp; rfl)); intro gb352 hg w9 hbox hb; have n0_ := Aside0.mk (below_step (by repeat (first | (with_reducible first | exact HB.out | apply below_alloc | apply pw_below_drewN | apply below_drew1) | exact HB.out)) hb); have n1_ := Aside0.mk (hbox); have n2_ := Aside0.mk ((by rw [hg]; exact (below_size (by repeat (first | (with_reducible first | exact HB.out | apply below_alloc | apply pw_below_drewN | apply below_drew1) | exact HB.out))) : w.heap.size ≤ gb352)); have n3_ := Aside0.mk ((by rw [hg]; exact (below_size (by repeat (first | (with_reducible first | exact HB.out | apply below_alloc | apply pw_below_drewN | apply below_drew1) | exact HB.out))) : w.heap.size ≤ gb352)); clear HB; have HB := n0_; have BK352 := n1_; have GW352 := n2_; have GE352 := n3_; clear n0_ n1_ n2_ n3_; clear hb hbox hg; have hcz10_0 : w9.cell? ⟨gb352, 0, none⟩ = some (.string a0_0) := (blk_cell BK352.out 0).trans rfl; have hcz10_1 : w9.cell? ⟨gb352, 1, none⟩ = some (.slice A0_1 l0_1.length c0_1) := (blk_cell BK352.out 1).trans rfl; have hcz10_2 : w9.cell? ⟨gb352, 2, none⟩ = some (.string a0_2) := (blk_cell BK352.out 2).trans rfl; have hcz10_3 : w9.cell? ⟨gb352, 3, none⟩ = some (.slice A0_3 l0_3.length c0_3) := (blk_cell BK352.out 3).trans rfl; have hcz10_4 : w9.cell? ⟨gb352, 4, none⟩ = some (.slice A0_4 l0_4.length c0_4) := (blk_cell BK352.out 4).trans rfl; have hcz10_5 : w9.cell? ⟨gb352, 5, none⟩ = some (.slice A0_5 l0_5.length c0_5) := (blk_cell BK352.out 5).trans rfl; have hfz10_0 := blk_frozen BK352.out 0; have hfz10_1 := blk_frozen BK352.out 1; have hfz10_2 := blk_frozen BK352.out 2; have hfz10_3 := blk_frozen BK352.out 3; have hfz10_4 := blk_frozen BK352.out 4; have hfz10_5 := blk_frozen BK352.out 5) | ((with_reducible refine gate_dst (N := 17) rfl ?_); refine Kd.R_make Kd.bool _ 4 rfl (N := 17) rfl 31 _ _ rfl (l0_5.length : Int) rfl rfl Try.underlying31 (.bool false) 1 info4 rfl (by decide) (by omega) false (ok := fun _ => True) (okp := fun _ => True) rfl (fun _ hk => hk) trivial (of_decide_eq_true (by first | (with_reducible assumption) | assumption)) (Nat.le_trans (Nat.mul_le_mul_right _ (of_decide_eq_true (by first | (with_reducible assumption) | assumption) : (l0_5.length : Int).toNat ≤ 281474976710656)) (by omega)) (Below.refl _ _) (Nat.le_refl _) ?_; intro v354 w11 ho12 hb hg_ hnew_; clear hg_ hnew_; (first | rw [← Ny353.out] at ho12 | (simp only [Int.reduceToNat] at ho12; rw [← Ny353.out] at ho12)); have n0_ := Aside0.mk (Kd.R_lower ho12 (below_size (by repeat (first | (with_reducible first | exact HB.out | apply below_alloc | apply pw_below_drewN | apply below_drew1 | refine below_set ?_ GE352.out) | exact HB.out)))); have n1_ := Aside0.mk (blk_below (g := gb352) (o := .cells #[.string a0_0, .slice A0_1 l0_1.length c0_1, .string a0_2, .slice A0_3 l0_3.length c0_3, .slice A0_4 l0_4.length c0_4, .slice A0_5 l0_5.length c0_5] 26 (0, 0)) (by (with_reducible repeat (first | refine blk_drewN ?_ _ | refine blk_drew ?_ | refine blk_alloc ?_ _)); exact BK352.out) hb); have n2_ := Aside0.mk (below_step (by repeat (first | (with_reducible first | exact HB.out | apply below_alloc | apply pw_below_drewN | apply below_drew1 | refine below_set ?_ GE352.out) | exact HB.out)) hb); clear BK352; clear HB; have HO355 := n0_; have BK352 := n1_; have HB := n2_; clear n0_ n1_ n2_; clear hb ho12) | ((with_reducible refine gate_dst (N := 18) rfl ?_); refine Kd.R_lit (Kd.int .i64) _ 3 ?hg (N := 18) ?hd (xs := ([0] : List Int)) (inner := [.int .i64 0]) (ok := fun _ => True) (okp := fun _ => True) ?hr ?hp (fun _ hk => hk) trivial (Below.refl _ _) (Nat.le_refl _) (by simp) ?_; (case hd => rfl); (case hg => rfl); (case hr => first | (go_simp; done) | (go_simp; rfl)); (case hp => exact (Reps.one (show Kd.M (Kd.int .i64) _ _ _ 0 [.int .i64 0] from rfl) (Reps.none _ _))); intro v357 w13 ho14 hb hg_ hnew_; clear hg_ hnew_; (first | rw [← Ny356.out] at ho14 | (simp only [Int.reduceToNat] at ho14; rw [← Ny356.out] at ho14)); have n0_ := Aside0.mk (Kd.R_below (by (with_reducible repeat (first | apply Kd.R_alloc | apply Kd.R_drewN | apply Kd.R_drew)); exact HO355.out) hb); have n1_ := Aside0.mk (Kd.R_lower ho14 (below_size (by repeat (first | (with_reducible first | exact HB.out | apply below_alloc | apply pw_below_drewN | apply below_drew1 | refine below_set ?_ GE352.out) | exact HB.out)))); have n2_ := Aside0.mk (blk_below (g := gb352) (o := .cells #[.string a0_0, .slice A0_1 l0_1.length c0_1, .string a0_2, .slice A0_3 l0_3.length c0_3, .slice A0_4 l0_4.length c0_4, .slice A0_5 l0_5.length c0_5] 26 (0, 0)) (by (with_reducible repeat (first | refine blk_drewN ?_ _ | refine blk_drew ?_ | refine blk_alloc ?_ _)); exact BK352.out) hb); have n3_ := Aside0.mk (below_step (by repeat (first | (with_reducible first | exact HB.out | apply below_alloc | apply pw_below_drewN | apply below_drew1 | refine below_set ?_ GE352.out) | exact HB.out)) hb); clear HO355; clear BK352; clear HB; have HO355 := n0_; have HO358 := n1_; have BK352 := n2_; have HB := n3_; clear n0_ n1_ n2_ n3_; clear hb ho14; have p8 : 0 ≤ (0 : Int) := (by omega); have q8 : (0 : Int) < ((y353.length : Int) : Int) := of_decide_eq_true (by first | (with_reducible assumption) | assumption); have qi8 : (0 < y353.length) = True := eq_true (by omega); obtain ⟨go8, co8, eo8, gb8, gl8, cl8, HG8⟩ := Kd.R_form HO355.out (by omega); (first | cases eo8 | (injection eo8 with ea_ en_ ec_; (first | subst ea_ | (injection ea_ with ea_; subst ea_)); subst ec_; clear en_)); have GB8 := Aside0.mk gb8; have GG8 := Aside0.mk HG8; clear gb8 gl8 HG8; obtain ⟨hx8_0, hf8_0⟩ := Kd.R_celln false HO355.out (0 : Int) p8 q8; (try rw [show ((0 : Int)).toNat = 0 from rfl] at hx8_0); (try simp only [Nat.reduceMul, Nat.zero_mul, Nat.zero_add, Nat.reduceAdd] at hx8_0); (try rw [show ((0 : Int)).toNat = 0 from rfl] at hf8_0); (try simp only [Nat.reduceMul, Nat.zero_mul, Nat.zero_add, Nat.reduceAdd] at hf8_0); replace p8 := eq_true p8; replace q8 := eq_true q8; obtain ⟨hy15_, hz15_⟩ := Kd.R_celln false HO355.out (0 : Int) (by omega) (of_decide_eq_true (by first | (with_reducible assumption) | assumption)); (try simp only [Int.reduceToNat, Int.toNat_zero, Int.toNat_ofNat, Nat.reduceMul, Nat.zero_mul, Nat.zero_add] at hy15_ hz15_); (try rw [show ((0 : Int)).toNat = 0 from rfl] at hy15_); (try rw [show ((0 : Int)).toNat = 0 from rfl] at hz15_); have HP15 := Kd.R_putg HO355.out (0 : Int) true) | ((with_reducible refine gate_store (t := 4) (p := 20) rfl ?_); refine store_event (t := 4) (p := 20) (v := ?vo_w16) (w1 := (w13.setCell ⟨go8, (0 : Int).toNat, none⟩ (.bool true))) ?hg ?ho ?hn ?hr ?_; (case ho => rfl); (case hg => rfl); (case hn => rfl); (case hr => first | (go_simp; done) | (go_simp; rfl)); intro w16 hw; have hg : w13.grownBy w16 (some go8) := (by rw [hw]; exact HP15.2); have hp_ : Kd.R Kd.bool 4 w16 w.heap.size (fun _ => True) (.slice (some ⟨go8, 0, none⟩) y353.length co8) y359 := (by rw [hw, Ny359.out]; exact HP15.1); clear HP15; have n0_ := Aside0.mk (blk_grown (g := gb352) (o := .cells #[.string a0_0, .slice A0_1 l0_1.length c0_1, .string a0_2, .slice A0_3 l0_3.length c0_3, .slice A0_4 l0_4.length c0_4, .slice A0_5 l0_5.length c0_5] 26 (0, 0)) (by (with_reducible repeat (first | refine blk_drewN ?_ _ | refine blk_drew ?_ | refine blk_alloc ?_ _)); exact BK352.out) hg (Kd.R_ne HO355.out BK352.out (by decide))); have n1_ := Aside0.mk (hp_); have n2_ := Aside0.mk (Kd.R_over' (v := (.slice (some ⟨go8, 0, none⟩) y353.length co8)) (by (with_reducible repeat (first | apply Kd.R_alloc | apply Kd.R_drewN | apply Kd.R_drew)); exact HO358.out) (Kd.R_typed HO355.out) (by decide) hg); have n3_ := Aside0.mk ((by rw [hw]; exact below_set (HB.out) GB8.out : Below w.heap.size w w16)); clear BK352; clear HO355; clear HO358; clear HB; have BK352 := n0_; have HO355 := n1_; have HO358 := n2_; have HB := n3_; clear n0_ n1_ n2_ n3_; clear hg hw hp_) | ((with_reducible refine gate_dst (N := 21) rfl ?_); refine Kd.R_lit (Kd.int .i64) _ 3 ?hg (N := 21) ?hd (xs := ([] : List Int)) (inner := []) (ok := fun _ => True) (okp := fun _ => True) ?hr ?hp (fun _ hk => hk) trivial (Below.refl _ _) (Nat.le_refl _) (by simp) ?_; (case hd => rfl); (case hg => rfl); (case hr => first | (go_simp; done) | (go_simp; rfl)); (case hp => exact (Reps.none _ _)); intro v361 w17 ho18 hb hg_ hnew_; clear hg_ hnew_; (first | rw [← Ny360.out] at ho18 | (simp only [Int.reduceToNat] at ho18; rw [← Ny360.out] at ho18)); have n0_ := Aside0.mk (Kd.R_below (by (with_reducible repeat (first | apply Kd.R_alloc | apply Kd.R_drewN | apply Kd.R_drew)); exact HO355.out) hb); have n1_ := Aside0.mk (Kd.R_elder' (by (with_reducible repeat (first | apply Kd.R_alloc | apply Kd.R_drewN | apply Kd.R_drew)); exact HO358.out) (Kd.R_base ho18) hb); have n2_ := Aside0.mk (Kd.R_lower (Kd.R_new' ho18 (Kd.R_lt (by (with_reducible repeat (first | apply Kd.R_alloc | apply Kd.R_drewN | apply Kd.R_drew)); exact HO358.out))) (below_size (by repeat (first | (with_reducible first | exact HB.out | apply below_alloc | apply pw_below_drewN | apply below_drew1 | refine below_set ?_ GE352.out) | exact HB.out)))); have n3_ := Aside0.mk (blk_below (g := gb352) (o := .cells #[.string a0_0, .slice A0_1 l0_1.length c0_1, .string a0_2, .slice A0_3 l0_3.length c0_3, .slice A0_4 l0_4.length c0_4, .slice A0_5 l0_5.length c0_5] 26 (0, 0)) (by (with_reducible repeat (first | refine blk_drewN ?_ _ | refine blk_drew ?_ | refine blk_alloc ?_ _)); exact BK352.out) hb); have n4_ := Aside0.mk (below_step (by repeat (first | (with_reducible first | exact HB.out | apply below_alloc | apply pw_below_drewN | apply below_drew1 | refine below_set ?_ GE352.out) | exact HB.out)) hb); clear HO355; clear HO358; clear BK352; clear HB; have HO355 := n0_; have HO358 := n1_; have HO362 := n2_; have BK352 := n3_; have HB := n4_; clear n0_ n1_ n2_ n3_ n4_; clear hb ho18))
     go_loopg [4, 5] k (fun kq v4 v5 w' => ∃ (x3_1 : List Bool) (x4_1 : List Int) (x5_1 : List Int), Aside0 (truantref09_Order.l0 kq x3_1 x4_1 x5_1 a0_0 l0_1 a0_2 l0_3 l0_4 l0_5 = some r) ∧ Aside0 (kq ≤ k) ∧ Aside0 (Kd.R Kd.bool 4 w' w.heap.size (fun _ => True) (.slice (some ⟨go8, 0, none⟩) y353.length co8) x3_1) ∧ Aside0 (Kd.R (Kd.int .i64) 3 w' w.heap.size (fun k_ => some k_ ≠ (v5 : Value).ownBlock) v4 x4_1) ∧ Aside0 (Kd.R (Kd.int .i64) 3 w' w.heap.size (fun k_ => some k_ ≠ (v4 : Value).ownBlock) v5 x5_1) ∧ Aside0 (w'.heap[gb352]? = some (.cells #[.string a0_0, (.slice A0_1 l0_1.length c0_1), .string a0_2, (.slice A0_3 l0_3.length c0_3), (.slice A0_4 l0_4.length c0_4), (.slice A0_5 l0_5.length c0_5)] 26 (0, 0))) ∧ Aside0 (Below w.heap.size w w'))
     case atStart => exact ⟨(y359), (y356), (y360), H', ⟨Nat.le_refl _⟩, ⟨by (with_reducible repeat (first | apply Kd.R_alloc | apply Kd.R_drewN | apply Kd.R_drew)); exact HO355.out⟩, ⟨by (with_reducible repeat (first | apply Kd.R_alloc | apply Kd.R_drewN | apply Kd.R_drew)); exact Kd.R_mono HO358.out (fun _ hk => hk.2)⟩, ⟨by (with_reducible repeat (first | apply Kd.R_alloc | apply Kd.R_drewN | apply Kd.R_drew)); exact Kd.R_mono HO362.out (fun _ hk => hk.2)⟩, ⟨by (with_reducible repeat (first | refine blk_drewN ?_ _ | refine blk_drew ?_ | refine blk_alloc ?_ _)); exact BK352.out⟩, ⟨by repeat (first | (with_reducible first | exact HB.out | apply below_alloc | apply pw_below_drewN | apply below_drew1 | refine below_set ?_ GE352.out) | exact HB.out)⟩⟩
     case round =>
      clear H'
      try clear c2
      try clear c2b0
      try clear c2b1
      try clear c2b2
      try clear p2
      try clear c5
      try clear c5b0
      try clear c5b1
      try clear c6
      try clear c6b0
      try clear c6b1
      try clear c7
      try clear c7b0
      try clear c7b1
      try clear p8
      try clear q8
      try clear hx8
      try clear qi8
      try clear hf8
      try clear hcz10_0
      try clear hcz10_1
      try clear hcz10_2
      try clear hcz10_3
      try clear hcz10_4
      try clear hcz10_5
      try clear hcz4_0
      try clear hcz4_1
      try clear hcz4_2
      try clear hcz4_3
      try clear hcz4_4
      try clear hcz4_5
      try clear hfz10_0
      try clear hfz10_1
      try clear hfz10_2
      try clear hfz10_3
      try clear hfz10_4
      try clear hfz10_5
      try clear hfz4_0
      try clear hfz4_1
      try clear hfz4_2
      try clear hfz4_3
      try clear hfz4_4
      try clear hfz4_5
      try clear hx8_0
      try clear p8
      try clear q8
      obtain ⟨x3_1, x4_1, x5_1, HA, HK1, HO_3, HO_4, HO_5, BK352, HB⟩ := hrel
      have hl3_1 := (Kd.R_reads' HO_3.out).1
      rw [hl3_1] at HO_3
      (try simp only [hl3_1])
      (try simp only [hl3_1] at BK352)
      (try simp only [hl3_1] at HO_4)
      (try simp only [hl3_1] at HO_5)
      cases gk with
      | zero => exact absurd HA.out (by simp [truantref09_Order.l0])
      | succ k1 =>
       have H := HA.out
       clear HA
       simp only [truantref09_Order.l0] at H
       by_cases c19 : (x4_1.length : Int) > 0
       ·rw [if_pos c19] at H
        have c19b0 : decide (0 < (x4_1.length : Int)) = true := decide_eq_true c19
        have c19b1 : decide (0 < x4_1.length) = true := decide_eq_true (by omega)
        clear c19
        obtain ⟨ji20, hji20⟩ : ∃ j_ : Int, (wrap64 ((x4_1.length : Int) - 1)) = j_ := ⟨_, rfl⟩
        replace H : (if 0 ≤ (ji20) then (if (ji20) < (x4_1.length : Int) then ((truantref09_Next.f k1 a0_0 l0_1 a0_2 l0_3 l0_4 l0_5 (rd x4_1 (ji20))).bind fun t364 => (truantref09_Order.l1 k1 x3_1 x4_1 x5_1 (rd x4_1 (ji20)) t364 (-1) (wrap64 ((t364.length : Int) - 1)) a0_0 l0_1 a0_2 l0_3 l0_4 l0_5)) else (none)) else (none)) = some r := by first | (rw [hji20] at H; exact H) | (simp only [hji20] at H ⊢; exact H)
        have hji20w : (IntKind.i64.wrap ((x4_1.length : Int) - 1)) = ji20 := (i64_w _).trans hji20
        by_cases c21 : 0 ≤ (ji20)
        ·rw [if_pos c21] at H
         have c21b0 : decide (0 ≤ (ji20)) = true := decide_eq_true c21
         clear c21
         by_cases c22 : (ji20) < (x4_1.length : Int)
         ·rw [if_pos c22] at H
          have c22b0 : decide ((ji20) < (x4_1.length : Int)) = true := decide_eq_true c22
          clear c22
          replace H := Option.bind_eq_some_iff.mp H
          obtain ⟨t364, A230, H⟩ := H
          replace H : (truantref09_Order.l1 k1 x3_1 x4_1 x5_1 (rd x4_1 (ji20)) t364 (-1) (wrap64 ((t364.length : Int) - 1)) a0_0 l0_1 a0_2 l0_3 l0_4 l0_5) = some r := H
          have A23 := Aside0.mk A230
          clear A230
          have H' := Aside0.mk H
          clear H
          obtain ⟨Ao24, co24, eo24⟩ := Kd.R_slice HO_4.out
          subst eo24
          have p363 : 0 ≤ ((ji20) : Int) := of_decide_eq_true (by first | (with_reducible assumption) | assumption)
          have q363 : (ji20) < (x4_1.length : Int) := of_decide_eq_true (by first | (with_reducible assumption) | assumption)
          obtain ⟨ad363, e363, hx363_0⟩ := Kd.at_int (Kd.R_reads' HO_4.out).2.2 (ji20) p363 q363
          cases e363
          replace p363 := eq_true p363
          replace q363 := eq_true q363
          have hcz25_0 : wr.cell? ⟨gb352, 0, none⟩ = some (.string a0_0) := (blk_cell BK352.out 0).trans rfl
          have hcz25_1 : wr.cell? ⟨gb352, 1, none⟩ = some (.slice A0_1 l0_1.length c0_1) := (blk_cell BK352.out 1).trans rfl
          have hcz25_2 : wr.cell? ⟨gb352, 2, none⟩ = some (.string a0_2) := (blk_cell BK352.out 2).trans rfl
          have hcz25_3 : wr.cell? ⟨gb352, 3, none⟩ = some (.slice A0_3 l0_3.length c0_3) := (blk_cell BK352.out 3).trans rfl
          have hcz25_4 : wr.cell? ⟨gb352, 4, none⟩ = some (.slice A0_4 l0_4.length c0_4) := (blk_cell BK352.out 4).trans rfl
          have hcz25_5 : wr.cell? ⟨gb352, 5, none⟩ = some (.slice A0_5 l0_5.length c0_5) := (blk_cell BK352.out 5).trans rfl
          have hfz25_0 := blk_frozen BK352.out 0
          have hfz25_1 := blk_frozen BK352.out 1
          have hfz25_2 := blk_frozen BK352.out 2
          have hfz25_3 := blk_frozen BK352.out 3
          have hfz25_4 := blk_frozen BK352.out 4
          have hfz25_5 := blk_frozen BK352.out 5
          go_wp2_with (first | ((with_reducible refine gate_callee (f := 21) rfl ?_); refine goesL_ (some 33) rfl rfl Try.func21 (by kernel_rfl) rfl #[.agg #[.string a0_0, .slice A0_1 l0_1.length c0_1, .string a0_2, .slice A0_3 l0_3.length c0_3, .slice A0_4 l0_4.length c0_4, .slice A0_5 l0_5.length c0_5], .int .i64 (rd x4_1 (ji20))] rfl (by (try simp only [List.map_toArray, List.map_cons, List.map_nil]); first | done | (simp only [hji20]; rfl) | rfl | (simp only [List.length_drop, List.length_take]; rfl)) ?_; (with_reducible refine (truantref09_Next.calls k1 a0_0 _ _ l0_1 a0_2 _ _ l0_3 _ _ l0_4 _ _ l0_5 (rd x4_1 (ji20)) t364 _ ?side1 ?side2 ?side3 ?side4 ?side5 ?side6 ?side7 ?side8 A23.out).mono ?_); (case side1 => repeat (first | exact (Kd.C_below HR0_1.out HB.out) | (with_reducible refine Kd.C_alloc ?_ _) | (with_reducible refine Kd.C_drewN ?_ _) | (with_reducible refine Kd.C_drew ?_))); (case side2 => exact HC0_1.out); (case side3 => repeat (first | exact (Kd.C_below HR0_3.out HB.out) | (with_reducible refine Kd.C_alloc ?_ _) | (with_reducible refine Kd.C_drewN ?_ _) | (with_reducible refine Kd.C_drew ?_))); (case side4 => exact HC0_3.out); (case side5 => repeat (first | exact (Kd.C_below HR0_4.out HB.out) | (with_reducible refine Kd.C_alloc ?_ _) | (with_reducible refine Kd.C_drewN ?_ _) | (with_reducible refine Kd.C_drew ?_))); (case side6 => exact HC0_4.out); (case side7 => repeat (first | exact (Kd.C_below HR0_5.out HB.out) | (with_reducible refine Kd.C_alloc ?_ _) | (with_reducible refine Kd.C_drewN ?_ _) | (with_reducible refine Kd.C_drew ?_))); (case side8 => exact HC0_5.out); rintro e w26 ⟨v365, rfl, ho0, hb⟩; refine ⟨_, rfl, ?_⟩; have n0_ := Aside0.mk (Kd.R_below (by (with_reducible repeat (first | apply Kd.R_alloc | apply Kd.R_drewN | apply Kd.R_drew)); exact HO_3.out) hb); have n1_ := Aside0.mk (Kd.R_elder' (by (with_reducible repeat (first | apply Kd.R_alloc | apply Kd.R_drewN | apply Kd.R_drew)); exact HO_4.out) (Kd.R_base ho0) hb); have n2_ := Aside0.mk (Kd.R_elder' (by (with_reducible repeat (first | apply Kd.R_alloc | apply Kd.R_drewN | apply Kd.R_drew)); exact HO_5.out) (Kd.R_base ho0) hb); have n3_ := Aside0.mk (Kd.R_lower (Kd.R_new' (Kd.R_new' ho0 (Kd.R_lt (by (with_reducible repeat (first | apply Kd.R_alloc | apply Kd.R_drewN | apply Kd.R_drew)); exact HO_4.out))) (Kd.R_lt (by (with_reducible repeat (first | apply Kd.R_alloc | apply Kd.R_drewN | apply Kd.R_drew)); exact HO_5.out))) (below_size (by repeat (first | (with_reducible first | exact HB.out | apply below_alloc | apply pw_below_drewN | apply below_drew1 | refine below_set ?_ GE352.out) | exact HB.out)))); have n4_ := Aside0.mk (blk_below (g := gb352) (o := .cells #[.string a0_0, .slice A0_1 l0_1.length c0_1, .string a0_2, .slice A0_3 l0_3.length c0_3, .slice A0_4 l0_4.length c0_4, .slice A0_5 l0_5.length c0_5] 26 (0, 0)) (by (with_reducible repeat (first | refine blk_drewN ?_ _ | refine blk_drew ?_ | refine blk_alloc ?_ _)); exact BK352.out) hb); have n5_ := Aside0.mk (below_step (by repeat (first | (with_reducible first | exact HB.out | apply below_alloc | apply pw_below_drewN | apply below_drew1 | refine below_set ?_ GE352.out) | exact HB.out)) hb); clear HO_3; clear HO_4; clear HO_5; clear BK352; clear HB; have HO_3 := n0_; have HO_4 := n1_; have HO_5 := n2_; have HO366 := n3_; have BK352 := n4_; have HB := n5_; clear n0_ n1_ n2_ n3_ n4_ n5_; (try clear hb); (try clear hb2); (try clear hk); (try clear hi); (try clear ho0); obtain ⟨Ao27, co27, eo27⟩ := Kd.R_slice HO366.out; subst eo27))
          go_loopg [8, 9] k1 (fun kq v8 v9 w' => ∃ (x8_2 : Int) (x9_2 : Int), v8 = .int .i64 x8_2 ∧ v9 = .int .i64 x9_2 ∧ Aside0 (truantref09_Order.l1 kq x3_1 x4_1 x5_1 (rd x4_1 (ji20)) t364 x8_2 x9_2 a0_0 l0_1 a0_2 l0_3 l0_4 l0_5 = some r) ∧ Aside0 (kq ≤ k1) ∧ Aside0 (Kd.R Kd.bool 4 w' w.heap.size (fun _ => True) (.slice (some ⟨go8, 0, none⟩) x3_1.length co8) x3_1) ∧ Aside0 (Kd.R (Kd.int .i64) 3 w' w.heap.size (fun k_ => some k_ ≠ (u5 : Value).ownBlock ∧ some k_ ≠ ((.slice Ao27 t364.length co27) : Value).ownBlock) (.slice (some ad363) x4_1.length co24) x4_1) ∧ Aside0 (Kd.R (Kd.int .i64) 3 w' w.heap.size (fun k_ => some k_ ≠ ((.slice (some ad363) x4_1.length co24) : Value).ownBlock ∧ some k_ ≠ ((.slice Ao27 t364.length co27) : Value).ownBlock) u5 x5_1) ∧ Aside0 (Kd.R (Kd.int .i64) 3 w' w.heap.size (fun k_ => some k_ ≠ ((.slice (some ad363) x4_1.length co24) : Value).ownBlock ∧ some k_ ≠ (u5 : Value).ownBlock) (.slice Ao27 t364.length co27) t364) ∧ Aside0 (w'.heap[gb352]? = some (.cells #[.string a0_0, (.slice A0_1 l0_1.length c0_1), .string a0_2, (.slice A0_3 l0_3.length c0_3), (.slice A0_4 l0_4.length c0_4), (.slice A0_5 l0_5.length c0_5)] 26 (0, 0))) ∧ Aside0 (Below w.heap.size w w'))
          case atStart => exact ⟨((-1)), (wrap64 ((t364.length : Int) - 1)), (by first | rfl | (simp; done) | (simp [*]; done)), (by first | rfl | (simp; done) | (simp [*]; done)), H', ⟨Nat.le_refl _⟩, ⟨by (try simp only [hl3_1]); (with_reducible repeat (first | apply Kd.R_alloc | apply Kd.R_drewN | apply Kd.R_drew)); exact HO_3.out⟩, ⟨by (try simp only [hl3_1]); (with_reducible repeat (first | apply Kd.R_alloc | apply Kd.R_drewN | apply Kd.R_drew)); exact HO_4.out⟩, ⟨by (try simp only [hl3_1]); (with_reducible repeat (first | apply Kd.R_alloc | apply Kd.R_drewN | apply Kd.R_drew)); exact HO_5.out⟩, ⟨by (try simp only [hl3_1]); (with_reducible repeat (first | apply Kd.R_alloc | apply Kd.R_drewN | apply Kd.R_drew)); exact Kd.R_mono HO366.out (fun _ hk => ⟨hk.1.2, hk.2⟩)⟩, ⟨by (try simp only [hl3_1]); (with_reducible repeat (first | refine blk_drewN ?_ _ | refine blk_drew ?_ | refine blk_alloc ?_ _)); exact BK352.out⟩, ⟨by repeat (first | (with_reducible first | exact HB.out | apply below_alloc | apply pw_below_drewN | apply below_drew1 | refine below_set ?_ GE352.out) | exact HB.out)⟩⟩
          case round =>
           clear H'
           try clear c1
           try clear c2
           try clear c2b0
           try clear c2b1
           try clear c2b2
           try clear p2
           try clear p3
           try clear q3
           try clear hx3
           try clear c5
           try clear c5b0
           try clear c5b1
           try clear c6
           try clear c6b0
           try clear c6b1
           try clear p6
           try clear c7
           try clear c7b0
           try clear c7b1
           try clear p8
           try clear q8
           try clear hx8
           try clear qi8
           try clear hf8
           try clear c19
           try clear c19b0
           try clear c19b1
           try clear c21
           try clear c21b0
           try clear c22
           try clear c22b0
           try clear c23
           try clear hcz10_0
           try clear hcz10_1
           try clear hcz10_2
           try clear hcz10_3
           try clear hcz10_4
           try clear hcz10_5
           try clear hcz25_0
           try clear hcz25_1
           try clear hcz25_2
           try clear hcz25_3
           try clear hcz25_4
           try clear hcz25_5
           try clear hcz4_0
           try clear hcz4_1
           try clear hcz4_2
           try clear hcz4_3
           try clear hcz4_4
           try clear hcz4_5
           try clear hfz10_0
           try clear hfz10_1
           try clear hfz10_2
           try clear hfz10_3
           try clear hfz10_4
           try clear hfz10_5
           try clear hfz25_0
           try clear hfz25_1
           try clear hfz25_2
           try clear hfz25_3
           try clear hfz25_4
           try clear hfz25_5
           try clear hfz4_0
           try clear hfz4_1
           try clear hfz4_2
           try clear hfz4_3
           try clear hfz4_4
           try clear hfz4_5
           try clear hx363_0
           try clear hx8_0
           try clear p2
           try clear p363
           try clear p8
           try clear q363
           try clear q8
           obtain ⟨x8_2, x9_2, rfl, rfl, HA, HK2, HO_3, HO_4, HO_5, HO_7, BK352, HB⟩ := hrel
           cases gk with
           | zero => exact absurd HA.out (by simp [truantref09_Order.l1])
           | succ k2 =>
            have H := HA.out
            clear HA
            simp only [truantref09_Order.l1] at H
            by_cases c28 : x9_2 ≥ 0
            ·rw [if_pos c28] at H
             have c28b0 : decide (0 ≤ x9_2) = true := decide_eq_true c28
             clear c28
             by_cases c29 : 0 ≤ x9_2
             ·rw [if_pos c29] at H
              have c29b0 : decide (0 ≤ x9_2) = true := decide_eq_true c29
              clear c29
              by_cases c30 : x9_2 < (t364.length : Int)
              ·rw [if_pos c30] at H
               have c30b0 : decide (x9_2 < (t364.length : Int)) = true := decide_eq_true c30
               clear c30
               by_cases c31 : 0 ≤ (rd t364 x9_2)
               ·rw [if_pos c31] at H
                have c31b0 : decide (0 ≤ (rd t364 x9_2)) = true := decide_eq_true c31
                clear c31
                by_cases c32 : (rd t364 x9_2) < (x3_1.length : Int)
                ·rw [if_pos c32] at H
                 have c32b0 : decide ((rd t364 x9_2) < (x3_1.length : Int)) = true := decide_eq_true c32
                 clear c32
                 obtain ⟨bq33, hbq33⟩ : ∃ b_ : Bool, b_ = (rdOf false x3_1 (rd t364 x9_2)) := ⟨_, rfl⟩
                 replace H : (if (bq33 = true) then (truantref09_Order.l1 k2 x3_1 x4_1 x5_1 (rd x4_1 (ji20)) t364 x8_2 (wrap64 (x9_2 - 1)) a0_0 l0_1 a0_2 l0_3 l0_4 l0_5) else (truantref09_Order.l1 k2 x3_1 x4_1 x5_1 (rd x4_1 (ji20)) t364 (rd t364 x9_2) (wrap64 (x9_2 - 1)) a0_0 l0_1 a0_2 l0_3 l0_4 l0_5)) = some r := by rw [← hbq33] at H; exact H
                 have Nbq33 := Aside0.mk hbq33
                 clear hbq33
                 by_cases c34 : (bq33 = true)
                 ·subst c34
                  have H1 : (truantref09_Order.l1 k2 x3_1 x4_1 x5_1 (rd x4_1 (ji20)) t364 x8_2 (wrap64 (x9_2 - 1)) a0_0 l0_1 a0_2 l0_3 l0_4 l0_5) = some r := by rw [if_pos rfl] at H; exact H
                  clear H
                  have H := H1
                  clear H1
                  have H' := Aside0.mk H
                  clear H
                  have p367 : 0 ≤ (x9_2 : Int) := of_decide_eq_true (by first | (with_reducible assumption) | assumption)
                  have q367 : x9_2 < (t364.length : Int) := of_decide_eq_true (by first | (with_reducible assumption) | assumption)
                  obtain ⟨ad367, e367, hx367_0⟩ := Kd.at_int (Kd.R_reads' HO_7.out).2.2 x9_2 p367 q367
                  cases e367
                  replace p367 := eq_true p367
                  replace q367 := eq_true q367
                  have p368 : 0 ≤ ((rd t364 x9_2) : Int) := of_decide_eq_true (by first | (with_reducible assumption) | assumption)
                  have q368 : (rd t364 x9_2) < (x3_1.length : Int) := of_decide_eq_true (by first | (with_reducible assumption) | assumption)
                  obtain ⟨ad368, e368, hx368_0⟩ := Kd.at_bool (Kd.R_reads' HO_3.out).2.2 (rd t364 x9_2) p368 q368
                  (try rw [← Nbq33.out] at hx368_0)
                  obtain rfl : (⟨go8, 0, none⟩ : Addr) = ad368 := (by injection e368)
                  (first | simp only [add_plain] at hx368_0 | simp only [add_at] at hx368_0 | simp only [Addr.add, Nat.zero_add] at hx368_0 | skip)
                  replace p368 := eq_true p368
                  replace q368 := eq_true q368
                  go_wp2
                  go_roundg k2
                  case measure => have := HK1.out; have := HK2.out; omega
                  case rel => exact ⟨(x8_2), (wrap64 (x9_2 - 1)), (by first | rfl | (simp; done) | (simp [*]; done)), (by first | rfl | (simp; done) | (simp [*]; done)), H', ⟨by have := HK1.out; have := HK2.out; omega⟩, ⟨by (try simp only [hl3_1]); (with_reducible repeat (first | apply Kd.R_alloc | apply Kd.R_drewN | apply Kd.R_drew)); exact HO_3.out⟩, ⟨by (try simp only [hl3_1]); (with_reducible repeat (first | apply Kd.R_alloc | apply Kd.R_drewN | apply Kd.R_drew)); exact HO_4.out⟩, ⟨by (try simp only [hl3_1]); (with_reducible repeat (first | apply Kd.R_alloc | apply Kd.R_drewN | apply Kd.R_drew)); exact HO_5.out⟩, ⟨by (try simp only [hl3_1]); (with_reducible repeat (first | apply Kd.R_alloc | apply Kd.R_drewN | apply Kd.R_drew)); exact HO_7.out⟩, ⟨by (try simp only [hl3_1]); (with_reducible repeat (first | refine blk_drewN ?_ _ | refine blk_drew ?_ | refine blk_alloc ?_ _)); exact BK352.out⟩, ⟨by repeat (first | (with_reducible first | exact HB.out | apply below_alloc | apply pw_below_drewN | apply below_drew1 | refine below_set ?_ GE352.out) | exact HB.out)⟩⟩
                 ·replace c34 := Bool.eq_false_iff.mpr c34
                  subst c34
                  have H1 : (truantref09_Order.l1 k2 x3_1 x4_1 x5_1 (rd x4_1 (ji20)) t364 (rd t364 x9_2) (wrap64 (x9_2 - 1)) a0_0 l0_1 a0_2 l0_3 l0_4 l0_5) = some r := by rw [if_neg (show ¬ (false = true) by decide)] at H; exact H
                  clear H
                  have H := H1
                  clear H1
                  have H' := Aside0.mk H
                  clear H
                  have p367 : 0 ≤ (x9_2 : Int) := of_decide_eq_true (by first | (with_reducible assumption) | assumption)
                  have q367 : x9_2 < (t364.length : Int) := of_decide_eq_true (by first | (with_reducible assumption) | assumption)
                  obtain ⟨ad367, e367, hx367_0⟩ := Kd.at_int (Kd.R_reads' HO_7.out).2.2 x9_2 p367 q367
                  cases e367
                  replace p367 := eq_true p367
                  replace q367 := eq_true q367
                  have p368 : 0 ≤ ((rd t364 x9_2) : Int) := of_decide_eq_true (by first | (with_reducible assumption) | assumption)
                  have q368 : (rd t364 x9_2) < (x3_1.length : Int) := of_decide_eq_true (by first | (with_reducible assumption) | assumption)
                  obtain ⟨ad368, e368, hx368_0⟩ := Kd.at_bool (Kd.R_reads' HO_3.out).2.2 (rd t364 x9_2) p368 q368
                  (try rw [← Nbq33.out] at hx368_0)
                  obtain rfl : (⟨go8, 0, none⟩ : Addr) = ad368 := (by injection e368)
                  (first | simp only [add_plain] at hx368_0 | simp only [add_at] at hx368_0 | simp only [Addr.add, Nat.zero_add] at hx368_0 | skip)
                  replace p368 := eq_true p368
                  replace q368 := eq_true q368
                  have p369 : 0 ≤ (x9_2 : Int) := of_decide_eq_true (by first | (with_reducible assumption) | assumption)
                  have q369 : x9_2 < (t364.length : Int) := of_decide_eq_true (by first | (with_reducible assumption) | assumption)
                  obtain ⟨ad369, e369, hx369_0⟩ := Kd.at_int (Kd.R_reads' HO_7.out).2.2 x9_2 p369 q369
                  obtain rfl : ad367 = ad369 := (by injection e369)
                  replace p369 := eq_true p369
                  replace q369 := eq_true q369
                  go_wp2
                  go_roundg k2
                  case measure => have := HK1.out; have := HK2.out; omega
                  case rel => exact ⟨(rd t364 x9_2), (wrap64 (x9_2 - 1)), (by first | rfl | (simp; done) | (simp [*]; done)), (by first | rfl | (simp; done) | (simp [*]; done)), H', ⟨by have := HK1.out; have := HK2.out; omega⟩, ⟨by (try simp only [hl3_1]); (with_reducible repeat (first | apply Kd.R_alloc | apply Kd.R_drewN | apply Kd.R_drew)); exact HO_3.out⟩, ⟨by (try simp only [hl3_1]); (with_reducible repeat (first | apply Kd.R_alloc | apply Kd.R_drewN | apply Kd.R_drew)); exact HO_4.out⟩, ⟨by (try simp only [hl3_1]); (with_reducible repeat (first | apply Kd.R_alloc | apply Kd.R_drewN | apply Kd.R_drew)); exact HO_5.out⟩, ⟨by (try simp only [hl3_1]); (with_reducible repeat (first | apply Kd.R_alloc | apply Kd.R_drewN | apply Kd.R_drew)); exact HO_7.out⟩, ⟨by (try simp only [hl3_1]); (with_reducible repeat (first | refine blk_drewN ?_ _ | refine blk_drew ?_ | refine blk_alloc ?_ _)); exact BK352.out⟩, ⟨by repeat (first | (with_reducible first | exact HB.out | apply below_alloc | apply pw_below_drewN | apply below_drew1 | refine below_set ?_ GE352.out) | exact HB.out)⟩⟩
                ·rw [if_neg c32] at H
                 exact absurd H (by simp)
               ·rw [if_neg c31] at H
                exact absurd H (by simp)
              ·rw [if_neg c30] at H
               exact absurd H (by simp)
             ·rw [if_neg c29] at H
              exact absurd H (by simp)
            ·rw [if_neg c28] at H
             have c28b0 : decide (0 ≤ x9_2) = false := decide_eq_false c28
             clear c28
             by_cases c35 : x8_2 ≥ 0
             ·rw [if_pos c35] at H
              have c35b0 : decide (0 ≤ x8_2) = true := decide_eq_true c35
              clear c35
              by_cases c36 : 0 ≤ x8_2
              ·rw [if_pos c36] at H
               have c36b0 : decide (0 ≤ x8_2) = true := decide_eq_true c36
               clear c36
               by_cases c37 : x8_2 < (x3_1.length : Int)
               ·rw [if_pos c37] at H
                have c37b0 : decide (x8_2 < (x3_1.length : Int)) = true := decide_eq_true c37
                clear c37
                obtain ⟨y370, hy370⟩ : ∃ y_ : List Bool, y_ = (x3_1.set (x8_2 : Int).toNat true) := ⟨_, rfl⟩
                replace H : (if x4_1.length < 17592186044416 then (truantref09_Order.l0 k2 y370 (x4_1 ++ [x8_2]) x5_1 a0_0 l0_1 a0_2 l0_3 l0_4 l0_5) else (none)) = some r := by first | (rw [hy370]; with_reducible exact H) | (have H2_ := (Option.bind_some _ _).symm.trans H; rw [hy370]; with_reducible exact H2_) | (have H2_ := (Option.bind_some _ _).symm.trans H; with_reducible exact H2_) | with_reducible exact H | (rw [hy370]; exact H) | exact H
                have Ny370 := Aside0.mk hy370
                clear hy370
                by_cases c39 : x4_1.length < 17592186044416
                ·rw [if_pos c39] at H
                 have LMc39 := Aside0.mk c39
                 clear c39
                 obtain ⟨y371, hy371⟩ : ∃ y_ : List Int, y_ = (x4_1 ++ [x8_2]) := ⟨_, rfl⟩
                 replace H : (truantref09_Order.l0 k2 y370 y371 x5_1 a0_0 l0_1 a0_2 l0_3 l0_4 l0_5) = some r := by first | (rw [hy371]; with_reducible exact H) | (have H2_ := (Option.bind_some _ _).symm.trans H; rw [hy371]; with_reducible exact H2_) | (have H2_ := (Option.bind_some _ _).symm.trans H; with_reducible exact H2_) | with_reducible exact H | (rw [hy371]; exact H) | exact H
                 have Ny371 := Aside0.mk hy371
                 clear hy371
                 have H' := Aside0.mk H
                 clear H
                 have p38 : 0 ≤ (x8_2 : Int) := of_decide_eq_true (by first | (with_reducible assumption) | assumption)
                 have q38 : (x8_2 : Int) < ((x3_1.length : Int) : Int) := of_decide_eq_true (by first | (with_reducible assumption) | assumption)
                 obtain ⟨hx38_0, hf38_0⟩ := Kd.R_celln false HO_3.out (x8_2 : Int) p38 q38
                 replace p38 := eq_true p38
                 replace q38 := eq_true q38
                 have HP40 := Kd.R_putg HO_3.out (x8_2 : Int) true
                 go_wp2_with (first | ((with_reducible refine gate_store (t := 4) (p := 57) rfl ?_); refine store_event (t := 4) (p := 57) (v := ?vo_w41) (w1 := (wr.setCell ⟨go8, (x8_2 : Int).toNat, none⟩ (.bool true))) ?hg ?ho ?hn ?hr ?_; (case ho => rfl); (case hg => rfl); (case hn => rfl); (case hr => first | (go_simp; done) | (go_simp; rfl)); intro w41 hw; have hg : wr.grownBy w41 (some go8) := (by rw [hw]; exact HP40.2); have hp_ : Kd.R Kd.bool 4 w41 w.heap.size (fun _ => True) (.slice (some ⟨go8, 0, none⟩) x3_1.length co8) y370 := (by rw [hw, Ny370.out]; exact HP40.1); clear HP40; have n0_ := Aside0.mk (hp_); have n1_ := Aside0.mk (Kd.R_over' (v := (.slice (some ⟨go8, 0, none⟩) x3_1.length co8)) (by (with_reducible repeat (first | apply Kd.R_alloc | apply Kd.R_drewN | apply Kd.R_drew)); exact HO_4.out) (Kd.R_typed HO_3.out) (by decide) hg); have n2_ := Aside0.mk (Kd.R_over' (v := (.slice (some ⟨go8, 0, none⟩) x3_1.length co8)) (by (with_reducible repeat (first | apply Kd.R_alloc | apply Kd.R_drewN | apply Kd.R_drew)); exact HO_5.out) (Kd.R_typed HO_3.out) (by decide) hg); have n3_ := Aside0.mk (Kd.R_over' (v := (.slice (some ⟨go8, 0, none⟩) x3_1.length co8)) (by (with_reducible repeat (first | apply Kd.R_alloc | apply Kd.R_drewN | apply Kd.R_drew)); exact HO_7.out) (Kd.R_typed HO_3.out) (by decide) hg); have n4_ := Aside0.mk (blk_grown (g := gb352) (o := .cells #[.string a0_0, .slice A0_1 l0_1.length c0_1, .string a0_2, .slice A0_3 l0_3.length c0_3, .slice A0_4 l0_4.length c0_4, .slice A0_5 l0_5.length c0_5] 26 (0, 0)) (by (with_reducible repeat (first | refine blk_drewN ?_ _ | refine blk_drew ?_ | refine blk_alloc ?_ _)); exact BK352.out) hg (Kd.R_ne HO_3.out BK352.out (by decide))); have n5_ := Aside0.mk ((by rw [hw]; exact below_set (HB.out) GB8.out : Below w.heap.size w w41)); clear HO_3; clear HO_4; clear HO_5; clear HO_7; clear BK352; clear HB; have HO_3 := n0_; have HO_4 := n1_; have HO_5 := n2_; have HO_7 := n3_; have BK352 := n4_; have HB := n5_; clear n0_ n1_ n2_ n3_ n4_ n5_; clear hg hw hp_) | ((with_reducible refine gate_builtin (b := .append) (xs := #[.tmp 58, .tmp 60]) rfl ?_); at_builtin; refine Kd.R_append (Kd.int .i64) (w0 := w) w.heap.size rfl (.tmp 58) (.tmp 60) 34 3 (.int .i64 0) 8 rfl Try.underlying34 info3 rfl (by decide) (by omega) (.slice (some ad363) x4_1.length co24) x4_1 x8_2 [.int .i64 x8_2] (fun k_ => some k_ ≠ (u5 : Value).ownBlock ∧ some k_ ≠ (.slice Ao27 t364.length co27 : Value).ownBlock) (fun _ => False) rfl rfl ?aP (fun _ hk => hk.elim) ?aF ?aO ?aB ?aS ?aL ?_; (case aP => exact rfl); (case aB => exact (by repeat (first | (with_reducible first | exact HB.out | apply below_alloc | apply pw_below_drewN | apply below_drew1 | refine below_set ?_ GE352.out) | exact HB.out))); (case aF => exact (fun k_ hk => ⟨Kd.fresh' (Kd.R_lt (by (with_reducible repeat (first | apply Kd.R_alloc | apply Kd.R_drewN | apply Kd.R_drew)); exact HO_5.out)) k_ hk, Kd.fresh' (Kd.R_lt (by (with_reducible repeat (first | apply Kd.R_alloc | apply Kd.R_drewN | apply Kd.R_drew)); exact HO_7.out)) k_ hk⟩)); (case aO => exact (by (with_reducible repeat (first | apply Kd.R_alloc | apply Kd.R_drewN | apply Kd.R_drew)); exact HO_4.out)); (case aS => exact (below_size (by repeat (first | (with_reducible first | exact HB.out | apply below_alloc | apply pw_below_drewN | apply below_drew1 | refine below_set ?_ GE352.out) | exact HB.out)))); (case aL => have := LMc39.out; omega); intro v372 w42 ho hb hg hat; rw [← Ny371.out] at ho; have n0_ := Aside0.mk (Kd.R_over' (by (with_reducible repeat (first | apply Kd.R_alloc | apply Kd.R_drewN | apply Kd.R_drew)); exact HO_3.out) (Kd.R_typed (by (with_reducible repeat (first | apply Kd.R_alloc | apply Kd.R_drewN | apply Kd.R_drew)); exact HO_4.out)) (by decide) hg); have n1_ := Aside0.mk (Kd.R_after (ok := (fun k_ => some k_ ≠ (.slice Ao27 t364.length co27 : Value).ownBlock)) (by (with_reducible repeat (first | apply Kd.R_alloc | apply Kd.R_drewN | apply Kd.R_drew)); exact Kd.R_mono HO_5.out (fun _ hk => ⟨hk.2, hk.1⟩)) hg hat); have n2_ := Aside0.mk (Kd.R_after (ok := (fun k_ => some k_ ≠ (u5 : Value).ownBlock)) (by (with_reducible repeat (first | apply Kd.R_alloc | apply Kd.R_drewN | apply Kd.R_drew)); exact Kd.R_mono HO_7.out (fun _ hk => ⟨hk.2, hk.1⟩)) hg hat); have n3_ := Aside0.mk (blk_grown (g := gb352) (o := .cells #[.string a0_0, .slice A0_1 l0_1.length c0_1, .string a0_2, .slice A0_3 l0_3.length c0_3, .slice A0_4 l0_4.length c0_4, .slice A0_5 l0_5.length c0_5] 26 (0, 0)) (by (with_reducible repeat (first | refine blk_drewN ?_ _ | refine blk_drew ?_ | refine blk_alloc ?_ _)); exact BK352.out) hg (Kd.R_ne HO_4.out BK352.out (by decide))); have n4_ := Aside0.mk (hb); have n5_ := Aside0.mk (ho); clear HO_3; clear HO_5; clear HO_7; clear BK352; clear HB; clear HO_4; have HO_3 := n0_; have HO_5 := n1_; have HO_7 := n2_; have BK352 := n3_; have HB := n4_; have HO373 := n5_; clear n0_ n1_ n2_ n3_ n4_ n5_; clear ho hb hg hat))
                 (try simp only [← hl3_1])
                 go_roundg k2
                 case measure => have := HK1.out; have := HK2.out; omega
                 case rel => exact ⟨(y370), (y371), (x5_1), H', ⟨by have := HK1.out; have := HK2.out; omega⟩, ⟨by (try simp only [hl3_1]); (with_reducible repeat (first | apply Kd.R_alloc | apply Kd.R_drewN | apply Kd.R_drew)); exact HO_3.out⟩, ⟨by (try simp only [hl3_1]); (with_reducible repeat (first | apply Kd.R_alloc | apply Kd.R_drewN | apply Kd.R_drew)); exact Kd.R_mono HO373.out (fun _ hk => hk.1)⟩, ⟨by (try simp only [hl3_1]); (with_reducible repeat (first | apply Kd.R_alloc | apply Kd.R_drewN | apply Kd.R_drew)); exact Kd.R_mono HO_5.out (fun _ hk => hk.2)⟩, ⟨by (try simp only [hl3_1]); (with_reducible repeat (first | refine blk_drewN ?_ _ | refine blk_drew ?_ | refine blk_alloc ?_ _)); exact BK352.out⟩, ⟨by repeat (first | (with_reducible first | exact HB.out | apply below_alloc | apply pw_below_drewN | apply below_drew1 | refine below_set ?_ GE352.out) | exact HB.out)⟩⟩
                ·rw [if_neg c39] at H
                 exact absurd H (by simp)
               ·rw [if_neg c37] at H
                exact absurd H (by simp)
              ·rw [if_neg c36] at H
               exact absurd H (by simp)
             ·rw [if_neg c35] at H
              have c35b0 : decide (0 ≤ x8_2) = false := decide_eq_false c35
              clear c35
              obtain ⟨y374, hy374⟩ : ∃ y_ : List Int, y_ = (([(rd x4_1 (ji20))] : List Int)) := ⟨_, rfl⟩
              replace H : (if y374.length + x5_1.length < 17592186044416 then (if 0 ≤ (wrap64 ((x4_1.length : Int) - 1)) then (if (wrap64 ((x4_1.length : Int) - 1)) ≤ (x4_1.length : Int) then (truantref09_Order.l0 k2 x3_1 (x4_1.take ((wrap64 ((x4_1.length : Int) - 1)) : Int).toNat) (y374 ++ x5_1) a0_0 l0_1 a0_2 l0_3 l0_4 l0_5) else (none)) else (none)) else (none)) = some r := by first | (rw [hy374]; with_reducible exact H) | (have H2_ := (Option.bind_some _ _).symm.trans H; rw [hy374]; with_reducible exact H2_) | (have H2_ := (Option.bind_some _ _).symm.trans H; with_reducible exact H2_) | with_reducible exact H | (rw [hy374]; exact H) | exact H
              have Ny374 := Aside0.mk hy374
              clear hy374
              by_cases c43 : y374.length + x5_1.length < 17592186044416
              ·rw [if_pos c43] at H
               have LMc43 := Aside0.mk c43
               clear c43
               obtain ⟨y377, hy377⟩ : ∃ y_ : List Int, y_ = (y374 ++ x5_1) := ⟨_, rfl⟩
               replace H : (if 0 ≤ (wrap64 ((x4_1.length : Int) - 1)) then (if (wrap64 ((x4_1.length : Int) - 1)) ≤ (x4_1.length : Int) then (truantref09_Order.l0 k2 x3_1 (x4_1.take ((wrap64 ((x4_1.length : Int) - 1)) : Int).toNat) y377 a0_0 l0_1 a0_2 l0_3 l0_4 l0_5) else (none)) else (none)) = some r := by first | (rw [hy377]; with_reducible exact H) | (have H2_ := (Option.bind_some _ _).symm.trans H; rw [hy377]; with_reducible exact H2_) | (have H2_ := (Option.bind_some _ _).symm.trans H; with_reducible exact H2_) | with_reducible exact H | (rw [hy377]; exact H) | exact H
               have Ny377 := Aside0.mk hy377
               clear hy377
               obtain ⟨ji44, hji44⟩ : ∃ j_ : Int, (wrap64 ((x4_1.length : Int) - 1)) = j_ := ⟨_, rfl⟩
               replace H : (if 0 ≤ (ji44) then (if (ji44) ≤ (x4_1.length : Int) then (truantref09_Order.l0 k2 x3_1 (x4_1.take ((ji44) : Int).toNat) y377 a0_0 l0_1 a0_2 l0_3 l0_4 l0_5) else (none)) else (none)) = some r := by first | (rw [hji44] at H; exact H) | (simp only [hji44] at H ⊢; exact H)
               have hji44w : (IntKind.i64.wrap ((x4_1.length : Int) - 1)) = ji44 := (i64_w _).trans hji44
               by_cases c45 : 0 ≤ (ji44)
               ·rw [if_pos c45] at H
                have c45b0 := eq_true c45
                have c45b1 : decide (0 ≤ (ji44)) = true := decide_eq_true c45
                clear c45
                by_cases c46 : (ji44) ≤ (x4_1.length : Int)
                ·rw [if_pos c46] at H
                 have c46b0 := eq_true c46
                 have c46b1 : decide ((ji44) ≤ (x4_1.length : Int)) = true := decide_eq_true c46
                 clear c46
                 obtain ⟨y380, hy380⟩ : ∃ y_ : List Int, y_ = (x4_1.take ((ji44) : Int).toNat) := ⟨_, rfl⟩
                 replace H : (truantref09_Order.l0 k2 x3_1 y380 y377 a0_0 l0_1 a0_2 l0_3 l0_4 l0_5) = some r := by first | (rw [hy380]; with_reducible exact H) | (have H2_ := (Option.bind_some _ _).symm.trans H; rw [hy380]; with_reducible exact H2_) | (have H2_ := (Option.bind_some _ _).symm.trans H; with_reducible exact H2_) | with_reducible exact H | (rw [hy380]; exact H) | exact H
                 have Ny380 := Aside0.mk hy380
                 clear hy380
                 have H' := Aside0.mk H
                 clear H
                 have ej_ : ji20 = ji44 := hji20.symm.trans hji44; have q0_ : 0 ≤ ji20 := (by have := of_decide_eq_true c45b1; omega); have q1_ : ji20 ≤ (co24 : Int) := (by have h1_ := (Kd.R_reads' HO_4.out).2.1; have h2_ := of_decide_eq_true c46b1; omega); clear ej_; go_wp2_with (first | ((with_reducible refine gate_dst (N := 63) rfl ?_); refine Kd.R_lit (Kd.int .i64) _ 3 ?hg (N := 63) ?hd (xs := ([(rd x4_1 (ji20))] : List Int)) (inner := [.int .i64 (rd x4_1 (ji20))]) (ok := fun _ => True) (okp := fun _ => True) ?hr ?hp (fun _ hk => hk) trivial (Below.refl _ _) (Nat.le_refl _) (by simp) ?_; (case hd => rfl); (case hg => rfl); (case hr => first | (go_simp; done) | (go_simp; rfl)); (case hp => exact (Reps.one (show Kd.M (Kd.int .i64) _ _ _ (rd x4_1 (ji20)) [.int .i64 (rd x4_1 (ji20))] from rfl) (Reps.none _ _))); intro v375 w47 ho48 hb hg_ hnew_; clear hg_ hnew_; (first | rw [← Ny374.out] at ho48 | (simp only [Int.reduceToNat] at ho48; rw [← Ny374.out] at ho48)); have n0_ := Aside0.mk (Kd.R_below (by (with_reducible repeat (first | apply Kd.R_alloc | apply Kd.R_drewN | apply Kd.R_drew)); exact HO_3.out) hb); have n1_ := Aside0.mk (Kd.R_elder' (by (with_reducible repeat (first | apply Kd.R_alloc | apply Kd.R_drewN | apply Kd.R_drew)); exact HO_4.out) (Kd.R_base ho48) hb); have n2_ := Aside0.mk (Kd.R_elder' (by (with_reducible repeat (first | apply Kd.R_alloc | apply Kd.R_drewN | apply Kd.R_drew)); exact HO_5.out) (Kd.R_base ho48) hb); have n3_ := Aside0.mk (Kd.R_elder' (by (with_reducible repeat (first | apply Kd.R_alloc | apply Kd.R_drewN | apply Kd.R_drew)); exact HO_7.out) (Kd.R_base ho48) hb); have n4_ := Aside0.mk (Kd.R_lower (Kd.R_new' (Kd.R_new' (Kd.R_new' ho48 (Kd.R_lt (by (with_reducible repeat (first | apply Kd.R_alloc | apply Kd.R_drewN | apply Kd.R_drew)); exact HO_4.out))) (Kd.R_lt (by (with_reducible repeat (first | apply Kd.R_alloc | apply Kd.R_drewN | apply Kd.R_drew)); exact HO_5.out))) (Kd.R_lt (by (with_reducible repeat (first | apply Kd.R_alloc | apply Kd.R_drewN | apply Kd.R_drew)); exact HO_7.out))) (below_size (by repeat (first | (with_reducible first | exact HB.out | apply below_alloc | apply pw_below_drewN | apply below_drew1 | refine below_set ?_ GE352.out) | exact HB.out)))); have n5_ := Aside0.mk (blk_below (g := gb352) (o := .cells #[.string a0_0, .slice A0_1 l0_1.length c0_1, .string a0_2, .slice A0_3 l0_3.length c0_3, .slice A0_4 l0_4.length c0_4, .slice A0_5 l0_5.length c0_5] 26 (0, 0)) (by (with_reducible repeat (first | refine blk_drewN ?_ _ | refine blk_drew ?_ | refine blk_alloc ?_ _)); exact BK352.out) hb); have n6_ := Aside0.mk (below_step (by repeat (first | (with_reducible first | exact HB.out | apply below_alloc | apply pw_below_drewN | apply below_drew1 | refine below_set ?_ GE352.out) | exact HB.out)) hb); clear HO_3; clear HO_4; clear HO_5; clear HO_7; clear BK352; clear HB; have HO_3 := n0_; have HO_4 := n1_; have HO_5 := n2_; have HO_7 := n3_; have HO376 := n4_; have BK352 := n5_; have HB := n6_; clear n0_ n1_ n2_ n3_ n4_ n5_ n6_; clear hb ho48; obtain ⟨Ao50, co50, eo50⟩ := Kd.R_slice HO_5.out; subst eo50) | ((with_reducible refine gate_builtin (b := .append) (xs := #[.tmp 63, .tmp 64]) rfl ?_); at_builtin; refine Kd.R_append_rows (Kd.int .i64) (w0 := w) w.heap.size rfl (.tmp 63) (.tmp 64) 34 3 (.int .i64 0) 8 rfl Try.underlying34 info3 rfl (by decide) (by omega) v375 y374 x5_1 _ _ _ (fun k_ => some k_ ≠ (.slice (some ad363) x4_1.length co24 : Value).ownBlock ∧ some k_ ≠ (.slice Ao50 x5_1.length co50 : Value).ownBlock ∧ some k_ ≠ (.slice Ao27 t364.length co27 : Value).ownBlock) (fun _ => False) rfl rfl ?aO ?aR (fun _ _ h => h) (fun _ h => h.elim) ?aF ?aB ?aS ?aL ?_; (case aR => repeat (first | exact (Kd.R_reads' HO_5.out).2.2 | (with_reducible refine Kd.C_alloc ?_ _) | (with_reducible refine Kd.C_drewN ?_ _) | (with_reducible refine Kd.C_drew ?_))); (case aB => exact (by repeat (first | (with_reducible first | exact HB.out | apply below_alloc | apply pw_below_drewN | apply below_drew1 | refine below_set ?_ GE352.out) | exact HB.out))); (case aF => exact (fun k_ hk => ⟨Kd.fresh' (Kd.R_lt (by (with_reducible repeat (first | apply Kd.R_alloc | apply Kd.R_drewN | apply Kd.R_drew)); exact HO_4.out)) k_ hk, Kd.fresh' (Kd.R_lt (by (with_reducible repeat (first | apply Kd.R_alloc | apply Kd.R_drewN | apply Kd.R_drew)); exact HO_5.out)) k_ hk, Kd.fresh' (Kd.R_lt (by (with_reducible repeat (first | apply Kd.R_alloc | apply Kd.R_drewN | apply Kd.R_drew)); exact HO_7.out)) k_ hk⟩)); (case aO => exact (by (with_reducible repeat (first | apply Kd.R_alloc | apply Kd.R_drewN | apply Kd.R_drew)); exact Kd.R_mono HO376.out (fun _ hk => ⟨hk.1.1.2, ⟨hk.1.2, hk.2⟩⟩))); (case aS => exact (below_size (by repeat (first | (with_reducible first | exact HB.out | apply below_alloc | apply pw_below_drewN | apply below_drew1 | refine below_set ?_ GE352.out) | exact HB.out)))); (case aL => have := LMc43.out; omega); intro v378 w49 ho hb hg hat; rw [← Ny377.out] at ho; have n0_ := Aside0.mk (Kd.R_over' (by (with_reducible repeat (first | apply Kd.R_alloc | apply Kd.R_drewN | apply Kd.R_drew)); exact HO_3.out) (Kd.R_typed (by (with_reducible repeat (first | apply Kd.R_alloc | apply Kd.R_drewN | apply Kd.R_drew)); exact HO376.out)) (by decide) hg); have n1_ := Aside0.mk (Kd.R_after (ok := (fun k_ => some k_ ≠ (.slice Ao50 x5_1.length co50 : Value).ownBlock ∧ some k_ ≠ (.slice Ao27 t364.length co27 : Value).ownBlock)) (by (with_reducible repeat (first | apply Kd.R_alloc | apply Kd.R_drewN | apply Kd.R_drew)); exact HO_4.out) hg hat); have n2_ := Aside0.mk (Kd.R_after (ok := (fun k_ => some k_ ≠ (.slice (some ad363) x4_1.length co24 : Value).ownBlock ∧ some k_ ≠ (.slice Ao27 t364.length co27 : Value).ownBlock)) (by (with_reducible repeat (first | apply Kd.R_alloc | apply Kd.R_drewN | apply Kd.R_drew)); exact HO_5.out) hg hat); have n3_ := Aside0.mk (Kd.R_after (ok := (fun k_ => some k_ ≠ (.slice (some ad363) x4_1.length co24 : Value).ownBlock ∧ some k_ ≠ (.slice Ao50 x5_1.length co50 : Value).ownBlock)) (by (with_reducible repeat (first | apply Kd.R_alloc | apply Kd.R_drewN | apply Kd.R_drew)); exact HO_7.out) hg hat); have n4_ := Aside0.mk (blk_grown (g := gb352) (o := .cells #[.string a0_0, .slice A0_1 l0_1.length c0_1, .string a0_2, .slice A0_3 l0_3.length c0_3, .slice A0_4 l0_4.length c0_4, .slice A0_5 l0_5.length c0_5] 26 (0, 0)) (by (with_reducible repeat (first | refine blk_drewN ?_ _ | refine blk_drew ?_ | refine blk_alloc ?_ _)); exact BK352.out) hg (Kd.R_ne HO376.out BK352.out (by decide))); have n5_ := Aside0.mk (hb); have n6_ := Aside0.mk (ho); clear HO_3; clear HO_4; clear HO_5; clear HO_7; clear BK352; clear HB; clear HO376; have HO_3 := n0_; have HO_4 := n1_; have HO_5 := n2_; have HO_7 := n3_; have BK352 := n4_; have HB := n5_; have HO379 := n6_; clear n0_ n1_ n2_ n3_ n4_ n5_ n6_; clear ho hb hg hat; have q51 : ((ji44) : Int) ≤ ((x4_1.length : Int) : Int) := of_decide_eq_true (by first | (with_reducible assumption) | assumption); obtain ⟨i051, hi051, _, hsz51, _⟩ := info_parts info3; have hcut51 := cut_to (P := Try.prog) 34 3 .i64 Try.underlying34 hi051 (some ad363) x4_1.length co24 (ji44) (of_decide_eq_true (by first | (with_reducible assumption) | assumption)) q51 (Kd.R_reads' HO_4.out).2.1; have hr51 := Kd.R_take (m := ((ji44) : Int).toNat) HO_4.out (by omega); have hy51 : y380.length = ((ji44) : Int).toNat := (by rw [Ny380.out, List.length_take]; omega); rw [← Ny380.out] at hr51; rw [← hy51] at hr51 hcut51; clear hy51 hi051 hsz51 HO_4; have HO382 := Aside0.mk hr51; clear hr51; replace q51 := eq_true q51))
                 (try simp only [← hl3_1])
                 go_roundg k2
                 case measure => have := HK1.out; have := HK2.out; omega
                 case rel => exact ⟨(x3_1), (y380), (y377), H', ⟨by have := HK1.out; have := HK2.out; omega⟩, ⟨by (try simp only [hl3_1]); (with_reducible repeat (first | apply Kd.R_alloc | apply Kd.R_drewN | apply Kd.R_drew)); exact HO_3.out⟩, ⟨by (try simp only [hl3_1]); (with_reducible repeat (first | apply Kd.R_alloc | apply Kd.R_drewN | apply Kd.R_drew)); have e_ : y380.length = ji20.toNat := (by have h1_ := of_decide_eq_true c46b1; have h2_ := of_decide_eq_true c45b1; rw [Ny380.out, List.length_take, show ji20 = ji44 from hji20.symm.trans hji44]; omega); rw [← e_]; exact Kd.R_mono HO382.out (fun _ hk => hk.2)⟩, ⟨by (try simp only [hl3_1]); (with_reducible repeat (first | apply Kd.R_alloc | apply Kd.R_drewN | apply Kd.R_drew)); exact Kd.R_mono HO379.out (fun _ hk => hk.1)⟩, ⟨by (try simp only [hl3_1]); (with_reducible repeat (first | refine blk_drewN ?_ _ | refine blk_drew ?_ | refine blk_alloc ?_ _)); exact BK352.out⟩, ⟨by repeat (first | (with_reducible first | exact HB.out | apply below_alloc | apply pw_below_drewN | apply below_drew1 | refine below_set ?_ GE352.out) | exact HB.out)⟩⟩
                ·rw [if_neg c46] at H
                 exact absurd H (by simp)
               ·rw [if_neg c45] at H
                exact absurd H (by simp)
              ·rw [if_neg c43] at H
               exact absurd H (by simp)
         ·rw [if_neg c22] at H
          exact absurd H (by simp)
        ·rw [if_neg c21] at H
         exact absurd H (by simp)
       ·rw [if_neg c19] at H
        have c19b0 : decide (0 < (x4_1.length : Int)) = false := decide_eq_false c19
        have c19b1 : decide (0 < x4_1.length) = false := decide_eq_false (by omega)
        clear c19
        obtain rfl := Option.some.inj H
        obtain ⟨Ao52, co52, eo52⟩ := Kd.R_slice HO_4.out
        subst eo52
        go_wp2
        go_ret
        exact ⟨_, by first | rfl | (simp [errW_none, errW_some] <;> rfl) | (simp [*, errW_none, errW_some] <;> rfl), by (with_reducible repeat (first | apply Kd.R_alloc | apply Kd.R_drewN | apply Kd.R_drew)); exact Kd.R_mono HO_5.out (fun _ hk => trivial), by repeat (first | (with_reducible first | exact HB.out | apply below_alloc | apply pw_below_drewN | apply below_drew1 | refine below_set ?_ GE352.out) | exact HB.out)⟩
    ·rw [if_neg c7] at H
     exact absurd H (by simp)
   ·rw [if_neg c6] at H
    exact absurd H (by simp)
  ·rw [if_neg c5] at H
   exact absurd H (by simp)

end Go.Proofs.Ytclhjalgflebfaa.Q

namespace Go.Proofs.Ytclhjalgflebfaa.Q
open Go.RowKit Go.Proofs.YtclhjalgflebfaaW.PrintWords Go.Proofs.YtclhjalgflebfaaW.PrintLast Go.Proofs.YtclhjalgflebfaaW.PrintMore
attribute [local go_sem] max2_int min2_int max_two min_two max_three min_three max_four min_four   -- for this text's walks alone
set_option linter.unusedVariables false
set_option linter.unusedSimpArgs false

/-! ### truantref09_Ahead: function 24 -/
mutual
def truantref09_Ahead.l0 : Nat → Int → List Int → Int → ByteArray → List ByteArray → ByteArray → List ByteArray → List (S58) → List (S40) → Option (List Int)
 | 0, _, _, _, _, _, _, _, _, _ => none
 | k + 1, x1, x5, x6, x384000, x384001, x384002, x384003, x384004, x384005 => if x6 < (x384005.length : Int) then ((truantref09_Next.f k x384000 x384001 x384002 x384003 x384004 x384005 x6).bind fun t387 => (truantref09_Ahead.l1 k x1 x5 x6 t387 0 x384000 x384001 x384002 x384003 x384004 x384005)) else (some x5)
def truantref09_Ahead.l1 : Nat → Int → List Int → Int → List Int → Int → ByteArray → List ByteArray → ByteArray → List ByteArray → List (S58) → List (S40) → Option (List Int)
 | 0, _, _, _, _, _, _, _, _, _, _, _ => none
 | k + 1, x1, x5, x6, x7, x8, x384000, x384001, x384002, x384003, x384004, x384005 => if x8 < (x7.length : Int) then (if 0 ≤ x8 then (if (rd x7 x8) = x1 then (if x5.length < 17592186044416 then (truantref09_Ahead.l1 k x1 (x5 ++ [x6]) x6 x7 (wrap64 (x8 + 1)) x384000 x384001 x384002 x384003 x384004 x384005) else (none)) else (truantref09_Ahead.l1 k x1 x5 x6 x7 (wrap64 (x8 + 1)) x384000 x384001 x384002 x384003 x384004 x384005)) else (none)) else (truantref09_Ahead.l0 k x1 x5 (wrap64 (x6 + 1)) x384000 x384001 x384002 x384003 x384004 x384005)
end
def truantref09_Ahead.f (k : Nat) (a0_0 : ByteArray) (l0_1 : List ByteArray) (a0_2 : ByteArray) (l0_3 : List ByteArray) (l0_4 : List (S58)) (l0_5 : List (S40)) (a1 : Int) : Option (List Int) := truantref09_Ahead.l0 k a1 (([] : List Int)) 0 a0_0 l0_1 a0_2 l0_3 l0_4 l0_5
theorem truantref09_Ahead.mono_l : ∀ k, (∀ y0 y1 y2 y3 y4 y5 y6 y7 y8, LeO (truantref09_Ahead.l0 k y0 y1 y2 y3 y4 y5 y6 y7 y8) (truantref09_Ahead.l0 (k + 1) y0 y1 y2 y3 y4 y5 y6 y7 y8)) ∧ (∀ y0 y1 y2 y3 y4 y5 y6 y7 y8 y9 y10, LeO (truantref09_Ahead.l1 k y0 y1 y2 y3 y4 y5 y6 y7 y8 y9 y10) (truantref09_Ahead.l1 (k + 1) y0 y1 y2 y3 y4 y5 y6 y7 y8 y9 y10))
 | 0 => ⟨fun _ _ _ _ _ _ _ _ _ r h => by simp [truantref09_Ahead.l0] at h, fun _ _ _ _ _ _ _ _ _ _ _ r h => by simp [truantref09_Ahead.l1] at h⟩
 | k + 1 => by
  obtain ⟨ih0, ih1⟩ := truantref09_Ahead.mono_l k
  refine ⟨?_, ?_⟩
  ·intro y0 y1 y2 y3 y4 y5 y6 y7 y8
   unfold truantref09_Ahead.l0
   repeat' first
   | (with_reducible exact ih0 _ _ _ _ _ _ _ _ _)
   | (with_reducible exact ih1 _ _ _ _ _ _ _ _ _ _ _)
   | (with_reducible exact truantref09_Next.mono _ _ _ _ _ _ _ _)
   | (with_reducible exact LeO.refl _)
   | (with_reducible exact LeO.none _)
   | (with_reducible refine LeO.ite ?_ ?_)
   | (with_reducible refine LeO.bind ?_ (fun _ => ?_))
   | exact ih0 _ _ _ _ _ _ _ _ _
   | exact ih1 _ _ _ _ _ _ _ _ _ _ _
   | exact truantref09_Next.mono _ _ _ _ _ _ _ _
   | exact LeO.none _
   | refine LeO.ite ?_ ?_
   | refine LeO.bind ?_ (fun _ => ?_)
  ·intro y0 y1 y2 y3 y4 y5 y6 y7 y8 y9 y10
   unfold truantref09_Ahead.l1
   repeat' first
   | (with_reducible exact ih0 _ _ _ _ _ _ _ _ _)
   | (with_reducible exact ih1 _ _ _ _ _ _ _ _ _ _ _)
   | (with_reducible exact truantref09_Next.mono _ _ _ _ _ _ _ _)
   | (with_reducible exact LeO.refl _)
   | (with_reducible exact LeO.none _)
   | (with_reducible refine LeO.ite ?_ ?_)
   | (with_reducible refine LeO.bind ?_ (fun _ => ?_))
   | exact ih0 _ _ _ _ _ _ _ _ _
   | exact ih1 _ _ _ _ _ _ _ _ _ _ _
   | exact truantref09_Next.mono _ _ _ _ _ _ _ _
   | exact LeO.none _
   | refine LeO.ite ?_ ?_
   | refine LeO.bind ?_ (fun _ => ?_)
theorem truantref09_Ahead.mono : ∀ a0 a1 a2 a3 a4 a5 a6 k, LeO (truantref09_Ahead.f k a0 a1 a2 a3 a4 a5 a6) (truantref09_Ahead.f (k + 1) a0 a1 a2 a3 a4 a5 a6) := by
 intro a0 a1 a2 a3 a4 a5 a6 k
 obtain ⟨ih0, ih1⟩ := truantref09_Ahead.mono_l k
 unfold truantref09_Ahead.f
 repeat' first
   | (with_reducible exact ih0 _ _ _ _ _ _ _ _ _)
   | (with_reducible exact ih1 _ _ _ _ _ _ _ _ _ _ _)
   | (with_reducible exact truantref09_Next.mono _ _ _ _ _ _ _ _)
   | (with_reducible exact LeO.refl _)
   | (with_reducible exact LeO.none _)
   | (with_reducible refine LeO.ite ?_ ?_)
   | (with_reducible refine LeO.bind ?_ (fun _ => ?_))
   | exact ih0 _ _ _ _ _ _ _ _ _
   | exact ih1 _ _ _ _ _ _ _ _ _ _ _
   | exact truantref09_Next.mono _ _ _ _ _ _ _ _
   | exact LeO.none _
   | refine LeO.ite ?_ ?_
   | refine LeO.bind ?_ (fun _ => ?_)
set_option maxHeartbeats 8000000 in
set_option maxRecDepth 100000 in
theorem truantref09_Ahead.calls (k : Nat) (a0_0 : ByteArray) (A0_1 : Option Addr) (c0_1 : Nat) (l0_1 : List ByteArray) (a0_2 : ByteArray) (A0_3 : Option Addr) (c0_3 : Nat) (l0_3 : List ByteArray) (A0_4 : Option Addr) (c0_4 : Nat) (l0_4 : List (S58)) (A0_5 : Option Addr) (c0_5 : Nat) (l0_5 : List (S40)) (a1 : Int) (r : List Int) (w : World) (hr0_1 : Kd.C Kd.string w A0_1 l0_1.length l0_1) (hc0_1 : l0_1.length ≤ c0_1) (hr0_3 : Kd.C Kd.string w A0_3 l0_3.length l0_3) (hc0_3 : l0_3.length ≤ c0_3) (hr0_4 : Kd.C k58 w A0_4 l0_4.length l0_4) (hc0_4 : l0_4.length ≤ c0_4) (hr0_5 : Kd.C k40 w A0_5 l0_5.length l0_5) (hc0_5 : l0_5.length ≤ c0_5) (h : truantref09_Ahead.f k a0_0 l0_1 a0_2 l0_3 l0_4 l0_5 a1 = some r) :
  Calls Try.prog 24 #[.agg #[.string a0_0, .slice A0_1 l0_1.length c0_1, .string a0_2, .slice A0_3 l0_3.length c0_3, .slice A0_4 l0_4.length c0_4, .slice A0_5 l0_5.length c0_5], .int .i64 a1] w fun e w' => ∃ v0_ : Value, e = .returned (v0_) ∧ Kd.R (Kd.int .i64) 3 w' w.heap.size (fun _ => True) v0_ r ∧ Below w.heap.size w w' := by
 have hu26 := Try.underlying26
 have HR0_1 := Aside0.mk hr0_1
 have HC0_1 := Aside0.mk hc0_1
 clear hr0_1 hc0_1
 have HR0_3 := Aside0.mk hr0_3
 have HC0_3 := Aside0.mk hc0_3
 clear hr0_3 hc0_3
 have HR0_4 := Aside0.mk hr0_4
 have HC0_4 := Aside0.mk hc0_4
 clear hr0_4 hc0_4
 have HR0_5 := Aside0.mk hr0_5
 have HC0_5 := Aside0.mk hc0_5
 clear hr0_5 hc0_5
 have HB := Aside0.mk (Below.refl w.heap.size w)
 have H : (truantref09_Ahead.l0 k a1 (([] : List Int)) 0 a0_0 l0_1 a0_2 l0_3 l0_4 l0_5) = some r := h
 clear h
 obtain ⟨y384, hy384⟩ : ∃ y_ : List Int, y_ = (([] : List Int)) := ⟨_, rfl⟩
 replace H : (truantref09_Ahead.l0 k a1 y384 0 a0_0 l0_1 a0_2 l0_3 l0_4 l0_5) = some r := by first | (rw [hy384]; with_reducible exact H) | (have H2_ := (Option.bind_some _ _).symm.trans H; rw [hy384]; with_reducible exact H2_) | (have H2_ := (Option.bind_some _ _).symm.trans H; with_reducible exact H2_) | with_reducible exact H | (rw [hy384]; exact H) | exact H
 have Ny384 := Aside0.mk hy384
 clear hy384
 have H' := Aside0.mk H
 clear H
 go_enter Try.func24, Try.ntmps24
 go_wp2_with (first | ((with_reducible refine gate_dst (N := 2) rfl ?_); refine box_event ?hg (N := 2) ?hd (cs := #[.string a0_0, .slice A0_1 l0_1.length c0_1, .string a0_2, .slice A0_3 l0_3.length c0_3, .slice A0_4 l0_4.length c0_4, .slice A0_5 l0_5.length c0_5]) (t := 26) ?hr ?_; (case hd => rfl); (case hg => rfl); (case hr => first | (go_simp; done) | (go_simp; rfl)); intro gb383 hg w3 hbox hb; have n0_ := Aside0.mk (below_step (by repeat (first | (with_reducible first | exact HB.out | apply below_alloc | apply pw_below_drewN | apply below_drew1) | exact HB.out)) hb); have n1_ := Aside0.mk (hbox); have n2_ := Aside0.mk ((by rw [hg]; exact (below_size (by repeat (first | (with_reducible first | exact HB.out | apply below_alloc | apply pw_below_drewN | apply below_drew1) | exact HB.out))) : w.heap.size ≤ gb383)); have n3_ := Aside0.mk ((by rw [hg]; exact (below_size (by repeat (first | (with_reducible first | exact HB.out | apply below_alloc | apply pw_below_drewN | apply below_drew1) | exact HB.out))) : w.heap.size ≤ gb383)); clear HB; have HB := n0_; have BK383 := n1_; have GW383 := n2_; have GE383 := n3_; clear n0_ n1_ n2_ n3_; clear hb hbox hg) | ((with_reducible refine gate_dst (N := 9) rfl ?_); refine Kd.R_lit (Kd.int .i64) _ 3 ?hg (N := 9) ?hd (xs := ([] : List Int)) (inner := []) (ok := fun _ => True) (okp := fun _ => True) ?hr ?hp (fun _ hk => hk) trivial (Below.refl _ _) (Nat.le_refl _) (by simp) ?_; (case hd => rfl); (case hg => rfl); (case hr => first | (go_simp; done) | (go_simp; rfl)); (case hp => exact (Reps.none _ _)); intro v385 w4 ho5 hb hg_ hnew_; clear hg_ hnew_; (first | rw [← Ny384.out] at ho5 | (simp only [Int.reduceToNat] at ho5; rw [← Ny384.out] at ho5)); have n0_ := Aside0.mk (Kd.R_lower ho5 (below_size (by repeat (first | (with_reducible first | exact HB.out | apply below_alloc | apply pw_below_drewN | apply below_drew1 | refine below_set ?_ GE383.out) | exact HB.out)))); have n1_ := Aside0.mk (blk_below (g := gb383) (o := .cells #[.string a0_0, .slice A0_1 l0_1.length c0_1, .string a0_2, .slice A0_3 l0_3.length c0_3, .slice A0_4 l0_4.length c0_4, .slice A0_5 l0_5.length c0_5] 26 (0, 0)) (by (with_reducible repeat (first | refine blk_drewN ?_ _ | refine blk_drew ?_ | refine blk_alloc ?_ _)); exact BK383.out) hb); have n2_ := Aside0.mk (below_step (by repeat (first | (with_reducible first | exact HB.out | apply below_alloc | apply pw_below_drewN | apply below_drew1 | refine below_set ?_ GE383.out) | exact HB.out)) hb); clear BK383; clear HB; have HO386 := n0_; have BK383 := n1_; have HB := n2_; clear n0_ n1_ n2_; clear hb ho5))
 go_loopg [5, 6] k (fun kq v5 v6 w' => ∃ (x5_1 : List Int) (x6_1 : Int), v6 = .int .i64 x6_1 ∧ Aside0 (truantref09_Ahead.l0 kq a1 x5_1 x6_1 a0_0 l0_1 a0_2 l0_3 l0_4 l0_5 = some r) ∧ Aside0 (kq ≤ k) ∧ Aside0 (Kd.R (Kd.int .i64) 3 w' w.heap.size (fun _ => True) v5 x5_1) ∧ Aside0 (w'.heap[gb383]? = some (.cells #[.string a0_0, (.slice A0_1 l0_1.length c0_1), .string a0_2, (.slice A0_3 l0_3.length c0_3), (.slice A0_4 l0_4.length c0_4), (.slice A0_5 l0_5.length c0_5)] 26 (0, 0))) ∧ Aside0 (Below w.heap.size w w'))
 case atStart => exact ⟨(y384), (0), (by first | rfl | (simp; done) | (simp [*]; done)), H', ⟨Nat.le_refl _⟩, ⟨by (with_reducible repeat (first | apply Kd.R_alloc | apply Kd.R_drewN | apply Kd.R_drew)); exact HO386.out⟩, ⟨by (with_reducible repeat (first | refine blk_drewN ?_ _ | refine blk_drew ?_ | refine blk_alloc ?_ _)); exact BK383.out⟩, ⟨by repeat (first | (with_reducible first | exact HB.out | apply below_alloc | apply pw_below_drewN | apply below_drew1 | refine below_set ?_ GE383.out) | exact HB.out)⟩⟩
 case round =>
  clear H'
  try clear c2
  try clear p2
  obtain ⟨x5_1, x6_1, rfl, HA, HK1, HO_5, BK383, HB⟩ := hrel
  cases gk with
  | zero => exact absurd HA.out (by simp [truantref09_Ahead.l0])
  | succ k1 =>
   have H := HA.out
   clear HA
   simp only [truantref09_Ahead.l0] at H
   by_cases c6 : x6_1 < (l0_5.length : Int)
   ·rw [if_pos c6] at H
    have c6b0 : decide (x6_1 < (l0_5.length : Int)) = true := decide_eq_true c6
    clear c6
    replace H := Option.bind_eq_some_iff.mp H
    obtain ⟨t387, A70, H⟩ := H
    replace H : (truantref09_Ahead.l1 k1 a1 x5_1 x6_1 t387 0 a0_0 l0_1 a0_2 l0_3 l0_4 l0_5) = some r := H
    have A7 := Aside0.mk A70
    clear A70
    have H' := Aside0.mk H
    clear H
    have hcz8_0 : wr.cell? ⟨gb383, 0, none⟩ = some (.string a0_0) := (blk_cell BK383.out 0).trans rfl
    have hcz8_1 : wr.cell? ⟨gb383, 1, none⟩ = some (.slice A0_1 l0_1.length c0_1) := (blk_cell BK383.out 1).trans rfl
    have hcz8_2 : wr.cell? ⟨gb383, 2, none⟩ = some (.string a0_2) := (blk_cell BK383.out 2).trans rfl
    have hcz8_3 : wr.cell? ⟨gb383, 3, none⟩ = some (.slice A0_3 l0_3.length c0_3) := (blk_cell BK383.out 3).trans rfl
    have hcz8_4 : wr.cell? ⟨gb383, 4, none⟩ = some (.slice A0_4 l0_4.length c0_4) := (blk_cell BK383.out 4).trans rfl
    have hcz8_5 : wr.cell? ⟨gb383, 5, none⟩ = some (.slice A0_5 l0_5.length c0_5) := (blk_cell BK383.out 5).trans rfl
    have hfz8_0 := blk_frozen BK383.out 0
    have hfz8_1 := blk_frozen BK383.out 1
    have hfz8_2 := blk_frozen BK383.out 2
    have hfz8_3 := blk_frozen BK383.out 3
    have hfz8_4 := blk_frozen BK383.out 4
    have hfz8_5 := blk_frozen BK383.out 5
    go_wp2_with (first | ((with_reducible refine gate_callee (f := 21) rfl ?_); refine goesL_ (some 19) rfl rfl Try.func21 (by kernel_rfl) rfl #[.agg #[.string a0_0, .slice A0_1 l0_1.length c0_1, .string a0_2, .slice A0_3 l0_3.length c0_3, .slice A0_4 l0_4.length c0_4, .slice A0_5 l0_5.length c0_5], .int .i64 x6_1] rfl (by (try simp only [List.map_toArray, List.map_cons, List.map_nil]); first | done | rfl | (simp only [List.length_drop, List.length_take]; rfl)) ?_; (with_reducible refine (truantref09_Next.calls k1 a0_0 _ _ l0_1 a0_2 _ _ l0_3 _ _ l0_4 _ _ l0_5 x6_1 t387 _ ?side1 ?side2 ?side3 ?side4 ?side5 ?side6 ?side7 ?side8 A7.out).mono ?_); (case side1 => repeat (first | exact (Kd.C_below HR0_1.out HB.out) | (with_reducible refine Kd.C_alloc ?_ _) | (with_reducible refine Kd.C_drewN ?_ _) | (with_reducible refine Kd.C_drew ?_))); (case side2 => exact HC0_1.out); (case side3 => repeat (first | exact (Kd.C_below HR0_3.out HB.out) | (with_reducible refine Kd.C_alloc ?_ _) | (with_reducible refine Kd.C_drewN ?_ _) | (with_reducible refine Kd.C_drew ?_))); (case side4 => exact HC0_3.out); (case side5 => repeat (first | exact (Kd.C_below HR0_4.out HB.out) | (with_reducible refine Kd.C_alloc ?_ _) | (with_reducible refine Kd.C_drewN ?_ _) | (with_reducible refine Kd.C_drew ?_))); (case side6 => exact HC0_4.out); (case side7 => repeat (first | exact (Kd.C_below HR0_5.out HB.out) | (with_reducible refine Kd.C_alloc ?_ _) | (with_reducible refine Kd.C_drewN ?_ _) | (with_reducible refine Kd.C_drew ?_))); (case side8 => exact HC0_5.out); rintro e w9 ⟨v388, rfl, ho0, hb⟩; refine ⟨_, rfl, ?_⟩; have n0_ := Aside0.mk (Kd.R_elder' (by (with_reducible repeat (first | apply Kd.R_alloc | apply Kd.R_drewN | apply Kd.R_drew)); exact HO_5.out) (Kd.R_base ho0) hb); have n1_ := Aside0.mk (Kd.R_lower (Kd.R_new' ho0 (Kd.R_lt (by (with_reducible repeat (first | apply Kd.R_alloc | apply Kd.R_drewN | apply Kd.R_drew)); exact HO_5.out))) (below_size (by repeat (first | (with_reducible first | exact HB.out | apply below_alloc | apply pw_below_drewN | apply below_drew1 | refine below_set ?_ GE383.out) | exact HB.out)))); have n2_ := Aside0.mk (blk_below (g := gb383) (o := .cells #[.string a0_0, .slice A0_1 l0_1.length c0_1, .string a0_2, .slice A0_3 l0_3.length c0_3, .slice A0_4 l0_4.length c0_4, .slice A0_5 l0_5.length c0_5] 26 (0, 0)) (by (with_reducible repeat (first | refine blk_drewN ?_ _ | refine blk_drew ?_ | refine blk_alloc ?_ _)); exact BK383.out) hb); have n3_ := Aside0.mk (below_step (by repeat (first | (with_reducible first | exact HB.out | apply below_alloc | apply pw_below_drewN | apply below_drew1 | refine below_set ?_ GE383.out) | exact HB.out)) hb); clear HO_5; clear BK383; clear HB; have HO_5 := n0_; have HO389 := n1_; have BK383 := n2_; have HB := n3_; clear n0_ n1_ n2_ n3_; (try clear hb); (try clear hb2); (try clear hk); (try clear hi); (try clear ho0)))
    go_loopg [5, 8] k1 (fun kq v5 v8 w' => ∃ (x5_2 : List Int) (x8_2 : Int), v8 = .int .i64 x8_2 ∧ Aside0 (truantref09_Ahead.l1 kq a1 x5_2 x6_1 t387 x8_2 a0_0 l0_1 a0_2 l0_3 l0_4 l0_5 = some r) ∧ Aside0 (kq ≤ k1) ∧ Aside0 (Kd.R (Kd.int .i64) 3 w' w.heap.size (fun k_ => some k_ ≠ (v388 : Value).ownBlock) v5 x5_2) ∧ Aside0 (Kd.R (Kd.int .i64) 3 w' w.heap.size (fun k_ => some k_ ≠ (v5 : Value).ownBlock) v388 t387) ∧ Aside0 (w'.heap[gb383]? = some (.cells #[.string a0_0, (.slice A0_1 l0_1.length c0_1), .string a0_2, (.slice A0_3 l0_3.length c0_3), (.slice A0_4 l0_4.length c0_4), (.slice A0_5 l0_5.length c0_5)] 26 (0, 0))) ∧ Aside0 (Below w.heap.size w w'))
    case atStart => exact ⟨(x5_1), (0), (by first | rfl | (simp; done) | (simp [*]; done)), H', ⟨Nat.le_refl _⟩, ⟨by (with_reducible repeat (first | apply Kd.R_alloc | apply Kd.R_drewN | apply Kd.R_drew)); exact Kd.R_mono HO_5.out (fun _ hk => hk.2)⟩, ⟨by (with_reducible repeat (first | apply Kd.R_alloc | apply Kd.R_drewN | apply Kd.R_drew)); exact Kd.R_mono HO389.out (fun _ hk => hk.2)⟩, ⟨by (with_reducible repeat (first | refine blk_drewN ?_ _ | refine blk_drew ?_ | refine blk_alloc ?_ _)); exact BK383.out⟩, ⟨by repeat (first | (with_reducible first | exact HB.out | apply below_alloc | apply pw_below_drewN | apply below_drew1 | refine below_set ?_ GE383.out) | exact HB.out)⟩⟩
    case round =>
     clear H'
     try clear c2
     try clear p2
     try clear c6
     try clear c6b0
     try clear hcz8_0
     try clear hcz8_1
     try clear hcz8_2
     try clear hcz8_3
     try clear hcz8_4
     try clear hcz8_5
     try clear hfz8_0
     try clear hfz8_1
     try clear hfz8_2
     try clear hfz8_3
     try clear hfz8_4
     try clear hfz8_5
     try clear p2
     obtain ⟨x5_2, x8_2, rfl, HA, HK2, HO_5, HO_7, BK383, HB⟩ := hrel
     cases gk with
     | zero => exact absurd HA.out (by simp [truantref09_Ahead.l1])
     | succ k2 =>
      have H := HA.out
      clear HA
      simp only [truantref09_Ahead.l1] at H
      by_cases c10 : x8_2 < (t387.length : Int)
      ·rw [if_pos c10] at H
       have c10b0 : decide (x8_2 < (t387.length : Int)) = true := decide_eq_true c10
       clear c10
       by_cases c11 : 0 ≤ x8_2
       ·rw [if_pos c11] at H
        have c11b0 : decide (0 ≤ x8_2) = true := decide_eq_true c11
        clear c11
        by_cases c12 : (rd t387 x8_2) = a1
        ·rw [if_pos c12] at H
         have c12b0 : ((rd t387 x8_2) == a1) = true := beq_iff_eq.mpr c12
         have c12b1 : ((rd t387 x8_2) != a1) = false := bne_eq_false_iff_eq.mpr c12
         clear c12
         by_cases c13 : x5_2.length < 17592186044416
         ·rw [if_pos c13] at H
          have LMc13 := Aside0.mk c13
          clear c13
          obtain ⟨y391, hy391⟩ : ∃ y_ : List Int, y_ = (x5_2 ++ [x6_1]) := ⟨_, rfl⟩
          replace H : (truantref09_Ahead.l1 k2 a1 y391 x6_1 t387 (wrap64 (x8_2 + 1)) a0_0 l0_1 a0_2 l0_3 l0_4 l0_5) = some r := by first | (rw [hy391]; with_reducible exact H) | (have H2_ := (Option.bind_some _ _).symm.trans H; rw [hy391]; with_reducible exact H2_) | (have H2_ := (Option.bind_some _ _).symm.trans H; with_reducible exact H2_) | with_reducible exact H | (rw [hy391]; exact H) | exact H
          have Ny391 := Aside0.mk hy391
          clear hy391
          have H' := Aside0.mk H
          clear H
          obtain ⟨Ao14, co14, eo14⟩ := Kd.R_slice HO_7.out
          subst eo14
          have p390 : 0 ≤ (x8_2 : Int) := of_decide_eq_true (by first | (with_reducible assumption) | assumption)
          have q390 : x8_2 < (t387.length : Int) := of_decide_eq_true (by first | (with_reducible assumption) | assumption)
          obtain ⟨ad390, e390, hx390_0⟩ := Kd.at_int (Kd.R_reads' HO_7.out).2.2 x8_2 p390 q390
          cases e390
          replace p390 := eq_true p390
          replace q390 := eq_true q390
          go_wp2_with (first | ((with_reducible refine gate_builtin (b := .append) (xs := #[.tmp 32, .tmp 34]) rfl ?_); at_builtin; refine Kd.R_append (Kd.int .i64) (w0 := w) w.heap.size rfl (.tmp 32) (.tmp 34) 34 3 (.int .i64 0) 8 rfl Try.underlying34 info3 rfl (by decide) (by omega) u5 x5_2 x6_1 [.int .i64 x6_1] (fun k_ => some k_ ≠ (.slice (some ad390) t387.length co14 : Value).ownBlock) (fun _ => False) rfl rfl ?aP (fun _ hk => hk.elim) ?aF ?aO ?aB ?aS ?aL ?_; (case aP => exact rfl); (case aB => exact (by repeat (first | (with_reducible first | exact HB.out | apply below_alloc | apply pw_below_drewN | apply below_drew1 | refine below_set ?_ GE383.out) | exact HB.out))); (case aF => exact (fun k_ hk => Kd.fresh' (Kd.R_lt (by (with_reducible repeat (first | apply Kd.R_alloc | apply Kd.R_drewN | apply Kd.R_drew)); exact HO_7.out)) k_ hk)); (case aO => exact (by (with_reducible repeat (first | apply Kd.R_alloc | apply Kd.R_drewN | apply Kd.R_drew)); exact HO_5.out)); (case aS => exact (below_size (by repeat (first | (with_reducible first | exact HB.out | apply below_alloc | apply pw_below_drewN | apply below_drew1 | refine below_set ?_ GE383.out) | exact HB.out)))); (case aL => have := LMc13.out; omega); intro v392 w15 ho hb hg hat; rw [← Ny391.out] at ho; have n0_ := Aside0.mk (Kd.R_after (ok := (fun _ => True)) (by (with_reducible repeat (first | apply Kd.R_alloc | apply Kd.R_drewN | apply Kd.R_drew)); exact Kd.R_mono HO_7.out (fun _ hk => ⟨trivial, hk⟩)) hg hat); have n1_ := Aside0.mk (blk_grown (g := gb383) (o := .cells #[.string a0_0, .slice A0_1 l0_1.length c0_1, .string a0_2, .slice A0_3 l0_3.length c0_3, .slice A0_4 l0_4.length c0_4, .slice A0_5 l0_5.length c0_5] 26 (0, 0)) (by (with_reducible repeat (first | refine blk_drewN ?_ _ | refine blk_drew ?_ | refine blk_alloc ?_ _)); exact BK383.out) hg (Kd.R_ne HO_5.out BK383.out (by decide))); have n2_ := Aside0.mk (hb); have n3_ := Aside0.mk (ho); clear HO_7; clear BK383; clear HB; clear HO_5; have HO_7 := n0_; have BK383 := n1_; have HB := n2_; have HO393 := n3_; clear n0_ n1_ n2_ n3_; clear ho hb hg hat))
          go_roundg k2
          case measure => have := HK1.out; have := HK2.out; omega
          case rel => exact ⟨(y391), (wrap64 (x8_2 + 1)), (by first | rfl | (simp; done) | (simp [*]; done)), H', ⟨by have := HK1.out; have := HK2.out; omega⟩, ⟨by (with_reducible repeat (first | apply Kd.R_alloc | apply Kd.R_drewN | apply Kd.R_drew)); exact HO393.out⟩, ⟨by (with_reducible repeat (first | apply Kd.R_alloc | apply Kd.R_drewN | apply Kd.R_drew)); exact Kd.R_mono HO_7.out (fun _ hk => hk.2)⟩, ⟨by (with_reducible repeat (first | refine blk_drewN ?_ _ | refine blk_drew ?_ | refine blk_alloc ?_ _)); exact BK383.out⟩, ⟨by repeat (first | (with_reducible first | exact HB.out | apply below_alloc | apply pw_below_drewN | apply below_drew1 | refine below_set ?_ GE383.out) | exact HB.out)⟩⟩
         ·rw [if_neg c13] at H
          exact absurd H (by simp)
        ·rw [if_neg c12] at H
         have c12b0 : ((rd t387 x8_2) == a1) = false := beq_eq_false_iff_ne.mpr c12
         have c12b1 : ((rd t387 x8_2) != a1) = true := bne_iff_ne.mpr c12
         have H' := Aside0.mk H
         clear H
         obtain ⟨Ao16, co16, eo16⟩ := Kd.R_slice HO_7.out
         subst eo16
         have p390 : 0 ≤ (x8_2 : Int) := of_decide_eq_true (by first | (with_reducible assumption) | assumption)
         have q390 : x8_2 < (t387.length : Int) := of_decide_eq_true (by first | (with_reducible assumption) | assumption)
         obtain ⟨ad390, e390, hx390_0⟩ := Kd.at_int (Kd.R_reads' HO_7.out).2.2 x8_2 p390 q390
         cases e390
         replace p390 := eq_true p390
         replace q390 := eq_true q390
         go_wp2
         go_roundg k2
         case measure => have := HK1.out; have := HK2.out; omega
         case rel => exact ⟨(x5_2), (wrap64 (x8_2 + 1)), (by first | rfl | (simp; done) | (simp [*]; done)), H', ⟨by have := HK1.out; have := HK2.out; omega⟩, ⟨by (with_reducible repeat (first | apply Kd.R_alloc | apply Kd.R_drewN | apply Kd.R_drew)); exact HO_5.out⟩, ⟨by (with_reducible repeat (first | apply Kd.R_alloc | apply Kd.R_drewN | apply Kd.R_drew)); exact HO_7.out⟩, ⟨by (with_reducible repeat (first | refine blk_drewN ?_ _ | refine blk_drew ?_ | refine blk_alloc ?_ _)); exact BK383.out⟩, ⟨by repeat (first | (with_reducible first | exact HB.out | apply below_alloc | apply pw_below_drewN | apply below_drew1 | refine below_set ?_ GE383.out) | exact HB.out)⟩⟩
       ·rw [if_neg c11] at H
        exact absurd H (by simp)
      ·rw [if_neg c10] at H
       have c10b0 : decide (x8_2 < (t387.length : Int)) = false := decide_eq_false c10
       clear c10
       have H' := Aside0.mk H
       clear H
       obtain ⟨Ao17, co17, eo17⟩ := Kd.R_slice HO_7.out
       subst eo17
       go_wp2
       go_roundg k2
       case measure => have := HK1.out; have := HK2.out; omega
       case rel => exact ⟨(x5_2), (wrap64 (x6_1 + 1)), (by first | rfl | (simp; done) | (simp [*]; done)), H', ⟨by have := HK1.out; have := HK2.out; omega⟩, ⟨by (with_reducible repeat (first | apply Kd.R_alloc | apply Kd.R_drewN | apply Kd.R_drew)); exact Kd.R_mono HO_5.out (fun _ hk => trivial)⟩, ⟨by (with_reducible repeat (first | refine blk_drewN ?_ _ | refine blk_drew ?_ | refine blk_alloc ?_ _)); exact BK383.out⟩, ⟨by repeat (first | (with_reducible first | exact HB.out | apply below_alloc | apply pw_below_drewN | apply below_drew1 | refine below_set ?_ GE383.out) | exact HB.out)⟩⟩
   ·rw [if_neg c6] at H
    have c6b0 : decide (x6_1 < (l0_5.length : Int)) = false := decide_eq_false c6
    clear c6
    obtain rfl := Option.some.inj H
    have hcz18_0 : wr.cell? ⟨gb383, 0, none⟩ = some (.string a0_0) := (blk_cell BK383.out 0).trans rfl
    have hcz18_1 : wr.cell? ⟨gb383, 1, none⟩ = some (.slice A0_1 l0_1.length c0_1) := (blk_cell BK383.out 1).trans rfl
    have hcz18_2 : wr.cell? ⟨gb383, 2, none⟩ = some (.string a0_2) := (blk_cell BK383.out 2).trans rfl
    have hcz18_3 : wr.cell? ⟨gb383, 3, none⟩ = some (.slice A0_3 l0_3.length c0_3) := (blk_cell BK383.out 3).trans rfl
    have hcz18_4 : wr.cell? ⟨gb383, 4, none⟩ = some (.slice A0_4 l0_4.length c0_4) := (blk_cell BK383.out 4).trans rfl
    have hcz18_5 : wr.cell? ⟨gb383, 5, none⟩ = some (.slice A0_5 l0_5.length c0_5) := (blk_cell BK383.out 5).trans rfl
    have hfz18_0 := blk_frozen BK383.out 0
    have hfz18_1 := blk_frozen BK383.out 1
    have hfz18_2 := blk_frozen BK383.out 2
    have hfz18_3 := blk_frozen BK383.out 3
    have hfz18_4 := blk_frozen BK383.out 4
    have hfz18_5 := blk_frozen BK383.out 5
    go_wp2
    go_ret
    exact ⟨_, by first | rfl | (simp [errW_none, errW_some] <;> rfl) | (simp [*, errW_none, errW_some] <;> rfl), by (with_reducible repeat (first | apply Kd.R_alloc | apply Kd.R_drewN | apply Kd.R_drew)); exact HO_5.out, by repeat (first | (with_reducible first | exact HB.out | apply below_alloc | apply pw_below_drewN | apply below_drew1 | refine below_set ?_ GE383.out) | exact HB.out)⟩

end Go.Proofs.Ytclhjalgflebfaa.Q

namespace Go.Proofs.Ytclhjalgflebfaa.Q
open Go.RowKit Go.Proofs.YtclhjalgflebfaaW.PrintWords Go.Proofs.YtclhjalgflebfaaW.PrintLast Go.Proofs.YtclhjalgflebfaaW.PrintMore
attribute [local go_sem] max2_int min2_int max_two min_two max_three min_three max_four min_four   -- for this text's walks alone
set_option linter.unusedVariables false
set_option linter.unusedSimpArgs false

/-! ### truantlaw09_FlowExact: function 3 -/
def truantlaw09_FlowExact.l0 : Nat → List (List Int) → List Bool → List Bool → Int → ByteArray → List ByteArray → ByteArray → List ByteArray → List (S58) → List (S40) → Option (Bool)
 | 0, _, _, _, _, _, _, _, _, _, _ => none
 | k + 1, x5, x6, x7, x8, x395000, x395001, x395002, x395003, x395004, x395005 => if x8 < (x7.length : Int) then (if 0 ≤ x8 then (if x8 < (x6.length : Int) then (if ((rdOf false x6 x8) != (rdOf false x7 x8)) = true then (none) else (if x8 < (x5.length : Int) then ((truantref09_Ahead.f k x395000 x395001 x395002 x395003 x395004 x395005 x8).bind fun t423 => ((truantlaw09_same.f k (rd_L2 x5 x8) t423).bind fun t426 => (if t426 = true then (truantlaw09_FlowExact.l0 k x5 x6 x7 (wrap64 (x8 + 1)) x395000 x395001 x395002 x395003 x395004 x395005) else (none)))) else (none))) else (none)) else (none)) else (some true)
def truantlaw09_FlowExact.f (k : Nat) (a0_0 : ByteArray) (l0_1 : List ByteArray) (a0_2 : ByteArray) (l0_3 : List ByteArray) (l0_4 : List (S58)) (l0_5 : List (S40)) (a1 : Int) : Option (Bool) := (truantlaw09_awake.f k).bind fun t395 => (if t395 = true then ((truantlaw09_wide.f k a0_0 l0_1 a0_2 l0_3 l0_4 l0_5).bind fun t396 => (if t396 = true then (some true) else ((flow_Ahead.f k a0_0 l0_1 a0_2 l0_3 l0_4 l0_5).bind fun t397 => ((flow_Reached.f a0_0 l0_1 a0_2 l0_3 l0_4 l0_5).bind fun t400 => ((truantref09_Reached.f k a0_0 l0_1 a0_2 l0_3 l0_4 l0_5).bind fun t403 => (if (t397.length : Int) = (l0_5.length : Int) then (if (t400.length : Int) = (t403.length : Int) then ((flow_Next.f a0_0 l0_1 a0_2 l0_3 l0_4 l0_5 a1).bind fun t406 => ((truantref09_Next.f k a0_0 l0_1 a0_2 l0_3 l0_4 l0_5 a1).bind fun t409 => ((truantlaw09_same.f k t406 t409).bind fun t412 => (if t412 = true then ((flow_Order.f a0_0 l0_1 a0_2 l0_3 l0_4 l0_5).bind fun t413 => ((truantref09_Order.f k a0_0 l0_1 a0_2 l0_3 l0_4 l0_5).bind fun t416 => ((truantlaw09_same.f k t413 t416).bind fun t419 => (if t419 = true then (truantlaw09_FlowExact.l0 k t397 t400 t403 0 a0_0 l0_1 a0_2 l0_3 l0_4 l0_5) else (none))))) else (none))))) else (none)) else (none))))))) else (none))
theorem truantlaw09_FlowExact.mono_l : ∀ k, (∀ y0 y1 y2 y3 y4 y5 y6 y7 y8 y9, LeO (truantlaw09_FlowExact.l0 k y0 y1 y2 y3 y4 y5 y6 y7 y8 y9) (truantlaw09_FlowExact.l0 (k + 1) y0 y1 y2 y3 y4 y5 y6 y7 y8 y9))
 | 0 => fun _ _ _ _ _ _ _ _ _ _ r h => by simp [truantlaw09_FlowExact.l0] at h
 | k + 1 => by
  have ih0 := truantlaw09_FlowExact.mono_l k
  ·intro y0 y1 y2 y3 y4 y5 y6 y7 y8 y9
   unfold truantlaw09_FlowExact.l0
   repeat' first
   | (with_reducible exact ih0 _ _ _ _ _ _ _ _ _ _)
   | (with_reducible exact flow_Ahead.mono _ _ _ _ _ _ _)
   | (with_reducible exact truantlaw09_awake.mono _)
   | (with_reducible exact truantlaw09_same.mono _ _ _)
   | (with_reducible exact truantlaw09_wide.mono _ _ _ _ _ _ _)
   | (with_reducible exact truantref09_Ahead.mono _ _ _ _ _ _ _ _)
   | (with_reducible exact truantref09_Next.mono _ _ _ _ _ _ _ _)
   | (with_reducible exact truantref09_Order.mono _ _ _ _ _ _ _)
   | (with_reducible exact truantref09_Reached.mono _ _ _ _ _ _ _)
   | (with_reducible exact LeO.refl _)
   | (with_reducible exact LeO.none _)
   | (with_reducible refine LeO.ite ?_ ?_)
   | (with_reducible refine LeO.bind ?_ (fun _ => ?_))
   | exact ih0 _ _ _ _ _ _ _ _ _ _
   | exact flow_Ahead.mono _ _ _ _ _ _ _
   | exact truantlaw09_awake.mono _
   | exact truantlaw09_same.mono _ _ _
   | exact truantlaw09_wide.mono _ _ _ _ _ _ _
   | exact truantref09_Ahead.mono _ _ _ _ _ _ _ _
   | exact truantref09_Next.mono _ _ _ _ _ _ _ _
   | exact truantref09_Order.mono _ _ _ _ _ _ _
   | exact truantref09_Reached.mono _ _ _ _ _ _ _
   | exact LeO.none _
   | refine LeO.ite ?_ ?_
   | refine LeO.bind ?_ (fun _ => ?_)
theorem truantlaw09_FlowExact.mono : ∀ a0 a1 a2 a3 a4 a5 a6 k, LeO (truantlaw09_FlowExact.f k a0 a1 a2 a3 a4 a5 a6) (truantlaw09_FlowExact.f (k + 1) a0 a1 a2 a3 a4 a5 a6) := by
 intro a0 a1 a2 a3 a4 a5 a6 k
 have ih0 := truantlaw09_FlowExact.mono_l k
 unfold truantlaw09_FlowExact.f
 repeat' first
   | (with_reducible exact ih0 _ _ _ _ _ _ _ _ _ _)
   | (with_reducible exact flow_Ahead.mono _ _ _ _ _ _ _)
   | (with_reducible exact truantlaw09_awake.mono _)
   | (with_reducible exact truantlaw09_same.mono _ _ _)
   | (with_reducible exact truantlaw09_wide.mono _ _ _ _ _ _ _)
   | (with_reducible exact truantref09_Ahead.mono _ _ _ _ _ _ _ _)
   | (with_reducible exact truantref09_Next.mono _ _ _ _ _ _ _ _)
   | (with_reducible exact truantref09_Order.mono _ _ _ _ _ _ _)
   | (with_reducible exact truantref09_Reached.mono _ _ _ _ _ _ _)
   | (with_reducible exact LeO.refl _)
   | (with_reducible exact LeO.none _)
   | (with_reducible refine LeO.ite ?_ ?_)
   | (with_reducible refine LeO.bind ?_ (fun _ => ?_))
   | exact ih0 _ _ _ _ _ _ _ _ _ _
   | exact flow_Ahead.mono _ _ _ _ _ _ _
   | exact truantlaw09_awake.mono _
   | exact truantlaw09_same.mono _ _ _
   | exact truantlaw09_wide.mono _ _ _ _ _ _ _
   | exact truantref09_Ahead.mono _ _ _ _ _ _ _ _
   | exact truantref09_Next.mono _ _ _ _ _ _ _ _
   | exact truantref09_Order.mono _ _ _ _ _ _ _
   | exact truantref09_Reached.mono _ _ _ _ _ _ _
   | exact LeO.none _
   | refine LeO.ite ?_ ?_
   | refine LeO.bind ?_ (fun _ => ?_)
def truantlaw09_FlowExact.T8 : Bool × List (List Nat × List Nat) := (true, [([], []), ([0], [0]), ([], []), ([2], [2]), ([3], [3]), ([1, 4], [1, 4]), ([5], [5]), ([6], [6]), ([7, 6], [6, 7]), ([6], [6]), ([9, 6], [6, 9]), ([8, 10, 6], [6, 8, 10]), ([6, 11], [6, 11]), ([12, 6], [12]), ([13], [13]), ([13], [13]), ([14, 15, 13, 13], [13, 14, 15]), ([13], [13]), ([13], [13]), ([17, 18, 16, 13], [13, 17, 18]), ([16, 19, 19, 13], [13, 16, 19]), ([20, 13], [13, 20]), ([13, 21], [13, 21]), ([22, 20], [22]), ([23], [23]), ([24, 23, 23], [23, 24]), ([23], [23]), ([26, 25, 23], [23, 26]), ([25, 27, 27, 23], [23, 25, 27]), ([28, 23], [23, 28]), ([23, 29], [23, 29])])
def truantlaw09_FlowExact.B8 : List Nat := [0, 1, 0, 4, 12, 31, 63, 127, 255, 127, 639, 2047, 4095, 8191, 16383, 16383, 65535, 16383, 16383, 524287, 1048575, 2097151, 4194303, 8388607, 16777215, 33554431, 16777215, 134217727, 268435455, 536870911, 1073741823]
theorem truantlaw09_FlowExact.tab8 : rtab .any (opsOf Try.f3 8) = truantlaw09_FlowExact.T8 := by kernel_rfl
theorem truantlaw09_FlowExact.bits8 : waitsOk truantlaw09_FlowExact.T8.2 truantlaw09_FlowExact.B8 = true := by kernel_rfl
def truantlaw09_FlowExact.T13 : Bool × List (List Nat × List Nat) := (true, [([], []), ([], []), ([0, 1], [0, 1]), ([2], [2]), ([], []), ([], []), ([4, 5], [4, 5]), ([6], [6]), ([3, 7], [3, 7]), ([8], [8]), ([9], [9]), ([9], [9]), ([10, 11, 9], [9, 10, 11]), ([12, 9], [9, 12]), ([9], [9]), ([9], [9]), ([14, 15, 9, 9], [9, 14, 15]), ([13, 16, 16, 9], [9, 13, 16]), ([17, 9], [9, 17]), ([9, 18], [9, 18])])
def truantlaw09_FlowExact.B13 : List Nat := [0, 0, 3, 7, 0, 0, 48, 112, 255, 511, 1023, 1023, 4095, 8191, 1023, 1023, 50175, 131071, 262143, 524287]
theorem truantlaw09_FlowExact.tab13 : rtab .any (opsOf Try.f3 13) = truantlaw09_FlowExact.T13 := by kernel_rfl
theorem truantlaw09_FlowExact.bits13 : waitsOk truantlaw09_FlowExact.T13.2 truantlaw09_FlowExact.B13 = true := by kernel_rfl
set_option maxHeartbeats 8000000 in
set_option maxRecDepth 100000 in
theorem truantlaw09_FlowExact.calls (k : Nat) (a0_0 : ByteArray) (A0_1 : Option Addr) (c0_1 : Nat) (l0_1 : List ByteArray) (a0_2 : ByteArray) (A0_3 : Option Addr) (c0_3 : Nat) (l0_3 : List ByteArray) (A0_4 : Option Addr) (c0_4 : Nat) (l0_4 : List (S58)) (A0_5 : Option Addr) (c0_5 : Nat) (l0_5 : List (S40)) (a1 : Int) (r : Bool) (w : World) (hr0_1 : Kd.C Kd.string w A0_1 l0_1.length l0_1) (hc0_1 : l0_1.length ≤ c0_1) (hr0_3 : Kd.C Kd.string w A0_3 l0_3.length l0_3) (hc0_3 : l0_3.length ≤ c0_3) (hr0_4 : Kd.C k58 w A0_4 l0_4.length l0_4) (hc0_4 : l0_4.length ≤ c0_4) (hr0_5 : Kd.C k40 w A0_5 l0_5.length l0_5) (hc0_5 : l0_5.length ≤ c0_5) (h : truantlaw09_FlowExact.f k a0_0 l0_1 a0_2 l0_3 l0_4 l0_5 a1 = some r) :
  Calls Try.prog 3 #[.agg #[.string a0_0, .slice A0_1 l0_1.length c0_1, .string a0_2, .slice A0_3 l0_3.length c0_3, .slice A0_4 l0_4.length c0_4, .slice A0_5 l0_5.length c0_5], .int .i64 a1] w fun e w' => e = .returned (.bool r) ∧ Below w.heap.size w w' := by
 have hu26 := Try.underlying26
 have HR0_1 := Aside0.mk hr0_1
 have HC0_1 := Aside0.mk hc0_1
 clear hr0_1 hc0_1
 have HR0_3 := Aside0.mk hr0_3
 have HC0_3 := Aside0.mk hc0_3
 clear hr0_3 hc0_3
 have HR0_4 := Aside0.mk hr0_4
 have HC0_4 := Aside0.mk hc0_4
 clear hr0_4 hc0_4
 have HR0_5 := Aside0.mk hr0_5
 have HC0_5 := Aside0.mk hc0_5
 clear hr0_5 hc0_5
 have HB := Aside0.mk (Below.refl w.heap.size w)
 have H : ((truantlaw09_awake.f k).bind fun t395 => (if t395 = true then ((truantlaw09_wide.f k a0_0 l0_1 a0_2 l0_3 l0_4 l0_5).bind fun t396 => (if t396 = true then (some true) else ((flow_Ahead.f k a0_0 l0_1 a0_2 l0_3 l0_4 l0_5).bind fun t397 => ((flow_Reached.f a0_0 l0_1 a0_2 l0_3 l0_4 l0_5).bind fun t400 => ((truantref09_Reached.f k a0_0 l0_1 a0_2 l0_3 l0_4 l0_5).bind fun t403 => (if (t397.length : Int) = (l0_5.length : Int) then (if (t400.length : Int) = (t403.length : Int) then ((flow_Next.f a0_0 l0_1 a0_2 l0_3 l0_4 l0_5 a1).bind fun t406 => ((truantref09_Next.f k a0_0 l0_1 a0_2 l0_3 l0_4 l0_5 a1).bind fun t409 => ((truantlaw09_same.f k t406 t409).bind fun t412 => (if t412 = true then ((flow_Order.f a0_0 l0_1 a0_2 l0_3 l0_4 l0_5).bind fun t413 => ((truantref09_Order.f k a0_0 l0_1 a0_2 l0_3 l0_4 l0_5).bind fun t416 => ((truantlaw09_same.f k t413 t416).bind fun t419 => (if t419 = true then (truantlaw09_FlowExact.l0 k t397 t400 t403 0 a0_0 l0_1 a0_2 l0_3 l0_4 l0_5) else (none))))) else (none))))) else (none)) else (none))))))) else (none))) = some r := h
 clear h
 replace H := Option.bind_eq_some_iff.mp H
 obtain ⟨t395, A30, H⟩ := H
 replace H : (if t395 = true then ((truantlaw09_wide.f k a0_0 l0_1 a0_2 l0_3 l0_4 l0_5).bind fun t396 => (if t396 = true then (some true) else ((flow_Ahead.f k a0_0 l0_1 a0_2 l0_3 l0_4 l0_5).bind fun t397 => ((flow_Reached.f a0_0 l0_1 a0_2 l0_3 l0_4 l0_5).bind fun t400 => ((truantref09_Reached.f k a0_0 l0_1 a0_2 l0_3 l0_4 l0_5).bind fun t403 => (if (t397.length : Int) = (l0_5.length : Int) then (if (t400.length : Int) = (t403.length : Int) then ((flow_Next.f a0_0 l0_1 a0_2 l0_3 l0_4 l0_5 a1).bind fun t406 => ((truantref09_Next.f k a0_0 l0_1 a0_2 l0_3 l0_4 l0_5 a1).bind fun t409 => ((truantlaw09_same.f k t406 t409).bind fun t412 => (if t412 = true then ((flow_Order.f a0_0 l0_1 a0_2 l0_3 l0_4 l0_5).bind fun t413 => ((truantref09_Order.f k a0_0 l0_1 a0_2 l0_3 l0_4 l0_5).bind fun t416 => ((truantlaw09_same.f k t413 t416).bind fun t419 => (if t419 = true then (truantlaw09_FlowExact.l0 k t397 t400 t403 0 a0_0 l0_1 a0_2 l0_3 l0_4 l0_5) else (none))))) else (none))))) else (none)) else (none))))))) else (none)) = some r := H
 have A3 := Aside0.mk A30
 clear A30
 by_cases c4 : t395 = true
 ·subst c4
  have H1 : ((truantlaw09_wide.f k a0_0 l0_1 a0_2 l0_3 l0_4 l0_5).bind fun t396 => (if t396 = true then (some true) else ((flow_Ahead.f k a0_0 l0_1 a0_2 l0_3 l0_4 l0_5).bind fun t397 => ((flow_Reached.f a0_0 l0_1 a0_2 l0_3 l0_4 l0_5).bind fun t400 => ((truantref09_Reached.f k a0_0 l0_1 a0_2 l0_3 l0_4 l0_5).bind fun t403 => (if (t397.length : Int) = (l0_5.length : Int) then (if (t400.length : Int) = (t403.length : Int) then ((flow_Next.f a0_0 l0_1 a0_2 l0_3 l0_4 l0_5 a1).bind fun t406 => ((truantref09_Next.f k a0_0 l0_1 a0_2 l0_3 l0_4 l0_5 a1).bind fun t409 => ((truantlaw09_same.f k t406 t409).bind fun t412 => (if t412 = true then ((flow_Order.f a0_0 l0_1 a0_2 l0_3 l0_4 l0_5).bind fun t413 => ((truantref09_Order.f k a0_0 l0_1 a0_2 l0_3 l0_4 l0_5).bind fun t416 => ((truantlaw09_same.f k t413 t416).bind fun t419 => (if t419 = true then (truantlaw09_FlowExact.l0 k t397 t400 t403 0 a0_0 l0_1 a0_2 l0_3 l0_4 l0_5) else (none))))) else (none))))) else (none)) else (none))))))) = some r := by rw [if_pos rfl] at H; exact H
  clear H
  have H := H1
  clear H1
  replace H := Option.bind_eq_some_iff.mp H
  obtain ⟨t396, A50, H⟩ := H
  replace H : (if t396 = true then (some true) else ((flow_Ahead.f k a0_0 l0_1 a0_2 l0_3 l0_4 l0_5).bind fun t397 => ((flow_Reached.f a0_0 l0_1 a0_2 l0_3 l0_4 l0_5).bind fun t400 => ((truantref09_Reached.f k a0_0 l0_1 a0_2 l0_3 l0_4 l0_5).bind fun t403 => (if (t397.length : Int) = (l0_5.length : Int) then (if (t400.length : Int) = (t403.length : Int) then ((flow_Next.f a0_0 l0_1 a0_2 l0_3 l0_4 l0_5 a1).bind fun t406 => ((truantref09_Next.f k a0_0 l0_1 a0_2 l0_3 l0_4 l0_5 a1).bind fun t409 => ((truantlaw09_same.f k t406 t409).bind fun t412 => (if t412 = true then ((flow_Order.f a0_0 l0_1 a0_2 l0_3 l0_4 l0_5).bind fun t413 => ((truantref09_Order.f k a0_0 l0_1 a0_2 l0_3 l0_4 l0_5).bind fun t416 => ((truantlaw09_same.f k t413 t416).bind fun t419 => (if t419 = true then (truantlaw09_FlowExact.l0 k t397 t400 t403 0 a0_0 l0_1 a0_2 l0_3 l0_4 l0_5) else (none))))) else (none))))) else (none)) else (none)))))) = some r := H
  have A5 := Aside0.mk A50
  clear A50
  by_cases c6 : t396 = true
  ·subst c6
   have H1 : (some true) = some r := by rw [if_pos rfl] at H; exact H
   clear H
   have H := H1
   clear H1
   obtain rfl := Option.some.inj H
   go_enter Try.func3, Try.ntmps3
   go_wp2_with (first | ((with_reducible refine gate_dst (N := 2) rfl ?_); (try (refine gate_guard (by rfl) ?_; dsimp only)); refine box_event ?hg (N := 2) ?hd (cs := #[.string a0_0, .slice A0_1 l0_1.length c0_1, .string a0_2, .slice A0_3 l0_3.length c0_3, .slice A0_4 l0_4.length c0_4, .slice A0_5 l0_5.length c0_5]) (t := 26) ?hr ?_; (case hd => rfl); (case hg => rfl); (case hr => first | (go_simp; done) | (go_simp; rfl)); intro gb394 hg w7 hbox hb; have n0_ := Aside0.mk (below_step (by repeat (first | (with_reducible first | exact HB.out | apply below_alloc | apply pw_below_drewN | apply below_drew1) | exact HB.out)) hb); have n1_ := Aside0.mk (hbox); have n2_ := Aside0.mk ((by rw [hg]; exact (below_size (by repeat (first | (with_reducible first | exact HB.out | apply below_alloc | apply pw_below_drewN | apply below_drew1) | exact HB.out))) : w.heap.size ≤ gb394)); have n3_ := Aside0.mk ((by rw [hg]; exact (below_size (by repeat (first | (with_reducible first | exact HB.out | apply below_alloc | apply pw_below_drewN | apply below_drew1) | exact HB.out))) : w.heap.size ≤ gb394)); clear HB; have HB := n0_; have BK394 := n1_; have GW394 := n2_; have GE394 := n3_; clear n0_ n1_ n2_ n3_; clear hb hbox hg) | ((with_reducible refine gate_callee (f := 14) rfl ?_); refine goesL_ (some 9) rfl rfl Try.func14 (by kernel_rfl) rfl #[] rfl (by (try simp only [List.map_toArray, List.map_cons, List.map_nil]); first | done | rfl | (simp only [List.length_drop, List.length_take]; rfl)) ?_; (with_reducible refine (truantlaw09_awake.calls k  true _ A3.out).mono ?_); rintro e w8 ⟨rfl, hb⟩; refine ⟨_, rfl, ?_⟩; have n0_ := Aside0.mk (blk_below (g := gb394) (o := .cells #[.string a0_0, .slice A0_1 l0_1.length c0_1, .string a0_2, .slice A0_3 l0_3.length c0_3, .slice A0_4 l0_4.length c0_4, .slice A0_5 l0_5.length c0_5] 26 (0, 0)) (by (with_reducible repeat (first | refine blk_drewN ?_ _ | refine blk_drew ?_ | refine blk_alloc ?_ _)); exact BK394.out) hb); have n1_ := Aside0.mk (below_step (by repeat (first | (with_reducible first | exact HB.out | apply below_alloc | apply pw_below_drewN | apply below_drew1 | refine below_set ?_ GE394.out) | exact HB.out)) hb); clear BK394; clear HB; have BK394 := n0_; have HB := n1_; clear n0_ n1_; (try clear hb); (try clear hb2); (try clear hk); (try clear hi); have hcz9_0 : w8.cell? ⟨gb394, 0, none⟩ = some (.string a0_0) := (blk_cell BK394.out 0).trans rfl; have hcz9_1 : w8.cell? ⟨gb394, 1, none⟩ = some (.slice A0_1 l0_1.length c0_1) := (blk_cell BK394.out 1).trans rfl; have hcz9_2 : w8.cell? ⟨gb394, 2, none⟩ = some (.string a0_2) := (blk_cell BK394.out 2).trans rfl; have hcz9_3 : w8.cell? ⟨gb394, 3, none⟩ = some (.slice A0_3 l0_3.length c0_3) := (blk_cell BK394.out 3).trans rfl; have hcz9_4 : w8.cell? ⟨gb394, 4, none⟩ = some (.slice A0_4 l0_4.length c0_4) := (blk_cell BK394.out 4).trans rfl; have hcz9_5 : w8.cell? ⟨gb394, 5, none⟩ = some (.slice A0_5 l0_5.length c0_5) := (blk_cell BK394.out 5).trans rfl; have hfz9_0 := blk_frozen BK394.out 0; have hfz9_1 := blk_frozen BK394.out 1; have hfz9_2 := blk_frozen BK394.out 2; have hfz9_3 := blk_frozen BK394.out 3; have hfz9_4 := blk_frozen BK394.out 4; have hfz9_5 := blk_frozen BK394.out 5) | ((with_reducible refine gate_callee (f := 15) rfl ?_); refine goesL_ (some 12) rfl rfl Try.func15 (by kernel_rfl) rfl #[.agg #[.string a0_0, .slice A0_1 l0_1.length c0_1, .string a0_2, .slice A0_3 l0_3.length c0_3, .slice A0_4 l0_4.length c0_4, .slice A0_5 l0_5.length c0_5]] rfl (by (try simp only [List.map_toArray, List.map_cons, List.map_nil]); first | done | rfl | (simp only [List.length_drop, List.length_take]; rfl)) ?_; (with_reducible refine (truantlaw09_wide.calls k a0_0 _ _ l0_1 a0_2 _ _ l0_3 _ _ l0_4 _ _ l0_5 true _ ?side1 ?side2 ?side3 ?side4 ?side5 ?side6 ?side7 ?side8 A5.out).mono ?_); (case side1 => repeat (first | exact (Kd.C_below HR0_1.out HB.out) | (with_reducible refine Kd.C_alloc ?_ _) | (with_reducible refine Kd.C_drewN ?_ _) | (with_reducible refine Kd.C_drew ?_))); (case side2 => exact HC0_1.out); (case side3 => repeat (first | exact (Kd.C_below HR0_3.out HB.out) | (with_reducible refine Kd.C_alloc ?_ _) | (with_reducible refine Kd.C_drewN ?_ _) | (with_reducible refine Kd.C_drew ?_))); (case side4 => exact HC0_3.out); (case side5 => repeat (first | exact (Kd.C_below HR0_4.out HB.out) | (with_reducible refine Kd.C_alloc ?_ _) | (with_reducible refine Kd.C_drewN ?_ _) | (with_reducible refine Kd.C_drew ?_))); (case side6 => exact HC0_4.out); (case side7 => repeat (first | exact (Kd.C_below HR0_5.out HB.out) | (with_reducible refine Kd.C_alloc ?_ _) | (with_reducible refine Kd.C_drewN ?_ _) | (with_reducible refine Kd.C_drew ?_))); (case side8 => exact HC0_5.out); rintro e w10 ⟨rfl, hb⟩; refine ⟨_, rfl, ?_⟩; have n0_ := Aside0.mk (blk_below (g := gb394) (o := .cells #[.string a0_0, .slice A0_1 l0_1.length c0_1, .string a0_2, .slice A0_3 l0_3.length c0_3, .slice A0_4 l0_4.length c0_4, .slice A0_5 l0_5.length c0_5] 26 (0, 0)) (by (with_reducible repeat (first | refine blk_drewN ?_ _ | refine blk_drew ?_ | refine blk_alloc ?_ _)); exact BK394.out) hb); have n1_ := Aside0.mk (below_step (by repeat (first | (with_reducible first | exact HB.out | apply below_alloc | apply pw_below_drewN | apply below_drew1 | refine below_set ?_ GE394.out) | exact HB.out)) hb); clear BK394; clear HB; have BK394 := n0_; have HB := n1_; clear n0_ n1_; (try clear hb); (try clear hb2); (try clear hk); (try clear hi)))
   go_ret
   exact ⟨by first | rfl | (simp [errW_none, errW_some] <;> rfl) | (simp [*, errW_none, errW_some] <;> rfl), by repeat (first | (with_reducible first | exact HB.out | apply below_alloc | apply pw_below_drewN | apply below_drew1 | refine below_set ?_ GE394.out) | exact HB.out)⟩
  ·replace c6 := Bool.eq_false_iff.mpr c6
   subst c6
   have H1 : ((flow_Ahead.f k a0_0 l0_1 a0_2 l0_3 l0_4 l0_5).bind fun t397 => ((flow_Reached.f a0_0 l0_1 a0_2 l0_3 l0_4 l0_5).bind fun t400 => ((truantref09_Reached.f k a0_0 l0_1 a0_2 l0_3 l0_4 l0_5).bind fun t403 => (if (t397.length : Int) = (l0_5.length : Int) then (if (t400.length : Int) = (t403.length : Int) then ((flow_Next.f a0_0 l0_1 a0_2 l0_3 l0_4 l0_5 a1).bind fun t406 => ((truantref09_Next.f k a0_0 l0_1 a0_2 l0_3 l0_4 l0_5 a1).bind fun t409 => ((truantlaw09_same.f k t406 t409).bind fun t412 => (if t412 = true then ((flow_Order.f a0_0 l0_1 a0_2 l0_3 l0_4 l0_5).bind fun t413 => ((truantref09_Order.f k a0_0 l0_1 a0_2 l0_3 l0_4 l0_5).bind fun t416 => ((truantlaw09_same.f k t413 t416).bind fun t419 => (if t419 = true then (truantlaw09_FlowExact.l0 k t397 t400 t403 0 a0_0 l0_1 a0_2 l0_3 l0_4 l0_5) else (none))))) else (none))))) else (none)) else (none))))) = some r := by rw [if_neg (show ¬ (false = true) by decide)] at H; exact H
   clear H
   have H := H1
   clear H1
   replace H := Option.bind_eq_some_iff.mp H
   obtain ⟨t397, A110, H⟩ := H
   replace H : ((flow_Reached.f a0_0 l0_1 a0_2 l0_3 l0_4 l0_5).bind fun t400 => ((truantref09_Reached.f k a0_0 l0_1 a0_2 l0_3 l0_4 l0_5).bind fun t403 => (if (t397.length : Int) = (l0_5.length : Int) then (if (t400.length : Int) = (t403.length : Int) then ((flow_Next.f a0_0 l0_1 a0_2 l0_3 l0_4 l0_5 a1).bind fun t406 => ((truantref09_Next.f k a0_0 l0_1 a0_2 l0_3 l0_4 l0_5 a1).bind fun t409 => ((truantlaw09_same.f k t406 t409).bind fun t412 => (if t412 = true then ((flow_Order.f a0_0 l0_1 a0_2 l0_3 l0_4 l0_5).bind fun t413 => ((truantref09_Order.f k a0_0 l0_1 a0_2 l0_3 l0_4 l0_5).bind fun t416 => ((truantlaw09_same.f k t413 t416).bind fun t419 => (if t419 = true then (truantlaw09_FlowExact.l0 k t397 t400 t403 0 a0_0 l0_1 a0_2 l0_3 l0_4 l0_5) else (none))))) else (none))))) else (none)) else (none)))) = some r := H
   have A11 := Aside0.mk A110
   clear A110
   replace H := Option.bind_eq_some_iff.mp H
   obtain ⟨t400, A120, H⟩ := H
   replace H : ((truantref09_Reached.f k a0_0 l0_1 a0_2 l0_3 l0_4 l0_5).bind fun t403 => (if (t397.length : Int) = (l0_5.length : Int) then (if (t400.length : Int) = (t403.length : Int) then ((flow_Next.f a0_0 l0_1 a0_2 l0_3 l0_4 l0_5 a1).bind fun t406 => ((truantref09_Next.f k a0_0 l0_1 a0_2 l0_3 l0_4 l0_5 a1).bind fun t409 => ((truantlaw09_same.f k t406 t409).bind fun t412 => (if t412 = true then ((flow_Order.f a0_0 l0_1 a0_2 l0_3 l0_4 l0_5).bind fun t413 => ((truantref09_Order.f k a0_0 l0_1 a0_2 l0_3 l0_4 l0_5).bind fun t416 => ((truantlaw09_same.f k t413 t416).bind fun t419 => (if t419 = true then (truantlaw09_FlowExact.l0 k t397 t400 t403 0 a0_0 l0_1 a0_2 l0_3 l0_4 l0_5) else (none))))) else (none))))) else (none)) else (none))) = some r := H
   have A12 := Aside0.mk A120
   clear A120
   replace H := Option.bind_eq_some_iff.mp H
   obtain ⟨t403, A130, H⟩ := H
   replace H : (if (t397.length : Int) = (l0_5.length : Int) then (if (t400.length : Int) = (t403.length : Int) then ((flow_Next.f a0_0 l0_1 a0_2 l0_3 l0_4 l0_5 a1).bind fun t406 => ((truantref09_Next.f k a0_0 l0_1 a0_2 l0_3 l0_4 l0_5 a1).bind fun t409 => ((truantlaw09_same.f k t406 t409).bind fun t412 => (if t412 = true then ((flow_Order.f a0_0 l0_1 a0_2 l0_3 l0_4 l0_5).bind fun t413 => ((truantref09_Order.f k a0_0 l0_1 a0_2 l0_3 l0_4 l0_5).bind fun t416 => ((truantlaw09_same.f k t413 t416).bind fun t419 => (if t419 = true then (truantlaw09_FlowExact.l0 k t397 t400 t403 0 a0_0 l0_1 a0_2 l0_3 l0_4 l0_5) else (none))))) else (none))))) else (none)) else (none)) = some r := H
   have A13 := Aside0.mk A130
   clear A130
   by_cases c14 : (t397.length : Int) = (l0_5.length : Int)
   ·rw [if_pos c14] at H
    have c14b0 : ((t397.length : Int) == (l0_5.length : Int)) = true := beq_iff_eq.mpr c14
    have c14b1 : ((t397.length : Int) != (l0_5.length : Int)) = false := bne_eq_false_iff_eq.mpr c14
    have c14b2 : (t397.length == l0_5.length) = true := by first | simpa using c14 | (simp at c14 ⊢; omega)
    clear c14
    by_cases c15 : (t400.length : Int) = (t403.length : Int)
    ·rw [if_pos c15] at H
     have c15b0 : ((t400.length : Int) == (t403.length : Int)) = true := beq_iff_eq.mpr c15
     have c15b1 : ((t400.length : Int) != (t403.length : Int)) = false := bne_eq_false_iff_eq.mpr c15
     have c15b2 : (t400.length == t403.length) = true := by first | simpa using c15 | (simp at c15 ⊢; omega)
     clear c15
     replace H := Option.bind_eq_some_iff.mp H
     obtain ⟨t406, A160, H⟩ := H
     replace H : ((truantref09_Next.f k a0_0 l0_1 a0_2 l0_3 l0_4 l0_5 a1).bind fun t409 => ((truantlaw09_same.f k t406 t409).bind fun t412 => (if t412 = true then ((flow_Order.f a0_0 l0_1 a0_2 l0_3 l0_4 l0_5).bind fun t413 => ((truantref09_Order.f k a0_0 l0_1 a0_2 l0_3 l0_4 l0_5).bind fun t416 => ((truantlaw09_same.f k t413 t416).bind fun t419 => (if t419 = true then (truantlaw09_FlowExact.l0 k t397 t400 t403 0 a0_0 l0_1 a0_2 l0_3 l0_4 l0_5) else (none))))) else (none)))) = some r := H
     have A16 := Aside0.mk A160
     clear A160
     replace H := Option.bind_eq_some_iff.mp H
     obtain ⟨t409, A170, H⟩ := H
     replace H : ((truantlaw09_same.f k t406 t409).bind fun t412 => (if t412 = true then ((flow_Order.f a0_0 l0_1 a0_2 l0_3 l0_4 l0_5).bind fun t413 => ((truantref09_Order.f k a0_0 l0_1 a0_2 l0_3 l0_4 l0_5).bind fun t416 => ((truantlaw09_same.f k t413 t416).bind fun t419 => (if t419 = true then (truantlaw09_FlowExact.l0 k t397 t400 t403 0 a0_0 l0_1 a0_2 l0_3 l0_4 l0_5) else (none))))) else (none))) = some r := H
     have A17 := Aside0.mk A170
     clear A170
     replace H := Option.bind_eq_some_iff.mp H
     obtain ⟨t412, A180, H⟩ := H
     replace H : (if t412 = true then ((flow_Order.f a0_0 l0_1 a0_2 l0_3 l0_4 l0_5).bind fun t413 => ((truantref09_Order.f k a0_0 l0_1 a0_2 l0_3 l0_4 l0_5).bind fun t416 => ((truantlaw09_same.f k t413 t416).bind fun t419 => (if t419 = true then (truantlaw09_FlowExact.l0 k t397 t400 t403 0 a0_0 l0_1 a0_2 l0_3 l0_4 l0_5) else (none))))) else (none)) = some r := H
     have A18 := Aside0.mk A180
     clear A180
     by_cases c19 : t412 = true
     ·subst c19
      have H1 : ((flow_Order.f a0_0 l0_1 a0_2 l0_3 l0_4 l0_5).bind fun t413 => ((truantref09_Order.f k a0_0 l0_1 a0_2 l0_3 l0_4 l0_5).bind fun t416 => ((truantlaw09_same.f k t413 t416).bind fun t419 => (if t419 = true then (truantlaw09_FlowExact.l0 k t397 t400 t403 0 a0_0 l0_1 a0_2 l0_3 l0_4 l0_5) else (none))))) = some r := by rw [if_pos rfl] at H; exact H
      clear H
      have H := H1
      clear H1
      replace H := Option.bind_eq_some_iff.mp H
      obtain ⟨t413, A200, H⟩ := H
      replace H : ((truantref09_Order.f k a0_0 l0_1 a0_2 l0_3 l0_4 l0_5).bind fun t416 => ((truantlaw09_same.f k t413 t416).bind fun t419 => (if t419 = true then (truantlaw09_FlowExact.l0 k t397 t400 t403 0 a0_0 l0_1 a0_2 l0_3 l0_4 l0_5) else (none)))) = some r := H
      have A20 := Aside0.mk A200
      clear A200
      replace H := Option.bind_eq_some_iff.mp H
      obtain ⟨t416, A210, H⟩ := H
      replace H : ((truantlaw09_same.f k t413 t416).bind fun t419 => (if t419 = true then (truantlaw09_FlowExact.l0 k t397 t400 t403 0 a0_0 l0_1 a0_2 l0_3 l0_4 l0_5) else (none))) = some r := H
      have A21 := Aside0.mk A210
      clear A210
      replace H := Option.bind_eq_some_iff.mp H
      obtain ⟨t419, A220, H⟩ := H
      replace H : (if t419 = true then (truantlaw09_FlowExact.l0 k t397 t400 t403 0 a0_0 l0_1 a0_2 l0_3 l0_4 l0_5) else (none)) = some r := H
      have A22 := Aside0.mk A220
      clear A220
      by_cases c23 : t419 = true
      ·subst c23
       have H1 : (truantlaw09_FlowExact.l0 k t397 t400 t403 0 a0_0 l0_1 a0_2 l0_3 l0_4 l0_5) = some r := by rw [if_pos rfl] at H; exact H
       clear H
       have H := H1
       clear H1
       have H' := Aside0.mk H
       clear H
       go_enter Try.func3, Try.ntmps3
       try go_wp2_with (first | ((with_reducible refine gate_dst (N := 2) rfl ?_); (try (refine gate_guard (by rfl) ?_; dsimp only)); refine box_event ?hg (N := 2) ?hd (cs := #[.string a0_0, .slice A0_1 l0_1.length c0_1, .string a0_2, .slice A0_3 l0_3.length c0_3, .slice A0_4 l0_4.length c0_4, .slice A0_5 l0_5.length c0_5]) (t := 26) ?hr ?_; (case hd => rfl); (case hg => rfl); (case hr => first | (go_simp; done) | (go_simp; rfl)); intro gb394 hg w24 hbox hb; have n0_ := Aside0.mk (below_step (by repeat (first | (with_reducible first | exact HB.out | apply below_alloc | apply pw_below_drewN | apply below_drew1) | exact HB.out)) hb); have n1_ := Aside0.mk (hbox); have n2_ := Aside0.mk ((by rw [hg]; exact (below_size (by repeat (first | (with_reducible first | exact HB.out | apply below_alloc | apply pw_below_drewN | apply below_drew1) | exact HB.out))) : w.heap.size ≤ gb394)); have n3_ := Aside0.mk ((by rw [hg]; exact (below_size (by repeat (first | (with_reducible first | exact HB.out | apply below_alloc | apply pw_below_drewN | apply below_drew1) | exact HB.out))) : w.heap.size ≤ gb394)); clear HB; have HB := n0_; have BK394 := n1_; have GW394 := n2_; have GE394 := n3_; clear n0_ n1_ n2_ n3_; clear hb hbox hg) | ((with_reducible refine gate_callee (f := 14) rfl ?_); refine goesL_ (some 9) rfl rfl Try.func14 (by kernel_rfl) rfl #[] rfl (by (try simp only [List.map_toArray, List.map_cons, List.map_nil]); first | done | rfl | (simp only [List.length_drop, List.length_take]; rfl)) ?_; (with_reducible refine (truantlaw09_awake.calls k  true _ A3.out).mono ?_); rintro e w25 ⟨rfl, hb⟩; refine ⟨_, rfl, ?_⟩; have n0_ := Aside0.mk (blk_below (g := gb394) (o := .cells #[.string a0_0, .slice A0_1 l0_1.length c0_1, .string a0_2, .slice A0_3 l0_3.length c0_3, .slice A0_4 l0_4.length c0_4, .slice A0_5 l0_5.length c0_5] 26 (0, 0)) (by (with_reducible repeat (first | refine blk_drewN ?_ _ | refine blk_drew ?_ | refine blk_alloc ?_ _)); exact BK394.out) hb); have n1_ := Aside0.mk (below_step (by repeat (first | (with_reducible first | exact HB.out | apply below_alloc | apply pw_below_drewN | apply below_drew1 | refine below_set ?_ GE394.out) | exact HB.out)) hb); clear BK394; clear HB; have BK394 := n0_; have HB := n1_; clear n0_ n1_; (try clear hb); (try clear hb2); (try clear hk); (try clear hi); have hcz26_0 : w25.cell? ⟨gb394, 0, none⟩ = some (.string a0_0) := (blk_cell BK394.out 0).trans rfl; have hcz26_1 : w25.cell? ⟨gb394, 1, none⟩ = some (.slice A0_1 l0_1.length c0_1) := (blk_cell BK394.out 1).trans rfl; have hcz26_2 : w25.cell? ⟨gb394, 2, none⟩ = some (.string a0_2) := (blk_cell BK394.out 2).trans rfl; have hcz26_3 : w25.cell? ⟨gb394, 3, none⟩ = some (.slice A0_3 l0_3.length c0_3) := (blk_cell BK394.out 3).trans rfl; have hcz26_4 : w25.cell? ⟨gb394, 4, none⟩ = some (.slice A0_4 l0_4.length c0_4) := (blk_cell BK394.out 4).trans rfl; have hcz26_5 : w25.cell? ⟨gb394, 5, none⟩ = some (.slice A0_5 l0_5.length c0_5) := (blk_cell BK394.out 5).trans rfl; have hfz26_0 := blk_frozen BK394.out 0; have hfz26_1 := blk_frozen BK394.out 1; have hfz26_2 := blk_frozen BK394.out 2; have hfz26_3 := blk_frozen BK394.out 3; have hfz26_4 := blk_frozen BK394.out 4; have hfz26_5 := blk_frozen BK394.out 5) | ((with_reducible refine gate_callee (f := 15) rfl ?_); refine goesL_ (some 12) rfl rfl Try.func15 (by kernel_rfl) rfl #[.agg #[.string a0_0, .slice A0_1 l0_1.length c0_1, .string a0_2, .slice A0_3 l0_3.length c0_3, .slice A0_4 l0_4.length c0_4, .slice A0_5 l0_5.length c0_5]] rfl (by (try simp only [List.map_toArray, List.map_cons, List.map_nil]); first | done | rfl | (simp only [List.length_drop, List.length_take]; rfl)) ?_; (with_reducible refine (truantlaw09_wide.calls k a0_0 _ _ l0_1 a0_2 _ _ l0_3 _ _ l0_4 _ _ l0_5 false _ ?side1 ?side2 ?side3 ?side4 ?side5 ?side6 ?side7 ?side8 A5.out).mono ?_); (case side1 => repeat (first | exact (Kd.C_below HR0_1.out HB.out) | (with_reducible refine Kd.C_alloc ?_ _) | (with_reducible refine Kd.C_drewN ?_ _) | (with_reducible refine Kd.C_drew ?_))); (case side2 => exact HC0_1.out); (case side3 => repeat (first | exact (Kd.C_below HR0_3.out HB.out) | (with_reducible refine Kd.C_alloc ?_ _) | (with_reducible refine Kd.C_drewN ?_ _) | (with_reducible refine Kd.C_drew ?_))); (case side4 => exact HC0_3.out); (case side5 => repeat (first | exact (Kd.C_below HR0_4.out HB.out) | (with_reducible refine Kd.C_alloc ?_ _) | (with_reducible refine Kd.C_drewN ?_ _) | (with_reducible refine Kd.C_drew ?_))); (case side6 => exact HC0_4.out); (case side7 => repeat (first | exact (Kd.C_below HR0_5.out HB.out) | (with_reducible refine Kd.C_alloc ?_ _) | (with_reducible refine Kd.C_drewN ?_ _) | (with_reducible refine Kd.C_drew ?_))); (case side8 => exact HC0_5.out); rintro e w27 ⟨rfl, hb⟩; refine ⟨_, rfl, ?_⟩; have n0_ := Aside0.mk (blk_below (g := gb394) (o := .cells #[.string a0_0, .slice A0_1 l0_1.length c0_1, .string a0_2, .slice A0_3 l0_3.length c0_3, .slice A0_4 l0_4.length c0_4, .slice A0_5 l0_5.length c0_5] 26 (0, 0)) (by (with_reducible repeat (first | refine blk_drewN ?_ _ | refine blk_drew ?_ | refine blk_alloc ?_ _)); exact BK394.out) hb); have n1_ := Aside0.mk (below_step (by repeat (first | (with_reducible first | exact HB.out | apply below_alloc | apply pw_below_drewN | apply below_drew1 | refine below_set ?_ GE394.out) | exact HB.out)) hb); clear BK394; clear HB; have BK394 := n0_; have HB := n1_; clear n0_ n1_; (try clear hb); (try clear hb2); (try clear hk); (try clear hi); have hcz28_0 : w27.cell? ⟨gb394, 0, none⟩ = some (.string a0_0) := (blk_cell BK394.out 0).trans rfl; have hcz28_1 : w27.cell? ⟨gb394, 1, none⟩ = some (.slice A0_1 l0_1.length c0_1) := (blk_cell BK394.out 1).trans rfl; have hcz28_2 : w27.cell? ⟨gb394, 2, none⟩ = some (.string a0_2) := (blk_cell BK394.out 2).trans rfl; have hcz28_3 : w27.cell? ⟨gb394, 3, none⟩ = some (.slice A0_3 l0_3.length c0_3) := (blk_cell BK394.out 3).trans rfl; have hcz28_4 : w27.cell? ⟨gb394, 4, none⟩ = some (.slice A0_4 l0_4.length c0_4) := (blk_cell BK394.out 4).trans rfl; have hcz28_5 : w27.cell? ⟨gb394, 5, none⟩ = some (.slice A0_5 l0_5.length c0_5) := (blk_cell BK394.out 5).trans rfl; have hfz28_0 := blk_frozen BK394.out 0; have hfz28_1 := blk_frozen BK394.out 1; have hfz28_2 := blk_frozen BK394.out 2; have hfz28_3 := blk_frozen BK394.out 3; have hfz28_4 := blk_frozen BK394.out 4; have hfz28_5 := blk_frozen BK394.out 5) | ((with_reducible refine gate_callee (f := 16) rfl ?_); refine goesL_ (some 14) rfl rfl Try.func16 (by kernel_rfl) rfl #[.agg #[.string a0_0, .slice A0_1 l0_1.length c0_1, .string a0_2, .slice A0_3 l0_3.length c0_3, .slice A0_4 l0_4.length c0_4, .slice A0_5 l0_5.length c0_5]] rfl (by (try simp only [List.map_toArray, List.map_cons, List.map_nil]); first | done | rfl | (simp only [List.length_drop, List.length_take]; rfl)) ?_; (with_reducible refine (flow_Ahead.calls k a0_0 _ _ l0_1 a0_2 _ _ l0_3 _ _ l0_4 _ _ l0_5 t397 _ ?side1 ?side2 ?side3 ?side4 ?side5 ?side6 ?side7 ?side8 A11.out).mono ?_); (case side1 => repeat (first | exact (Kd.C_below HR0_1.out HB.out) | (with_reducible refine Kd.C_alloc ?_ _) | (with_reducible refine Kd.C_drewN ?_ _) | (with_reducible refine Kd.C_drew ?_))); (case side2 => exact HC0_1.out); (case side3 => repeat (first | exact (Kd.C_below HR0_3.out HB.out) | (with_reducible refine Kd.C_alloc ?_ _) | (with_reducible refine Kd.C_drewN ?_ _) | (with_reducible refine Kd.C_drew ?_))); (case side4 => exact HC0_3.out); (case side5 => repeat (first | exact (Kd.C_below HR0_4.out HB.out) | (with_reducible refine Kd.C_alloc ?_ _) | (with_reducible refine Kd.C_drewN ?_ _) | (with_reducible refine Kd.C_drew ?_))); (case side6 => exact HC0_4.out); (case side7 => repeat (first | exact (Kd.C_below HR0_5.out HB.out) | (with_reducible refine Kd.C_alloc ?_ _) | (with_reducible refine Kd.C_drewN ?_ _) | (with_reducible refine Kd.C_drew ?_))); (case side8 => exact HC0_5.out); rintro e w29 ⟨v398, rfl, ho0, hb⟩; refine ⟨_, rfl, ?_⟩; have n0_ := Aside0.mk (Kd.S_lower ho0 (below_size (by repeat (first | (with_reducible first | exact HB.out | apply below_alloc | apply pw_below_drewN | apply below_drew1 | refine below_set ?_ GE394.out) | exact HB.out)))); have n1_ := Aside0.mk (blk_below (g := gb394) (o := .cells #[.string a0_0, .slice A0_1 l0_1.length c0_1, .string a0_2, .slice A0_3 l0_3.length c0_3, .slice A0_4 l0_4.length c0_4, .slice A0_5 l0_5.length c0_5] 26 (0, 0)) (by (with_reducible repeat (first | refine blk_drewN ?_ _ | refine blk_drew ?_ | refine blk_alloc ?_ _)); exact BK394.out) hb); have n2_ := Aside0.mk (below_step (by repeat (first | (with_reducible first | exact HB.out | apply below_alloc | apply pw_below_drewN | apply below_drew1 | refine below_set ?_ GE394.out) | exact HB.out)) hb); clear BK394; clear HB; have HO399 := n0_; have BK394 := n1_; have HB := n2_; clear n0_ n1_ n2_; (try clear hb); (try clear hb2); (try clear hk); (try clear hi); (try clear ho0); have hcz30_0 : w29.cell? ⟨gb394, 0, none⟩ = some (.string a0_0) := (blk_cell BK394.out 0).trans rfl; have hcz30_1 : w29.cell? ⟨gb394, 1, none⟩ = some (.slice A0_1 l0_1.length c0_1) := (blk_cell BK394.out 1).trans rfl; have hcz30_2 : w29.cell? ⟨gb394, 2, none⟩ = some (.string a0_2) := (blk_cell BK394.out 2).trans rfl; have hcz30_3 : w29.cell? ⟨gb394, 3, none⟩ = some (.slice A0_3 l0_3.length c0_3) := (blk_cell BK394.out 3).trans rfl; have hcz30_4 : w29.cell? ⟨gb394, 4, none⟩ = some (.slice A0_4 l0_4.length c0_4) := (blk_cell BK394.out 4).trans rfl; have hcz30_5 : w29.cell? ⟨gb394, 5, none⟩ = some (.slice A0_5 l0_5.length c0_5) := (blk_cell BK394.out 5).trans rfl; have hfz30_0 := blk_frozen BK394.out 0; have hfz30_1 := blk_frozen BK394.out 1; have hfz30_2 := blk_frozen BK394.out 2; have hfz30_3 := blk_frozen BK394.out 3; have hfz30_4 := blk_frozen BK394.out 4; have hfz30_5 := blk_frozen BK394.out 5) | ((with_reducible refine gate_callee (f := 17) rfl ?_); refine goesL_ (some 16) rfl rfl Try.func17 (by kernel_rfl) rfl #[.agg #[.string a0_0, .slice A0_1 l0_1.length c0_1, .string a0_2, .slice A0_3 l0_3.length c0_3, .slice A0_4 l0_4.length c0_4, .slice A0_5 l0_5.length c0_5]] rfl (by (try simp only [List.map_toArray, List.map_cons, List.map_nil]); first | done | rfl | (simp only [List.length_drop, List.length_take]; rfl)) ?_; (with_reducible refine (flow_Reached.calls a0_0 _ _ l0_1 a0_2 _ _ l0_3 _ _ l0_4 _ _ l0_5 t400 _ ?side1 ?side2 ?side3 ?side4 ?side5 ?side6 ?side7 ?side8 A12.out).mono ?_); (case side1 => repeat (first | exact (Kd.C_below HR0_1.out HB.out) | (with_reducible refine Kd.C_alloc ?_ _) | (with_reducible refine Kd.C_drewN ?_ _) | (with_reducible refine Kd.C_drew ?_))); (case side2 => exact HC0_1.out); (case side3 => repeat (first | exact (Kd.C_below HR0_3.out HB.out) | (with_reducible refine Kd.C_alloc ?_ _) | (with_reducible refine Kd.C_drewN ?_ _) | (with_reducible refine Kd.C_drew ?_))); (case side4 => exact HC0_3.out); (case side5 => repeat (first | exact (Kd.C_below HR0_4.out HB.out) | (with_reducible refine Kd.C_alloc ?_ _) | (with_reducible refine Kd.C_drewN ?_ _) | (with_reducible refine Kd.C_drew ?_))); (case side6 => exact HC0_4.out); (case side7 => repeat (first | exact (Kd.C_below HR0_5.out HB.out) | (with_reducible refine Kd.C_alloc ?_ _) | (with_reducible refine Kd.C_drewN ?_ _) | (with_reducible refine Kd.C_drew ?_))); (case side8 => exact HC0_5.out); rintro e w31 ⟨v401, rfl, ho0, hb⟩; refine ⟨_, rfl, ?_⟩; have n0_ := Aside0.mk (Kd.S_below (by (with_reducible repeat (first | apply Kd.S_alloc | apply Kd.S_drewN | apply Kd.S_drew)); exact HO399.out) hb); have n1_ := Aside0.mk (Kd.R_lower ho0 (below_size (by repeat (first | (with_reducible first | exact HB.out | apply below_alloc | apply pw_below_drewN | apply below_drew1 | refine below_set ?_ GE394.out) | exact HB.out)))); have n2_ := Aside0.mk (blk_below (g := gb394) (o := .cells #[.string a0_0, .slice A0_1 l0_1.length c0_1, .string a0_2, .slice A0_3 l0_3.length c0_3, .slice A0_4 l0_4.length c0_4, .slice A0_5 l0_5.length c0_5] 26 (0, 0)) (by (with_reducible repeat (first | refine blk_drewN ?_ _ | refine blk_drew ?_ | refine blk_alloc ?_ _)); exact BK394.out) hb); have n3_ := Aside0.mk (below_step (by repeat (first | (with_reducible first | exact HB.out | apply below_alloc | apply pw_below_drewN | apply below_drew1 | refine below_set ?_ GE394.out) | exact HB.out)) hb); clear HO399; clear BK394; clear HB; have HO399 := n0_; have HO402 := n1_; have BK394 := n2_; have HB := n3_; clear n0_ n1_ n2_ n3_; (try clear hb); (try clear hb2); (try clear hk); (try clear hi); (try clear ho0); have hcz32_0 : w31.cell? ⟨gb394, 0, none⟩ = some (.string a0_0) := (blk_cell BK394.out 0).trans rfl; have hcz32_1 : w31.cell? ⟨gb394, 1, none⟩ = some (.slice A0_1 l0_1.length c0_1) := (blk_cell BK394.out 1).trans rfl; have hcz32_2 : w31.cell? ⟨gb394, 2, none⟩ = some (.string a0_2) := (blk_cell BK394.out 2).trans rfl; have hcz32_3 : w31.cell? ⟨gb394, 3, none⟩ = some (.slice A0_3 l0_3.length c0_3) := (blk_cell BK394.out 3).trans rfl; have hcz32_4 : w31.cell? ⟨gb394, 4, none⟩ = some (.slice A0_4 l0_4.length c0_4) := (blk_cell BK394.out 4).trans rfl; have hcz32_5 : w31.cell? ⟨gb394, 5, none⟩ = some (.slice A0_5 l0_5.length c0_5) := (blk_cell BK394.out 5).trans rfl; have hfz32_0 := blk_frozen BK394.out 0; have hfz32_1 := blk_frozen BK394.out 1; have hfz32_2 := blk_frozen BK394.out 2; have hfz32_3 := blk_frozen BK394.out 3; have hfz32_4 := blk_frozen BK394.out 4; have hfz32_5 := blk_frozen BK394.out 5) | ((with_reducible refine gate_callee (f := 18) rfl ?_); refine goesL_ (some 18) rfl rfl Try.func18 (by kernel_rfl) rfl #[.agg #[.string a0_0, .slice A0_1 l0_1.length c0_1, .string a0_2, .slice A0_3 l0_3.length c0_3, .slice A0_4 l0_4.length c0_4, .slice A0_5 l0_5.length c0_5]] rfl (by (try simp only [List.map_toArray, List.map_cons, List.map_nil]); first | done | rfl | (simp only [List.length_drop, List.length_take]; rfl)) ?_; (with_reducible refine (truantref09_Reached.calls k a0_0 _ _ l0_1 a0_2 _ _ l0_3 _ _ l0_4 _ _ l0_5 t403 _ ?side1 ?side2 ?side3 ?side4 ?side5 ?side6 ?side7 ?side8 A13.out).mono ?_); (case side1 => repeat (first | exact (Kd.C_below HR0_1.out HB.out) | (with_reducible refine Kd.C_alloc ?_ _) | (with_reducible refine Kd.C_drewN ?_ _) | (with_reducible refine Kd.C_drew ?_))); (case side2 => exact HC0_1.out); (case side3 => repeat (first | exact (Kd.C_below HR0_3.out HB.out) | (with_reducible refine Kd.C_alloc ?_ _) | (with_reducible refine Kd.C_drewN ?_ _) | (with_reducible refine Kd.C_drew ?_))); (case side4 => exact HC0_3.out); (case side5 => repeat (first | exact (Kd.C_below HR0_4.out HB.out) | (with_reducible refine Kd.C_alloc ?_ _) | (with_reducible refine Kd.C_drewN ?_ _) | (with_reducible refine Kd.C_drew ?_))); (case side6 => exact HC0_4.out); (case side7 => repeat (first | exact (Kd.C_below HR0_5.out HB.out) | (with_reducible refine Kd.C_alloc ?_ _) | (with_reducible refine Kd.C_drewN ?_ _) | (with_reducible refine Kd.C_drew ?_))); (case side8 => exact HC0_5.out); rintro e w33 ⟨v404, rfl, ho0, hb⟩; refine ⟨_, rfl, ?_⟩; have n0_ := Aside0.mk (Kd.S_below (by (with_reducible repeat (first | apply Kd.S_alloc | apply Kd.S_drewN | apply Kd.S_drew)); exact HO399.out) hb); have n1_ := Aside0.mk (Kd.R_elder' (by (with_reducible repeat (first | apply Kd.R_alloc | apply Kd.R_drewN | apply Kd.R_drew)); exact HO402.out) (Kd.R_base ho0) hb); have n2_ := Aside0.mk (Kd.R_lower (Kd.R_new' ho0 (Kd.R_lt (by (with_reducible repeat (first | apply Kd.R_alloc | apply Kd.R_drewN | apply Kd.R_drew)); exact HO402.out))) (below_size (by repeat (first | (with_reducible first | exact HB.out | apply below_alloc | apply pw_below_drewN | apply below_drew1 | refine below_set ?_ GE394.out) | exact HB.out)))); have n3_ := Aside0.mk (blk_below (g := gb394) (o := .cells #[.string a0_0, .slice A0_1 l0_1.length c0_1, .string a0_2, .slice A0_3 l0_3.length c0_3, .slice A0_4 l0_4.length c0_4, .slice A0_5 l0_5.length c0_5] 26 (0, 0)) (by (with_reducible repeat (first | refine blk_drewN ?_ _ | refine blk_drew ?_ | refine blk_alloc ?_ _)); exact BK394.out) hb); have n4_ := Aside0.mk (below_step (by repeat (first | (with_reducible first | exact HB.out | apply below_alloc | apply pw_below_drewN | apply below_drew1 | refine below_set ?_ GE394.out) | exact HB.out)) hb); clear HO399; clear HO402; clear BK394; clear HB; have HO399 := n0_; have HO402 := n1_; have HO405 := n2_; have BK394 := n3_; have HB := n4_; clear n0_ n1_ n2_ n3_ n4_; (try clear hb); (try clear hb2); (try clear hk); (try clear hi); (try clear ho0)))
       have n0_ := Aside0.mk (Kd.S_drew HO399.out)
       have n1_ := Aside0.mk (Kd.R_drew HO402.out)
       have n2_ := Aside0.mk (Kd.R_drew HO405.out)
       have n3_ := Aside0.mk (blk_drew BK394.out)
       have n4_ := Aside0.mk (below_drew1 HB.out)
       clear HO399
       clear HO402
       clear HO405
       clear BK394
       clear HB
       have HO399 := n0_
       have HO402 := n1_
       have HO405 := n2_
       have BK394 := n3_
       have HB := n4_
       clear n0_ n1_ n2_ n3_ n4_
       obtain ⟨Ao35, co35, eo35⟩ := Kd.S_slice HO399.out
       (first | subst eo35 | (injection eo35 with f1_ f2_ f3_; have f4_ := f1_.symm; have f5_ := f3_.symm; clear f1_ f2_ f3_; subst f4_; subst f5_))
       obtain ⟨Ao36, co36, eo36⟩ := Kd.R_slice HO402.out
       (first | subst eo36 | (injection eo36 with f1_ f2_ f3_; have f4_ := f1_.symm; have f5_ := f3_.symm; clear f1_ f2_ f3_; subst f4_; subst f5_))
       obtain ⟨Ao37, co37, eo37⟩ := Kd.R_slice HO405.out
       (first | subst eo37 | (injection eo37 with f1_ f2_ f3_; have f4_ := f1_.symm; have f5_ := f3_.symm; clear f1_ f2_ f3_; subst f4_; subst f5_))
       refine start_ (n := 31) (S := fun w' => w'.cell? ⟨gb394, 0, none⟩ = some (.string a0_0) ∧ w'.cell? ⟨gb394, 1, none⟩ = some (.slice A0_1 l0_1.length c0_1) ∧ w'.cell? ⟨gb394, 2, none⟩ = some (.string a0_2) ∧ w'.cell? ⟨gb394, 3, none⟩ = some (.slice A0_3 l0_3.length c0_3) ∧ w'.cell? ⟨gb394, 4, none⟩ = some (.slice A0_4 l0_4.length c0_4) ∧ w'.cell? ⟨gb394, 5, none⟩ = some (.slice A0_5 l0_5.length c0_5)) (ds := []) #[false, false, false, false, false, false, false, false, false, false, false, false, false, false, false, false, false, false, false, false, false, false, false, false, false, false, false, false, false, false, false] (by kernel_rfl) rfl rfl ⟨(blk_cell BK394.out 0).trans rfl, (blk_cell BK394.out 1).trans rfl, (blk_cell BK394.out 2).trans rfl, (blk_cell BK394.out 3).trans rfl, (blk_cell BK394.out 4).trans rfl, (blk_cell BK394.out 5).trans rfl⟩ (fun hHeld => ?_); refine with_tabW truantlaw09_FlowExact.tab8 truantlaw09_FlowExact.bits8 (fun HT_ HW_ => ?_)
       generalize w33.drew = w34 at HO399 HO402 HO405 BK394 HB hHeld ⊢
       refine pure_ (i := 0) (N := some 19) (v := ?_) (a' := ?_) #[true, false, false, false, false, false, false, false, false, false, false, false, false, false, false, false, false, false, false, false, false, false, false, false, false, false, false, false, false, false, false] rfl rfl (any_of HT_.out (by kernel_rfl)) (fun _ _ _ h => h) (Or.inl ⟨by rfl, ?_⟩) ?_ ?_
       rotate_left
       ·intro w'
        go_simp
        with_reducible rfl
       rotate_left
       ·simp only [Act.put, List.setIfInBounds_toArray, List.set_cons_zero, List.set_cons_succ, i64_w, i32_w]
        rfl
       refine pure_ (i := 1) (N := some 20) (v := ?_) (a' := ?_) #[true, true, false, false, false, false, false, false, false, false, false, false, false, false, false, false, false, false, false, false, false, false, false, false, false, false, false, false, false, false, false] rfl rfl (any_of HT_.out (by kernel_rfl)) (fun _ _ _ h => h) (Or.inl ⟨by rfl, ?_⟩) ?_ ?_
       rotate_left
       ·intro w'
        go_simp
        with_reducible rfl
       rotate_left
       ·simp only [Act.put, List.setIfInBounds_toArray, List.set_cons_zero, List.set_cons_succ, i64_w, i32_w]
        rfl
       refine pure_ (i := 2) (N := some 21) (v := ?_) (a' := ?_) #[true, true, true, false, false, false, false, false, false, false, false, false, false, false, false, false, false, false, false, false, false, false, false, false, false, false, false, false, false, false, false] rfl rfl (any_of HT_.out (by kernel_rfl)) (fun _ _ _ h => h) (Or.inl ⟨by rfl, ?_⟩) ?_ ?_
       rotate_left
       ·intro w'
        go_simp
        with_reducible rfl
       rotate_left
       ·simp only [Act.put, List.setIfInBounds_toArray, List.set_cons_zero, List.set_cons_succ, i64_w, i32_w]
        rfl
       refine take_ (i := 3) (N := some 22) (v := ?_) (a' := ?_) #[true, true, true, true, false, false, false, false, false, false, false, false, false, false, false, false, false, false, false, false, false, false, false, false, false, false, false, false, false, false, false] rfl rfl (take_ofW HT_.out HW_.out (by kernel_rfl)) (fun _ _ _ h => h) (Or.inl ⟨by rfl, ?_⟩) hHeld ?_ ?_
       rotate_left
       ·rintro w' ⟨s0, s1, s2, s3, s4, s5⟩
        go_simp
        with_reducible rfl
       rotate_left
       ·simp only [Act.put, List.setIfInBounds_toArray, List.set_cons_zero, List.set_cons_succ, i64_w, i32_w]
        rfl
       refine pure_ (i := 4) (N := some 23) (v := ?_) (a' := ?_) #[true, true, true, true, true, false, false, false, false, false, false, false, false, false, false, false, false, false, false, false, false, false, false, false, false, false, false, false, false, false, false] rfl rfl (any_of HT_.out (by kernel_rfl)) (fun _ _ _ h => h) (Or.inl ⟨by rfl, ?_⟩) ?_ ?_
       rotate_left
       ·intro w'
        go_simp
        with_reducible rfl
       rotate_left
       ·simp only [Act.put, List.setIfInBounds_toArray, List.set_cons_zero, List.set_cons_succ, i64_w, i32_w]
        rfl
       refine pure_ (i := 5) (N := some 24) (v := ?_) (a' := ?_) #[true, true, true, true, true, true, false, false, false, false, false, false, false, false, false, false, false, false, false, false, false, false, false, false, false, false, false, false, false, false, false] rfl rfl (any_of HT_.out (by kernel_rfl)) (fun _ _ _ h => h) (Or.inl ⟨by rfl, ?_⟩) ?_ ?_
       rotate_left
       ·intro w'
        go_simp
        with_reducible rfl
       rotate_left
       ·simp only [Act.put, List.setIfInBounds_toArray, List.set_cons_zero, List.set_cons_succ, i64_w, i32_w]
        rfl
       refine pure_ (i := 6) (N := some 25) (v := ?_) (a' := ?_) #[true, true, true, true, true, true, true, false, false, false, false, false, false, false, false, false, false, false, false, false, false, false, false, false, false, false, false, false, false, false, false] rfl rfl (any_of HT_.out (by kernel_rfl)) (fun _ _ _ h => h) (Or.inl ⟨by rfl, ?_⟩) ?_ ?_
       rotate_left
       ·intro w'
        go_simp
        with_reducible rfl
       rotate_left
       ·simp only [Act.put, List.setIfInBounds_toArray, List.set_cons_zero, List.set_cons_succ, i64_w, i32_w]
        rfl
       refine pure_ (i := 7) (N := some 26) (v := ?_) (a' := ?_) #[true, true, true, true, true, true, true, true, false, false, false, false, false, false, false, false, false, false, false, false, false, false, false, false, false, false, false, false, false, false, false] rfl rfl (any_of HT_.out (by kernel_rfl)) (fun _ _ _ h => h) (Or.inl ⟨by rfl, ?_⟩) ?_ ?_
       rotate_left
       ·intro w'
        go_simp
        with_reducible rfl
       rotate_left
       ·simp only [Act.put, List.setIfInBounds_toArray, List.set_cons_zero, List.set_cons_succ, i64_w, i32_w]
        rfl
       refine pure_ (i := 8) (N := some 27) (v := ?_) (a' := ?_) #[true, true, true, true, true, true, true, true, true, false, false, false, false, false, false, false, false, false, false, false, false, false, false, false, false, false, false, false, false, false, false] rfl rfl (any_of HT_.out (by kernel_rfl)) (fun _ _ _ h => h) (Or.inl ⟨by rfl, ?_⟩) ?_ ?_
       rotate_left
       ·intro w'
        go_simp
        with_reducible rfl
       rotate_left
       ·simp only [Act.put, List.setIfInBounds_toArray, List.set_cons_zero, List.set_cons_succ, i64_w, i32_w]
        rfl
       refine pure_ (i := 9) (N := some 28) (v := ?_) (a' := ?_) #[true, true, true, true, true, true, true, true, true, true, false, false, false, false, false, false, false, false, false, false, false, false, false, false, false, false, false, false, false, false, false] rfl rfl (any_of HT_.out (by kernel_rfl)) (fun _ _ _ h => h) (Or.inl ⟨by rfl, ?_⟩) ?_ ?_
       rotate_left
       ·intro w'
        go_simp
        with_reducible rfl
       rotate_left
       ·simp only [Act.put, List.setIfInBounds_toArray, List.set_cons_zero, List.set_cons_succ, i64_w, i32_w]
        rfl
       refine pure_ (i := 10) (N := some 29) (v := ?_) (a' := ?_) #[true, true, true, true, true, true, true, true, true, true, true, false, false, false, false, false, false, false, false, false, false, false, false, false, false, false, false, false, false, false, false] rfl rfl (any_of HT_.out (by kernel_rfl)) (fun _ _ _ h => h) (Or.inl ⟨by rfl, ?_⟩) ?_ ?_
       rotate_left
       ·intro w'
        go_simp
        with_reducible rfl
       rotate_left
       ·simp only [Act.put, List.setIfInBounds_toArray, List.set_cons_zero, List.set_cons_succ, i64_w, i32_w]
        rfl
       refine pure_ (i := 11) (N := some 30) (v := ?_) (a' := ?_) #[true, true, true, true, true, true, true, true, true, true, true, true, false, false, false, false, false, false, false, false, false, false, false, false, false, false, false, false, false, false, false] rfl rfl (any_of HT_.out (by kernel_rfl)) (fun _ _ _ h => h) (Or.inl ⟨by rfl, ?_⟩) ?_ ?_
       rotate_left
       ·intro w'
        go_simp
        with_reducible rfl
       rotate_left
       ·simp only [Act.put, List.setIfInBounds_toArray, List.set_cons_zero, List.set_cons_succ, i64_w, i32_w]
        rfl
       refine pure_ (i := 12) (N := some 31) (v := ?_) (a' := ?_) #[true, true, true, true, true, true, true, true, true, true, true, true, true, false, false, false, false, false, false, false, false, false, false, false, false, false, false, false, false, false, false] rfl rfl (any_of HT_.out (by kernel_rfl)) (fun _ _ _ h => h) (Or.inl ⟨by rfl, ?_⟩) ?_ ?_
       rotate_left
       ·intro w'
        go_simp
        with_reducible rfl
       rotate_left
       ·simp only [Act.put, List.setIfInBounds_toArray, List.set_cons_zero, List.set_cons_succ, i64_w, i32_w]
        rfl
       refine pure_ (i := 13) (N := some 32) (v := ?_) (a' := ?_) #[true, true, true, true, true, true, true, true, true, true, true, true, true, true, false, false, false, false, false, false, false, false, false, false, false, false, false, false, false, false, false] rfl rfl (any_of HT_.out (by kernel_rfl)) (fun _ _ _ h => h) (Or.inl ⟨by rfl, ?_⟩) ?_ ?_
       rotate_left
       ·intro w'
        go_simp
        with_reducible rfl
       rotate_left
       ·simp only [Act.put, List.setIfInBounds_toArray, List.set_cons_zero, List.set_cons_succ, i64_w, i32_w]
        rfl
       refine pure_ (i := 15) (N := some 34) (v := ?_) (a' := ?_) #[true, true, true, true, true, true, true, true, true, true, true, true, true, true, false, true, false, false, false, false, false, false, false, false, false, false, false, false, false, false, false] rfl rfl (any_of HT_.out (by kernel_rfl)) (fun _ _ _ h => h) (Or.inl ⟨by rfl, ?_⟩) ?_ ?_
       rotate_left
       ·intro w'
        go_simp
        with_reducible rfl
       rotate_left
       ·simp only [Act.put, List.setIfInBounds_toArray, List.set_cons_zero, List.set_cons_succ, i64_w, i32_w]
        rfl
       refine pure_ (i := 18) (N := some 37) (v := ?_) (a' := ?_) #[true, true, true, true, true, true, true, true, true, true, true, true, true, true, false, true, false, false, true, false, false, false, false, false, false, false, false, false, false, false, false] rfl rfl (any_of HT_.out (by kernel_rfl)) (fun _ _ _ h => h) (Or.inl ⟨by rfl, ?_⟩) ?_ ?_
       rotate_left
       ·intro w'
        go_simp
        with_reducible rfl
       rotate_left
       ·simp only [Act.put, List.setIfInBounds_toArray, List.set_cons_zero, List.set_cons_succ, i64_w, i32_w]
        rfl
       refine take_ (i := 14) (N := some 33) (v := ?_) (a' := ?_) #[true, true, true, true, true, true, true, true, true, true, true, true, true, true, true, true, false, false, true, false, false, false, false, false, false, false, false, false, false, false, false] rfl rfl (take_ofW HT_.out HW_.out (by kernel_rfl)) (fun _ _ _ h => h) (Or.inl ⟨by rfl, ?_⟩) hHeld ?_ ?_
       rotate_left
       ·rintro w' ⟨s0, s1, s2, s3, s4, s5⟩
        go_simp
        with_reducible rfl
       rotate_left
       ·simp only [Act.put, List.setIfInBounds_toArray, List.set_cons_zero, List.set_cons_succ, i64_w, i32_w]
        rfl
       refine take_ (i := 17) (N := some 36) (v := ?_) (a' := ?_) #[true, true, true, true, true, true, true, true, true, true, true, true, true, true, true, true, false, true, true, false, false, false, false, false, false, false, false, false, false, false, false] rfl rfl (take_ofW HT_.out HW_.out (by kernel_rfl)) (fun _ _ _ h => h) (Or.inl ⟨by rfl, ?_⟩) hHeld ?_ ?_
       rotate_left
       ·rintro w' ⟨s0, s1, s2, s3, s4, s5⟩
        go_simp
        with_reducible rfl
       rotate_left
       ·simp only [Act.put, List.setIfInBounds_toArray, List.set_cons_zero, List.set_cons_succ, i64_w, i32_w]
        rfl
       refine one_ (i := 16) (N := some 35) #[true, true, true, true, true, true, true, true, true, true, true, true, true, true, true, true, true, true, true, false, false, false, false, false, false, false, false, false, false, false, false] rfl rfl (one_of HT_.out (by kernel_rfl)) (by decide) (fun K hK => ?_)
       refine goes_ Try.func20 (by kernel_rfl) rfl #[.agg #[.string a0_0, .slice A0_1 l0_1.length c0_1, .string a0_2, .slice A0_3 l0_3.length c0_3, .slice A0_4 l0_4.length c0_4, .slice A0_5 l0_5.length c0_5], .int .i64 a1] (by rfl) rfl rfl (by (try simp only [List.map_toArray, List.map_cons, List.map_nil]); first | done | rfl | (simp only [List.length_drop, List.length_take]; rfl)) ?_
       with_reducible refine (flow_Next.calls a0_0 _ _ l0_1 a0_2 _ _ l0_3 _ _ l0_4 _ _ l0_5 a1 t406 _ ?side1 ?side2 ?side3 ?side4 ?side5 ?side6 ?side7 ?side8 A16.out).mono ?_
       (case side1 => repeat (first | exact (Kd.C_below HR0_1.out HB.out) | (with_reducible refine Kd.C_alloc ?_ _) | (with_reducible refine Kd.C_drewN ?_ _) | (with_reducible refine Kd.C_drew ?_)))
       (case side2 => exact HC0_1.out)
       (case side3 => repeat (first | exact (Kd.C_below HR0_3.out HB.out) | (with_reducible refine Kd.C_alloc ?_ _) | (with_reducible refine Kd.C_drewN ?_ _) | (with_reducible refine Kd.C_drew ?_)))
       (case side4 => exact HC0_3.out)
       (case side5 => repeat (first | exact (Kd.C_below HR0_4.out HB.out) | (with_reducible refine Kd.C_alloc ?_ _) | (with_reducible refine Kd.C_drewN ?_ _) | (with_reducible refine Kd.C_drew ?_)))
       (case side6 => exact HC0_4.out)
       (case side7 => repeat (first | exact (Kd.C_below HR0_5.out HB.out) | (with_reducible refine Kd.C_alloc ?_ _) | (with_reducible refine Kd.C_drewN ?_ _) | (with_reducible refine Kd.C_drew ?_)))
       (case side8 => exact HC0_5.out)
       rintro e w38 ⟨v407, rfl, ho0, hb⟩
       refine ⟨_, rfl, ?_⟩
       have n0_ := Aside0.mk (Kd.S_elder' (by (with_reducible repeat (first | apply Kd.S_alloc | apply Kd.S_drewN | apply Kd.S_drew)); exact HO399.out) (Kd.R_base ho0) hb)
       have n1_ := Aside0.mk (Kd.R_below (by (with_reducible repeat (first | apply Kd.R_alloc | apply Kd.R_drewN | apply Kd.R_drew)); exact HO402.out) hb)
       have n2_ := Aside0.mk (Kd.R_below (by (with_reducible repeat (first | apply Kd.R_alloc | apply Kd.R_drewN | apply Kd.R_drew)); exact HO405.out) hb)
       have n3_ := Aside0.mk (Kd.R_lower ho0 (below_size (by repeat (first | (with_reducible first | exact HB.out | apply below_alloc | apply pw_below_drewN | apply below_drew1 | refine below_set ?_ GE394.out) | exact HB.out))))
       have n4_ := Aside0.mk (blk_below (g := gb394) (o := .cells #[.string a0_0, .slice A0_1 l0_1.length c0_1, .string a0_2, .slice A0_3 l0_3.length c0_3, .slice A0_4 l0_4.length c0_4, .slice A0_5 l0_5.length c0_5] 26 (0, 0)) (by (with_reducible repeat (first | refine blk_drewN ?_ _ | refine blk_drew ?_ | refine blk_alloc ?_ _)); exact BK394.out) hb)
       have n5_ := Aside0.mk (below_step (by repeat (first | (with_reducible first | exact HB.out | apply below_alloc | apply pw_below_drewN | apply below_drew1 | refine below_set ?_ GE394.out) | exact HB.out)) hb)
       clear HO399
       clear HO402
       clear HO405
       clear BK394
       clear HB
       have HO399 := n0_
       have HO402 := n1_
       have HO405 := n2_
       have HO408 := n3_
       have BK394 := n4_
       have HB := n5_
       clear n0_ n1_ n2_ n3_ n4_ n5_
       (try clear hb)
       (try clear hb2)
       (try clear hk)
       (try clear hi)
       (try clear ho0)
       refine hK.out _ _ ⟨(blk_cell BK394.out 0).trans rfl, (blk_cell BK394.out 1).trans rfl, (blk_cell BK394.out 2).trans rfl, (blk_cell BK394.out 3).trans rfl, (blk_cell BK394.out 4).trans rfl, (blk_cell BK394.out 5).trans rfl⟩ (fun hHeld => ?_)
       clear hK K
       refine norm_ (a' := ?_) ?_ ?_
       rotate_left
       ·show Act.put _ (some 35) _ = _
        simp only [Act.put, List.setIfInBounds_toArray, List.set_cons_zero, List.set_cons_succ, i64_w, i32_w]
        rfl
       refine one_ (i := 19) (N := some 38) #[true, true, true, true, true, true, true, true, true, true, true, true, true, true, true, true, true, true, true, true, false, false, false, false, false, false, false, false, false, false, false] rfl rfl (one_of HT_.out (by kernel_rfl)) (by decide) (fun K hK => ?_)
       refine goes_ Try.func21 (by kernel_rfl) rfl #[.agg #[.string a0_0, .slice A0_1 l0_1.length c0_1, .string a0_2, .slice A0_3 l0_3.length c0_3, .slice A0_4 l0_4.length c0_4, .slice A0_5 l0_5.length c0_5], .int .i64 a1] (by rfl) rfl rfl (by (try simp only [List.map_toArray, List.map_cons, List.map_nil]); first | done | rfl | (simp only [List.length_drop, List.length_take]; rfl)) ?_
       with_reducible refine (truantref09_Next.calls k a0_0 _ _ l0_1 a0_2 _ _ l0_3 _ _ l0_4 _ _ l0_5 a1 t409 _ ?side1 ?side2 ?side3 ?side4 ?side5 ?side6 ?side7 ?side8 A17.out).mono ?_
       (case side1 => repeat (first | exact (Kd.C_below HR0_1.out HB.out) | (with_reducible refine Kd.C_alloc ?_ _) | (with_reducible refine Kd.C_drewN ?_ _) | (with_reducible refine Kd.C_drew ?_)))
       (case side2 => exact HC0_1.out)
       (case side3 => repeat (first | exact (Kd.C_below HR0_3.out HB.out) | (with_reducible refine Kd.C_alloc ?_ _) | (with_reducible refine Kd.C_drewN ?_ _) | (with_reducible refine Kd.C_drew ?_)))
       (case side4 => exact HC0_3.out)
       (case side5 => repeat (first | exact (Kd.C_below HR0_4.out HB.out) | (with_reducible refine Kd.C_alloc ?_ _) | (with_reducible refine Kd.C_drewN ?_ _) | (with_reducible refine Kd.C_drew ?_)))
       (case side6 => exact HC0_4.out)
       (case side7 => repeat (first | exact (Kd.C_below HR0_5.out HB.out) | (with_reducible refine Kd.C_alloc ?_ _) | (with_reducible refine Kd.C_drewN ?_ _) | (with_reducible refine Kd.C_drew ?_)))
       (case side8 => exact HC0_5.out)
       rintro e w39 ⟨v410, rfl, ho0, hb⟩
       refine ⟨_, rfl, ?_⟩
       have n0_ := Aside0.mk (Kd.S_elder' (by (with_reducible repeat (first | apply Kd.S_alloc | apply Kd.S_drewN | apply Kd.S_drew)); exact HO399.out) (Kd.R_base ho0) hb)
       have n1_ := Aside0.mk (Kd.R_below (by (with_reducible repeat (first | apply Kd.R_alloc | apply Kd.R_drewN | apply Kd.R_drew)); exact HO402.out) hb)
       have n2_ := Aside0.mk (Kd.R_below (by (with_reducible repeat (first | apply Kd.R_alloc | apply Kd.R_drewN | apply Kd.R_drew)); exact HO405.out) hb)
       have n3_ := Aside0.mk (Kd.R_elder' (by (with_reducible repeat (first | apply Kd.R_alloc | apply Kd.R_drewN | apply Kd.R_drew)); exact HO408.out) (Kd.R_base ho0) hb)
       have n4_ := Aside0.mk (Kd.R_lower (Kd.R_new' ho0 (Kd.R_lt (by (with_reducible repeat (first | apply Kd.R_alloc | apply Kd.R_drewN | apply Kd.R_drew)); exact HO408.out))) (below_size (by repeat (first | (with_reducible first | exact HB.out | apply below_alloc | apply pw_below_drewN | apply below_drew1 | refine below_set ?_ GE394.out) | exact HB.out))))
       have n5_ := Aside0.mk (blk_below (g := gb394) (o := .cells #[.string a0_0, .slice A0_1 l0_1.length c0_1, .string a0_2, .slice A0_3 l0_3.length c0_3, .slice A0_4 l0_4.length c0_4, .slice A0_5 l0_5.length c0_5] 26 (0, 0)) (by (with_reducible repeat (first | refine blk_drewN ?_ _ | refine blk_drew ?_ | refine blk_alloc ?_ _)); exact BK394.out) hb)
       have n6_ := Aside0.mk (below_step (by repeat (first | (with_reducible first | exact HB.out | apply below_alloc | apply pw_below_drewN | apply below_drew1 | refine below_set ?_ GE394.out) | exact HB.out)) hb)
       clear HO399
       clear HO402
       clear HO405
       clear HO408
       clear BK394
       clear HB
       have HO399 := n0_
       have HO402 := n1_
       have HO405 := n2_
       have HO408 := n3_
       have HO411 := n4_
       have BK394 := n5_
       have HB := n6_
       clear n0_ n1_ n2_ n3_ n4_ n5_ n6_
       (try clear hb)
       (try clear hb2)
       (try clear hk)
       (try clear hi)
       (try clear ho0)
       obtain ⟨Ao40, co40, eo40⟩ := Kd.R_slice HO408.out
       (first | subst eo40 | (injection eo40 with f1_ f2_ f3_; have f4_ := f1_.symm; have f5_ := f3_.symm; clear f1_ f2_ f3_; subst f4_; subst f5_))
       obtain ⟨Ao41, co41, eo41⟩ := Kd.R_slice HO411.out
       (first | subst eo41 | (injection eo41 with f1_ f2_ f3_; have f4_ := f1_.symm; have f5_ := f3_.symm; clear f1_ f2_ f3_; subst f4_; subst f5_))
       refine hK.out _ _ ⟨(blk_cell BK394.out 0).trans rfl, (blk_cell BK394.out 1).trans rfl, (blk_cell BK394.out 2).trans rfl, (blk_cell BK394.out 3).trans rfl, (blk_cell BK394.out 4).trans rfl, (blk_cell BK394.out 5).trans rfl⟩ (fun hHeld => ?_)
       clear hK K
       refine norm_ (a' := ?_) ?_ ?_
       rotate_left
       ·show Act.put _ (some 38) _ = _
        simp only [Act.put, List.setIfInBounds_toArray, List.set_cons_zero, List.set_cons_succ, i64_w, i32_w]
        rfl
       refine one_ (i := 20) (N := some 39) #[true, true, true, true, true, true, true, true, true, true, true, true, true, true, true, true, true, true, true, true, true, false, false, false, false, false, false, false, false, false, false] rfl rfl (one_of HT_.out (by kernel_rfl)) (by decide) (fun K hK => ?_)
       refine goes_ Try.func19 (by kernel_rfl) rfl #[.slice Ao40 t406.length co40, .slice Ao41 t409.length co41] (by rfl) rfl rfl (by (try simp only [List.map_toArray, List.map_cons, List.map_nil]); first | done | rfl | (simp only [List.length_drop, List.length_take]; rfl)) ?_
       with_reducible refine (truantlaw09_same.calls k _ _ t406 _ _ t409 true _ ?side1 ?side2 ?side3 ?side4 A18.out).mono ?_
       (case side1 => repeat (first | exact (Kd.R_reads' HO408.out).2.2 | (with_reducible refine Kd.C_alloc ?_ _) | (with_reducible refine Kd.C_drewN ?_ _) | (with_reducible refine Kd.C_drew ?_)))
       (case side2 => exact (Kd.R_reads' HO408.out).2.1)
       (case side3 => repeat (first | exact (Kd.R_reads' HO411.out).2.2 | (with_reducible refine Kd.C_alloc ?_ _) | (with_reducible refine Kd.C_drewN ?_ _) | (with_reducible refine Kd.C_drew ?_)))
       (case side4 => exact (Kd.R_reads' HO411.out).2.1)
       rintro e w' ⟨rfl, ⟨nd, rfl⟩⟩
       refine ⟨_, rfl, ?_⟩
       refine hK.out _ _ ⟨(blk_cell BK394.out 0).trans rfl, (blk_cell BK394.out 1).trans rfl, (blk_cell BK394.out 2).trans rfl, (blk_cell BK394.out 3).trans rfl, (blk_cell BK394.out 4).trans rfl, (blk_cell BK394.out 5).trans rfl⟩ (fun hHeld => ?_)
       clear hK K
       refine norm_ (a' := ?_) ?_ ?_
       rotate_left
       ·show Act.put _ (some 39) _ = _
        simp only [Act.put, List.setIfInBounds_toArray, List.set_cons_zero, List.set_cons_succ, i64_w, i32_w]
        rfl
       refine pure_ (i := 21) (N := some 40) (v := ?_) (a' := ?_) #[true, true, true, true, true, true, true, true, true, true, true, true, true, true, true, true, true, true, true, true, true, true, false, false, false, false, false, false, false, false, false] rfl rfl (any_of HT_.out (by kernel_rfl)) (fun _ _ _ h => h) (Or.inl ⟨by rfl, ?_⟩) ?_ ?_
       rotate_left
       ·intro w'
        go_simp
        with_reducible rfl
       rotate_left
       ·simp only [Act.put, List.setIfInBounds_toArray, List.set_cons_zero, List.set_cons_succ, i64_w, i32_w]
        rfl
       refine pure_ (i := 22) (N := some 41) (v := ?_) (a' := ?_) #[true, true, true, true, true, true, true, true, true, true, true, true, true, true, true, true, true, true, true, true, true, true, true, false, false, false, false, false, false, false, false] rfl rfl (any_of HT_.out (by kernel_rfl)) (fun _ _ _ h => h) (Or.inl ⟨by rfl, ?_⟩) ?_ ?_
       rotate_left
       ·intro w'
        go_simp
        with_reducible rfl
       rotate_left
       ·simp only [Act.put, List.setIfInBounds_toArray, List.set_cons_zero, List.set_cons_succ, i64_w, i32_w]
        rfl
       refine pure_ (i := 23) (N := some 42) (v := ?_) (a' := ?_) #[true, true, true, true, true, true, true, true, true, true, true, true, true, true, true, true, true, true, true, true, true, true, true, true, false, false, false, false, false, false, false] rfl rfl (any_of HT_.out (by kernel_rfl)) (fun _ _ _ h => h) (Or.inl ⟨by rfl, ?_⟩) ?_ ?_
       rotate_left
       ·intro w'
        go_simp
        with_reducible rfl
       rotate_left
       ·simp only [Act.put, List.setIfInBounds_toArray, List.set_cons_zero, List.set_cons_succ, i64_w, i32_w]
        rfl
       refine take_ (i := 24) (N := some 43) (v := ?_) (a' := ?_) #[true, true, true, true, true, true, true, true, true, true, true, true, true, true, true, true, true, true, true, true, true, true, true, true, true, false, false, false, false, false, false] rfl rfl (take_ofW HT_.out HW_.out (by kernel_rfl)) (fun _ _ _ h => h) (Or.inl ⟨by rfl, ?_⟩) hHeld ?_ ?_
       rotate_left
       ·rintro w' ⟨s0, s1, s2, s3, s4, s5⟩
        go_simp
        with_reducible rfl
       rotate_left
       ·simp only [Act.put, List.setIfInBounds_toArray, List.set_cons_zero, List.set_cons_succ, i64_w, i32_w]
        rfl
       refine take_ (i := 26) (N := some 45) (v := ?_) (a' := ?_) #[true, true, true, true, true, true, true, true, true, true, true, true, true, true, true, true, true, true, true, true, true, true, true, true, true, false, true, false, false, false, false] rfl rfl (take_ofW HT_.out HW_.out (by kernel_rfl)) (fun _ _ _ h => h) (Or.inl ⟨by rfl, ?_⟩) hHeld ?_ ?_
       rotate_left
       ·rintro w' ⟨s0, s1, s2, s3, s4, s5⟩
        go_simp
        with_reducible rfl
       rotate_left
       ·simp only [Act.put, List.setIfInBounds_toArray, List.set_cons_zero, List.set_cons_succ, i64_w, i32_w]
        rfl
       refine one_ (i := 25) (N := some 44) #[true, true, true, true, true, true, true, true, true, true, true, true, true, true, true, true, true, true, true, true, true, true, true, true, true, true, true, false, false, false, false] rfl rfl (one_of HT_.out (by kernel_rfl)) (by decide) (fun K hK => ?_)
       refine goes_ Try.func22 (by kernel_rfl) rfl #[.agg #[.string a0_0, .slice A0_1 l0_1.length c0_1, .string a0_2, .slice A0_3 l0_3.length c0_3, .slice A0_4 l0_4.length c0_4, .slice A0_5 l0_5.length c0_5]] (by rfl) rfl rfl (by (try simp only [List.map_toArray, List.map_cons, List.map_nil]); first | done | rfl | (simp only [List.length_drop, List.length_take]; rfl)) ?_
       with_reducible refine (flow_Order.calls a0_0 _ _ l0_1 a0_2 _ _ l0_3 _ _ l0_4 _ _ l0_5 t413 _ ?side1 ?side2 ?side3 ?side4 ?side5 ?side6 ?side7 ?side8 A20.out).mono ?_
       (case side1 => repeat (first | exact (Kd.C_below HR0_1.out (by repeat (first | (with_reducible first | exact HB.out | apply below_alloc | apply pw_below_drewN | apply below_drew1 | refine below_set ?_ GE394.out) | exact HB.out))) | (with_reducible refine Kd.C_alloc ?_ _) | (with_reducible refine Kd.C_drewN ?_ _) | (with_reducible refine Kd.C_drew ?_)))
       (case side2 => exact HC0_1.out)
       (case side3 => repeat (first | exact (Kd.C_below HR0_3.out (by repeat (first | (with_reducible first | exact HB.out | apply below_alloc | apply pw_below_drewN | apply below_drew1 | refine below_set ?_ GE394.out) | exact HB.out))) | (with_reducible refine Kd.C_alloc ?_ _) | (with_reducible refine Kd.C_drewN ?_ _) | (with_reducible refine Kd.C_drew ?_)))
       (case side4 => exact HC0_3.out)
       (case side5 => repeat (first | exact (Kd.C_below HR0_4.out (by repeat (first | (with_reducible first | exact HB.out | apply below_alloc | apply pw_below_drewN | apply below_drew1 | refine below_set ?_ GE394.out) | exact HB.out))) | (with_reducible refine Kd.C_alloc ?_ _) | (with_reducible refine Kd.C_drewN ?_ _) | (with_reducible refine Kd.C_drew ?_)))
       (case side6 => exact HC0_4.out)
       (case side7 => repeat (first | exact (Kd.C_below HR0_5.out (by repeat (first | (with_reducible first | exact HB.out | apply below_alloc | apply pw_below_drewN | apply below_drew1 | refine below_set ?_ GE394.out) | exact HB.out))) | (with_reducible refine Kd.C_alloc ?_ _) | (with_reducible refine Kd.C_drewN ?_ _) | (with_reducible refine Kd.C_drew ?_)))
       (case side8 => exact HC0_5.out)
       rintro e w42 ⟨v414, rfl, ho0, hb⟩
       refine ⟨_, rfl, ?_⟩
       have n0_ := Aside0.mk (Kd.S_elder' (by (with_reducible repeat (first | apply Kd.S_alloc | apply Kd.S_drewN | apply Kd.S_drew)); exact HO399.out) (Kd.R_base ho0) hb)
       have n1_ := Aside0.mk (Kd.R_below (by (with_reducible repeat (first | apply Kd.R_alloc | apply Kd.R_drewN | apply Kd.R_drew)); exact HO402.out) hb)
       have n2_ := Aside0.mk (Kd.R_below (by (with_reducible repeat (first | apply Kd.R_alloc | apply Kd.R_drewN | apply Kd.R_drew)); exact HO405.out) hb)
       have n3_ := Aside0.mk (Kd.R_elder' (by (with_reducible repeat (first | apply Kd.R_alloc | apply Kd.R_drewN | apply Kd.R_drew)); exact HO408.out) (Kd.R_base ho0) hb)
       have n4_ := Aside0.mk (Kd.R_elder' (by (with_reducible repeat (first | apply Kd.R_alloc | apply Kd.R_drewN | apply Kd.R_drew)); exact HO411.out) (Kd.R_base ho0) hb)
       have n5_ := Aside0.mk (Kd.R_lower (Kd.R_new' (Kd.R_new' ho0 (Kd.R_lt (by (with_reducible repeat (first | apply Kd.R_alloc | apply Kd.R_drewN | apply Kd.R_drew)); exact HO408.out))) (Kd.R_lt (by (with_reducible repeat (first | apply Kd.R_alloc | apply Kd.R_drewN | apply Kd.R_drew)); exact HO411.out))) (below_size (by repeat (first | (with_reducible first | exact HB.out | apply below_alloc | apply pw_below_drewN | apply below_drew1 | refine below_set ?_ GE394.out) | exact HB.out))))
       have n6_ := Aside0.mk (blk_below (g := gb394) (o := .cells #[.string a0_0, .slice A0_1 l0_1.length c0_1, .string a0_2, .slice A0_3 l0_3.length c0_3, .slice A0_4 l0_4.length c0_4, .slice A0_5 l0_5.length c0_5] 26 (0, 0)) (by (with_reducible repeat (first | refine blk_drewN ?_ _ | refine blk_drew ?_ | refine blk_alloc ?_ _)); exact BK394.out) hb)
       have n7_ := Aside0.mk (below_step (by repeat (first | (with_reducible first | exact HB.out | apply below_alloc | apply pw_below_drewN | apply below_drew1 | refine below_set ?_ GE394.out) | exact HB.out)) hb)
       clear HO399
       clear HO402
       clear HO405
       clear HO408
       clear HO411
       clear BK394
       clear HB
       have HO399 := n0_
       have HO402 := n1_
       have HO405 := n2_
       have HO408 := n3_
       have HO411 := n4_
       have HO415 := n5_
       have BK394 := n6_
       have HB := n7_
       clear n0_ n1_ n2_ n3_ n4_ n5_ n6_ n7_
       (try clear hb)
       (try clear hb2)
       (try clear hk)
       (try clear hi)
       (try clear ho0)
       refine hK.out _ _ ⟨(blk_cell BK394.out 0).trans rfl, (blk_cell BK394.out 1).trans rfl, (blk_cell BK394.out 2).trans rfl, (blk_cell BK394.out 3).trans rfl, (blk_cell BK394.out 4).trans rfl, (blk_cell BK394.out 5).trans rfl⟩ (fun hHeld => ?_)
       clear hK K
       refine norm_ (a' := ?_) ?_ ?_
       rotate_left
       ·show Act.put _ (some 44) _ = _
        simp only [Act.put, List.setIfInBounds_toArray, List.set_cons_zero, List.set_cons_succ, i64_w, i32_w]
        rfl
       refine one_ (i := 27) (N := some 46) #[true, true, true, true, true, true, true, true, true, true, true, true, true, true, true, true, true, true, true, true, true, true, true, true, true, true, true, true, false, false, false] rfl rfl (one_of HT_.out (by kernel_rfl)) (by decide) (fun K hK => ?_)
       refine goes_ Try.func23 (by kernel_rfl) rfl #[.agg #[.string a0_0, .slice A0_1 l0_1.length c0_1, .string a0_2, .slice A0_3 l0_3.length c0_3, .slice A0_4 l0_4.length c0_4, .slice A0_5 l0_5.length c0_5]] (by rfl) rfl rfl (by (try simp only [List.map_toArray, List.map_cons, List.map_nil]); first | done | rfl | (simp only [List.length_drop, List.length_take]; rfl)) ?_
       with_reducible refine (truantref09_Order.calls k a0_0 _ _ l0_1 a0_2 _ _ l0_3 _ _ l0_4 _ _ l0_5 t416 _ ?side1 ?side2 ?side3 ?side4 ?side5 ?side6 ?side7 ?side8 A21.out).mono ?_
       (case side1 => repeat (first | exact (Kd.C_below HR0_1.out HB.out) | (with_reducible refine Kd.C_alloc ?_ _) | (with_reducible refine Kd.C_drewN ?_ _) | (with_reducible refine Kd.C_drew ?_)))
       (case side2 => exact HC0_1.out)
       (case side3 => repeat (first | exact (Kd.C_below HR0_3.out HB.out) | (with_reducible refine Kd.C_alloc ?_ _) | (with_reducible refine Kd.C_drewN ?_ _) | (with_reducible refine Kd.C_drew ?_)))
       (case side4 => exact HC0_3.out)
       (case side5 => repeat (first | exact (Kd.C_below HR0_4.out HB.out) | (with_reducible refine Kd.C_alloc ?_ _) | (with_reducible refine Kd.C_drewN ?_ _) | (with_reducible refine Kd.C_drew ?_)))
       (case side6 => exact HC0_4.out)
       (case side7 => repeat (first | exact (Kd.C_below HR0_5.out HB.out) | (with_reducible refine Kd.C_alloc ?_ _) | (with_reducible refine Kd.C_drewN ?_ _) | (with_reducible refine Kd.C_drew ?_)))
       (case side8 => exact HC0_5.out)
       rintro e w43 ⟨v417, rfl, ho0, hb⟩
       refine ⟨_, rfl, ?_⟩
       have n0_ := Aside0.mk (Kd.S_elder' (by (with_reducible repeat (first | apply Kd.S_alloc | apply Kd.S_drewN | apply Kd.S_drew)); exact HO399.out) (Kd.R_base ho0) hb)
       have n1_ := Aside0.mk (Kd.R_below (by (with_reducible repeat (first | apply Kd.R_alloc | apply Kd.R_drewN | apply Kd.R_drew)); exact HO402.out) hb)
       have n2_ := Aside0.mk (Kd.R_below (by (with_reducible repeat (first | apply Kd.R_alloc | apply Kd.R_drewN | apply Kd.R_drew)); exact HO405.out) hb)
       have n3_ := Aside0.mk (Kd.R_elder' (by (with_reducible repeat (first | apply Kd.R_alloc | apply Kd.R_drewN | apply Kd.R_drew)); exact HO408.out) (Kd.R_base ho0) hb)
       have n4_ := Aside0.mk (Kd.R_elder' (by (with_reducible repeat (first | apply Kd.R_alloc | apply Kd.R_drewN | apply Kd.R_drew)); exact HO411.out) (Kd.R_base ho0) hb)
       have n5_ := Aside0.mk (Kd.R_elder' (by (with_reducible repeat (first | apply Kd.R_alloc | apply Kd.R_drewN | apply Kd.R_drew)); exact HO415.out) (Kd.R_base ho0) hb)
       have n6_ := Aside0.mk (Kd.R_lower (Kd.R_new' (Kd.R_new' (Kd.R_new' ho0 (Kd.R_lt (by (with_reducible repeat (first | apply Kd.R_alloc | apply Kd.R_drewN | apply Kd.R_drew)); exact HO408.out))) (Kd.R_lt (by (with_reducible repeat (first | apply Kd.R_alloc | apply Kd.R_drewN | apply Kd.R_drew)); exact HO411.out))) (Kd.R_lt (by (with_reducible repeat (first | apply Kd.R_alloc | apply Kd.R_drewN | apply Kd.R_drew)); exact HO415.out))) (below_size (by repeat (first | (with_reducible first | exact HB.out | apply below_alloc | apply pw_below_drewN | apply below_drew1 | refine below_set ?_ GE394.out) | exact HB.out))))
       have n7_ := Aside0.mk (blk_below (g := gb394) (o := .cells #[.string a0_0, .slice A0_1 l0_1.length c0_1, .string a0_2, .slice A0_3 l0_3.length c0_3, .slice A0_4 l0_4.length c0_4, .slice A0_5 l0_5.length c0_5] 26 (0, 0)) (by (with_reducible repeat (first | refine blk_drewN ?_ _ | refine blk_drew ?_ | refine blk_alloc ?_ _)); exact BK394.out) hb)
       have n8_ := Aside0.mk (below_step (by repeat (first | (with_reducible first | exact HB.out | apply below_alloc | apply pw_below_drewN | apply below_drew1 | refine below_set ?_ GE394.out) | exact HB.out)) hb)
       clear HO399
       clear HO402
       clear HO405
       clear HO408
       clear HO411
       clear HO415
       clear BK394
       clear HB
       have HO399 := n0_
       have HO402 := n1_
       have HO405 := n2_
       have HO408 := n3_
       have HO411 := n4_
       have HO415 := n5_
       have HO418 := n6_
       have BK394 := n7_
       have HB := n8_
       clear n0_ n1_ n2_ n3_ n4_ n5_ n6_ n7_ n8_
       (try clear hb)
       (try clear hb2)
       (try clear hk)
       (try clear hi)
       (try clear ho0)
       obtain ⟨Ao44, co44, eo44⟩ := Kd.R_slice HO415.out
       (first | subst eo44 | (injection eo44 with f1_ f2_ f3_; have f4_ := f1_.symm; have f5_ := f3_.symm; clear f1_ f2_ f3_; subst f4_; subst f5_))
       obtain ⟨Ao45, co45, eo45⟩ := Kd.R_slice HO418.out
       (first | subst eo45 | (injection eo45 with f1_ f2_ f3_; have f4_ := f1_.symm; have f5_ := f3_.symm; clear f1_ f2_ f3_; subst f4_; subst f5_))
       refine hK.out _ _ ⟨(blk_cell BK394.out 0).trans rfl, (blk_cell BK394.out 1).trans rfl, (blk_cell BK394.out 2).trans rfl, (blk_cell BK394.out 3).trans rfl, (blk_cell BK394.out 4).trans rfl, (blk_cell BK394.out 5).trans rfl⟩ (fun hHeld => ?_)
       clear hK K
       refine norm_ (a' := ?_) ?_ ?_
       rotate_left
       ·show Act.put _ (some 46) _ = _
        simp only [Act.put, List.setIfInBounds_toArray, List.set_cons_zero, List.set_cons_succ, i64_w, i32_w]
        rfl
       refine one_ (i := 28) (N := some 47) #[true, true, true, true, true, true, true, true, true, true, true, true, true, true, true, true, true, true, true, true, true, true, true, true, true, true, true, true, true, false, false] rfl rfl (one_of HT_.out (by kernel_rfl)) (by decide) (fun K hK => ?_)
       refine goes_ Try.func19 (by kernel_rfl) rfl #[.slice Ao44 t413.length co44, .slice Ao45 t416.length co45] (by rfl) rfl rfl (by (try simp only [List.map_toArray, List.map_cons, List.map_nil]); first | done | rfl | (simp only [List.length_drop, List.length_take]; rfl)) ?_
       with_reducible refine (truantlaw09_same.calls k _ _ t413 _ _ t416 true _ ?side1 ?side2 ?side3 ?side4 A22.out).mono ?_
       (case side1 => repeat (first | exact (Kd.R_reads' HO415.out).2.2 | (with_reducible refine Kd.C_alloc ?_ _) | (with_reducible refine Kd.C_drewN ?_ _) | (with_reducible refine Kd.C_drew ?_)))
       (case side2 => exact (Kd.R_reads' HO415.out).2.1)
       (case side3 => repeat (first | exact (Kd.R_reads' HO418.out).2.2 | (with_reducible refine Kd.C_alloc ?_ _) | (with_reducible refine Kd.C_drewN ?_ _) | (with_reducible refine Kd.C_drew ?_)))
       (case side4 => exact (Kd.R_reads' HO418.out).2.1)
       rintro e w' ⟨rfl, ⟨nd, rfl⟩⟩
       refine ⟨_, rfl, ?_⟩
       refine hK.out _ _ ⟨(blk_cell BK394.out 0).trans rfl, (blk_cell BK394.out 1).trans rfl, (blk_cell BK394.out 2).trans rfl, (blk_cell BK394.out 3).trans rfl, (blk_cell BK394.out 4).trans rfl, (blk_cell BK394.out 5).trans rfl⟩ (fun hHeld => ?_)
       clear hK K
       refine norm_ (a' := ?_) ?_ ?_
       rotate_left
       ·show Act.put _ (some 47) _ = _
        simp only [Act.put, List.setIfInBounds_toArray, List.set_cons_zero, List.set_cons_succ, i64_w, i32_w]
        rfl
       refine pure_ (i := 29) (N := some 48) (v := ?_) (a' := ?_) #[true, true, true, true, true, true, true, true, true, true, true, true, true, true, true, true, true, true, true, true, true, true, true, true, true, true, true, true, true, true, false] rfl rfl (any_of HT_.out (by kernel_rfl)) (fun _ _ _ h => h) (Or.inl ⟨by rfl, ?_⟩) ?_ ?_
       rotate_left
       ·intro w'
        go_simp
        with_reducible rfl
       rotate_left
       ·simp only [Act.put, List.setIfInBounds_toArray, List.set_cons_zero, List.set_cons_succ, i64_w, i32_w]
        rfl
       refine pure_ (i := 30) (N := some 49) (v := ?_) (a' := ?_) #[true, true, true, true, true, true, true, true, true, true, true, true, true, true, true, true, true, true, true, true, true, true, true, true, true, true, true, true, true, true, true] rfl rfl (any_of HT_.out (by kernel_rfl)) (fun _ _ _ h => h) (Or.inl ⟨by rfl, ?_⟩) ?_ ?_
       rotate_left
       ·intro w'
        go_simp
        with_reducible rfl
       rotate_left
       ·simp only [Act.put, List.setIfInBounds_toArray, List.set_cons_zero, List.set_cons_succ, i64_w, i32_w]
        rfl
       refine done_ (done_of HT_.out (by kernel_rfl)) ?_
       try go_wp2
       go_loopg [8] k (fun kq v8 w' => ∃ (x8_1 : Int), v8 = .int .i64 x8_1 ∧ Aside0 (truantlaw09_FlowExact.l0 kq t397 t400 t403 x8_1 a0_0 l0_1 a0_2 l0_3 l0_4 l0_5 = some r) ∧ Aside0 (kq ≤ k) ∧ Aside0 (Kd.S (Kd.slice 3 (Kd.int .i64)) 34 w' w.heap.size (fun _ => True) (.slice Ao35 t397.length co35) t397) ∧ Aside0 (Kd.R Kd.bool 4 w' w.heap.size (fun k_ => some k_ ≠ ((.slice Ao37 t403.length co37) : Value).ownBlock) (.slice Ao36 t400.length co36) t400) ∧ Aside0 (Kd.R Kd.bool 4 w' w.heap.size (fun k_ => some k_ ≠ ((.slice Ao36 t400.length co36) : Value).ownBlock) (.slice Ao37 t403.length co37) t403) ∧ Aside0 (w'.heap[gb394]? = some (.cells #[.string a0_0, (.slice A0_1 l0_1.length c0_1), .string a0_2, (.slice A0_3 l0_3.length c0_3), (.slice A0_4 l0_4.length c0_4), (.slice A0_5 l0_5.length c0_5)] 26 (0, 0))) ∧ Aside0 (Below w.heap.size w w'))
       case atStart => exact ⟨(0), (by first | rfl | (simp; done) | (simp [*]; done)), H', ⟨Nat.le_refl _⟩, ⟨by (with_reducible repeat (first | apply Kd.S_alloc | apply Kd.S_drewN | apply Kd.S_drew)); exact Kd.S_mono HO399.out (fun _ hk => trivial)⟩, ⟨by (with_reducible repeat (first | apply Kd.R_alloc | apply Kd.R_drewN | apply Kd.R_drew)); exact Kd.R_mono HO402.out (fun _ hk => hk.2)⟩, ⟨by (with_reducible repeat (first | apply Kd.R_alloc | apply Kd.R_drewN | apply Kd.R_drew)); exact Kd.R_mono HO405.out (fun _ hk => hk.2)⟩, ⟨by (with_reducible repeat (first | refine blk_drewN ?_ _ | refine blk_drew ?_ | refine blk_alloc ?_ _)); exact BK394.out⟩, ⟨by repeat (first | (with_reducible first | exact HB.out | apply below_alloc | apply pw_below_drewN | apply below_drew1 | refine below_set ?_ GE394.out) | exact HB.out)⟩⟩
       case round =>
        clear H'
        try clear c1
        try clear c2
        try clear p2
        try clear c3
        try clear c4
        try clear c6
        try clear c14
        try clear c14b0
        try clear c14b1
        try clear c14b2
        try clear c15
        try clear c15b0
        try clear c15b1
        try clear c15b2
        try clear c16
        try clear c17
        try clear c18
        try clear c19
        try clear c20
        try clear c21
        try clear c22
        try clear c23
        try clear hcz26_0
        try clear hcz26_1
        try clear hcz26_2
        try clear hcz26_3
        try clear hcz26_4
        try clear hcz26_5
        try clear hcz28_0
        try clear hcz28_1
        try clear hcz28_2
        try clear hcz28_3
        try clear hcz28_4
        try clear hcz28_5
        try clear hcz30_0
        try clear hcz30_1
        try clear hcz30_2
        try clear hcz30_3
        try clear hcz30_4
        try clear hcz30_5
        try clear hcz32_0
        try clear hcz32_1
        try clear hcz32_2
        try clear hcz32_3
        try clear hcz32_4
        try clear hcz32_5
        try clear hcz9_0
        try clear hcz9_1
        try clear hcz9_2
        try clear hcz9_3
        try clear hcz9_4
        try clear hcz9_5
        try clear hfz26_0
        try clear hfz26_1
        try clear hfz26_2
        try clear hfz26_3
        try clear hfz26_4
        try clear hfz26_5
        try clear hfz28_0
        try clear hfz28_1
        try clear hfz28_2
        try clear hfz28_3
        try clear hfz28_4
        try clear hfz28_5
        try clear hfz30_0
        try clear hfz30_1
        try clear hfz30_2
        try clear hfz30_3
        try clear hfz30_4
        try clear hfz30_5
        try clear hfz32_0
        try clear hfz32_1
        try clear hfz32_2
        try clear hfz32_3
        try clear hfz32_4
        try clear hfz32_5
        try clear hfz9_0
        try clear hfz9_1
        try clear hfz9_2
        try clear hfz9_3
        try clear hfz9_4
        try clear hfz9_5
        obtain ⟨x8_1, rfl, HA, HK1, HO_5, HO_6, HO_7, BK394, HB⟩ := hrel
        cases gk with
        | zero => exact absurd HA.out (by simp [truantlaw09_FlowExact.l0])
        | succ k1 =>
         have H := HA.out
         clear HA
         simp only [truantlaw09_FlowExact.l0] at H
         by_cases c46 : x8_1 < (t403.length : Int)
         ·rw [if_pos c46] at H
          have c46b0 : decide (x8_1 < (t403.length : Int)) = true := decide_eq_true c46
          clear c46
          by_cases c47 : 0 ≤ x8_1
          ·rw [if_pos c47] at H
           have c47b0 : decide (0 ≤ x8_1) = true := decide_eq_true c47
           clear c47
           by_cases c48 : x8_1 < (t400.length : Int)
           ·rw [if_pos c48] at H
            have c48b0 : decide (x8_1 < (t400.length : Int)) = true := decide_eq_true c48
            clear c48
            by_cases c49 : ((rdOf false t400 x8_1) != (rdOf false t403 x8_1)) = true
            ·rw [if_pos c49] at H
             exact absurd H (by simp)
            ·rw [if_neg c49] at H
             have c49b0 : ((rdOf false t400 x8_1) != (rdOf false t403 x8_1)) = false := by simpa using c49
             (try (have c49b1 : decide ((rdOf false t400 x8_1) = (rdOf false t403 x8_1)) = true := by simpa using c49))
             (try (have c49b2 : ((rdOf false t400 x8_1) == (rdOf false t403 x8_1)) = true := by simpa using c49))
             clear c49
             by_cases c50 : x8_1 < (t397.length : Int)
             ·rw [if_pos c50] at H
              have c50b0 : decide (x8_1 < (t397.length : Int)) = true := decide_eq_true c50
              clear c50
              replace H := Option.bind_eq_some_iff.mp H
              obtain ⟨t423, A510, H⟩ := H
              replace H : ((truantlaw09_same.f k1 (rd_L2 t397 x8_1) t423).bind fun t426 => (if t426 = true then (truantlaw09_FlowExact.l0 k1 t397 t400 t403 (wrap64 (x8_1 + 1)) a0_0 l0_1 a0_2 l0_3 l0_4 l0_5) else (none))) = some r := H
              have A51 := Aside0.mk A510
              clear A510
              replace H := Option.bind_eq_some_iff.mp H
              obtain ⟨t426, A520, H⟩ := H
              replace H : (if t426 = true then (truantlaw09_FlowExact.l0 k1 t397 t400 t403 (wrap64 (x8_1 + 1)) a0_0 l0_1 a0_2 l0_3 l0_4 l0_5) else (none)) = some r := H
              have A52 := Aside0.mk A520
              clear A520
              by_cases c53 : t426 = true
              ·subst c53
               have H1 : (truantlaw09_FlowExact.l0 k1 t397 t400 t403 (wrap64 (x8_1 + 1)) a0_0 l0_1 a0_2 l0_3 l0_4 l0_5) = some r := by rw [if_pos rfl] at H; exact H
               clear H
               have H := H1
               clear H1
               have H' := Aside0.mk H
               clear H
               try go_wp2
               have n0_ := Aside0.mk (Kd.S_drew HO_5.out)
               have n1_ := Aside0.mk (Kd.R_drew HO_6.out)
               have n2_ := Aside0.mk (Kd.R_drew HO_7.out)
               have n3_ := Aside0.mk (blk_drew BK394.out)
               have n4_ := Aside0.mk (below_drew1 HB.out)
               clear HO_5
               clear HO_6
               clear HO_7
               clear BK394
               clear HB
               have HO_5 := n0_
               have HO_6 := n1_
               have HO_7 := n2_
               have BK394 := n3_
               have HB := n4_
               clear n0_ n1_ n2_ n3_ n4_
               have p420 : 0 ≤ (x8_1 : Int) := of_decide_eq_true (by first | (with_reducible assumption) | assumption)
               have q420 : x8_1 < (t400.length : Int) := of_decide_eq_true (by first | (with_reducible assumption) | assumption)
               obtain ⟨ad420, e420, hx420_0⟩ := Kd.at_bool (Kd.R_reads' HO_6.out).2.2 x8_1 p420 q420
               cases e420
               replace p420 := eq_true p420
               replace q420 := eq_true q420
               have p421 : 0 ≤ (x8_1 : Int) := of_decide_eq_true (by first | (with_reducible assumption) | assumption)
               have q421 : x8_1 < (t403.length : Int) := of_decide_eq_true (by first | (with_reducible assumption) | assumption)
               obtain ⟨ad421, e421, hx421_0⟩ := Kd.at_bool (Kd.R_reads' HO_7.out).2.2 x8_1 p421 q421
               cases e421
               replace p421 := eq_true p421
               replace q421 := eq_true q421
               have p422 : 0 ≤ (x8_1 : Int) := of_decide_eq_true (by first | (with_reducible assumption) | assumption)
               have q422 : x8_1 < (t397.length : Int) := of_decide_eq_true (by first | (with_reducible assumption) | assumption)
               obtain ⟨ad422, A422_0, c422_0, e422, hx422_0, hl422_0, hi422_0⟩ := at_L2 (Kd.S_reads' HO_5.out).2.2 x8_1 p422 q422
               cases e422
               obtain ⟨ce422, hce422, hMe422, hcc422⟩ := Kd.S_get HO_5.out [] x8_1 p422 (by first | exact q422 | exact of_decide_eq_true (by first | (with_reducible assumption) | assumption) | (have e_ := (Kd.S_reads' HO_5.out).1; omega))
               obtain ⟨ve422_0, rfl, ge422_0⟩ := hMe422
               have hv422_0 := hcc422 0 _ rfl
               rw [Nat.add_zero, show ((Kd.slice 3 (Kd.int .i64))).sz = 1 from rfl, Nat.mul_one] at hv422_0
               replace hv422_0 := Option.some.inj (hv422_0.symm.trans hx422_0)
               rw [hv422_0] at ge422_0
               have HL422_0 := Aside0.mk (show Kd.R (Kd.int .i64) 3 _ _ _ _ (rd_L2 t397 x8_1) from ge422_0)
               clear hv422_0 ge422_0
               clear hcc422 hce422
               have HR422_0 := Aside0.mk hi422_0
               have HC422_0 := Aside0.mk hl422_0
               clear hi422_0 hl422_0
               replace p422 := eq_true p422
               replace q422 := eq_true q422
               refine start_ (n := 20) (S := fun w' => w'.cell? ⟨gb394, 0, none⟩ = some (.string a0_0) ∧ w'.cell? ⟨gb394, 1, none⟩ = some (.slice A0_1 l0_1.length c0_1) ∧ w'.cell? ⟨gb394, 2, none⟩ = some (.string a0_2) ∧ w'.cell? ⟨gb394, 3, none⟩ = some (.slice A0_3 l0_3.length c0_3) ∧ w'.cell? ⟨gb394, 4, none⟩ = some (.slice A0_4 l0_4.length c0_4) ∧ w'.cell? ⟨gb394, 5, none⟩ = some (.slice A0_5 l0_5.length c0_5) ∧ w'.cell? (ad420.add (x8_1).toNat) = some (.bool (rdOf false t400 x8_1)) ∧ w'.cell? (ad421.add (x8_1).toNat) = some (.bool (rdOf false t403 x8_1)) ∧ w'.cell? (ad422.add (x8_1).toNat) = some (.slice A422_0 (rd_L2 t397 x8_1).length c422_0)) (ds := []) #[false, false, false, false, false, false, false, false, false, false, false, false, false, false, false, false, false, false, false, false] (by kernel_rfl) rfl rfl ⟨(blk_cell BK394.out 0).trans rfl, (blk_cell BK394.out 1).trans rfl, (blk_cell BK394.out 2).trans rfl, (blk_cell BK394.out 3).trans rfl, (blk_cell BK394.out 4).trans rfl, (blk_cell BK394.out 5).trans rfl, hx420_0, hx421_0, hx422_0⟩ (fun hHeld => ?_); refine with_tabW truantlaw09_FlowExact.tab13 truantlaw09_FlowExact.bits13 (fun HT_ HW_ => ?_)
               generalize wr.drew = w54 at HO_5 HO_6 HO_7 BK394 HB HL422_0 HR422_0 hx420_0 hx421_0 hx422_0 hHeld ⊢
               refine pure_ (i := 0) (N := some 56) (v := ?_) (a' := ?_) #[true, false, false, false, false, false, false, false, false, false, false, false, false, false, false, false, false, false, false, false] rfl rfl (any_of HT_.out (by kernel_rfl)) (fun _ _ _ h => h) (Or.inl ⟨by rfl, ?_⟩) ?_ ?_
               rotate_left
               ·intro w'
                go_simp
                with_reducible rfl
               rotate_left
               ·simp only [Act.put, List.setIfInBounds_toArray, List.set_cons_zero, List.set_cons_succ, i64_w, i32_w]
                rfl
               refine pure_ (i := 1) (N := some 57) (v := ?_) (a' := ?_) #[true, true, false, false, false, false, false, false, false, false, false, false, false, false, false, false, false, false, false, false] rfl rfl (any_of HT_.out (by kernel_rfl)) (fun _ _ _ h => h) (Or.inl ⟨by rfl, ?_⟩) ?_ ?_
               rotate_left
               ·intro w'
                go_simp
                with_reducible rfl
               rotate_left
               ·simp only [Act.put, List.setIfInBounds_toArray, List.set_cons_zero, List.set_cons_succ, i64_w, i32_w]
                rfl
               refine pure_ (i := 2) (N := some 58) (v := ?_) (a' := ?_) #[true, true, true, false, false, false, false, false, false, false, false, false, false, false, false, false, false, false, false, false] rfl rfl (any_of HT_.out (by kernel_rfl)) (fun _ _ _ h => h) (Or.inl ⟨by rfl, ?_⟩) ?_ ?_
               rotate_left
               ·intro w'
                go_simp
                with_reducible rfl
               rotate_left
               ·simp only [Act.put, List.setIfInBounds_toArray, List.set_cons_zero, List.set_cons_succ, i64_w, i32_w]
                rfl
               refine pure_ (i := 4) (N := some 60) (v := ?_) (a' := ?_) #[true, true, true, false, true, false, false, false, false, false, false, false, false, false, false, false, false, false, false, false] rfl rfl (any_of HT_.out (by kernel_rfl)) (fun _ _ _ h => h) (Or.inl ⟨by rfl, ?_⟩) ?_ ?_
               rotate_left
               ·intro w'
                go_simp
                with_reducible rfl
               rotate_left
               ·simp only [Act.put, List.setIfInBounds_toArray, List.set_cons_zero, List.set_cons_succ, i64_w, i32_w]
                rfl
               refine pure_ (i := 5) (N := some 61) (v := ?_) (a' := ?_) #[true, true, true, false, true, true, false, false, false, false, false, false, false, false, false, false, false, false, false, false] rfl rfl (any_of HT_.out (by kernel_rfl)) (fun _ _ _ h => h) (Or.inl ⟨by rfl, ?_⟩) ?_ ?_
               rotate_left
               ·intro w'
                go_simp
                with_reducible rfl
               rotate_left
               ·simp only [Act.put, List.setIfInBounds_toArray, List.set_cons_zero, List.set_cons_succ, i64_w, i32_w]
                rfl
               refine pure_ (i := 6) (N := some 62) (v := ?_) (a' := ?_) #[true, true, true, false, true, true, true, false, false, false, false, false, false, false, false, false, false, false, false, false] rfl rfl (any_of HT_.out (by kernel_rfl)) (fun _ _ _ h => h) (Or.inl ⟨by rfl, ?_⟩) ?_ ?_
               rotate_left
               ·intro w'
                go_simp
                with_reducible rfl
               rotate_left
               ·simp only [Act.put, List.setIfInBounds_toArray, List.set_cons_zero, List.set_cons_succ, i64_w, i32_w]
                rfl
               refine take_ (i := 3) (N := some 59) (v := ?_) (a' := ?_) #[true, true, true, true, true, true, true, false, false, false, false, false, false, false, false, false, false, false, false, false] rfl rfl (take_ofW HT_.out HW_.out (by kernel_rfl)) (fun _ _ _ h => h) (Or.inl ⟨by rfl, ?_⟩) hHeld ?_ ?_
               rotate_left
               ·rintro w' ⟨s0, s1, s2, s3, s4, s5, s6, s7, s8⟩
                go_simp
                with_reducible rfl
               rotate_left
               ·simp only [Act.put, List.setIfInBounds_toArray, List.set_cons_zero, List.set_cons_succ, i64_w, i32_w]
                rfl
               refine take_ (i := 7) (N := some 63) (v := ?_) (a' := ?_) #[true, true, true, true, true, true, true, true, false, false, false, false, false, false, false, false, false, false, false, false] rfl rfl (take_ofW HT_.out HW_.out (by kernel_rfl)) (fun _ _ _ h => h) (Or.inl ⟨by rfl, ?_⟩) hHeld ?_ ?_
               rotate_left
               ·rintro w' ⟨s0, s1, s2, s3, s4, s5, s6, s7, s8⟩
                go_simp
                with_reducible rfl
               rotate_left
               ·simp only [Act.put, List.setIfInBounds_toArray, List.set_cons_zero, List.set_cons_succ, i64_w, i32_w]
                rfl
               refine pure_ (i := 8) (N := some 64) (v := ?_) (a' := ?_) #[true, true, true, true, true, true, true, true, true, false, false, false, false, false, false, false, false, false, false, false] rfl rfl (any_of HT_.out (by kernel_rfl)) (fun _ _ _ h => h) (Or.inl ⟨by rfl, ?_⟩) ?_ ?_
               rotate_left
               ·intro w'
                go_simp
                with_reducible rfl
               rotate_left
               ·simp only [Act.put, List.setIfInBounds_toArray, List.set_cons_zero, List.set_cons_succ, i64_w, i32_w]
                rfl
               refine pure_ (i := 9) (N := some 65) (v := ?_) (a' := ?_) #[true, true, true, true, true, true, true, true, true, true, false, false, false, false, false, false, false, false, false, false] rfl rfl (any_of HT_.out (by kernel_rfl)) (fun _ _ _ h => h) (Or.inl ⟨by rfl, ?_⟩) ?_ ?_
               rotate_left
               ·intro w'
                go_simp
                with_reducible rfl
               rotate_left
               ·simp only [Act.put, List.setIfInBounds_toArray, List.set_cons_zero, List.set_cons_succ, i64_w, i32_w]
                rfl
               refine pure_ (i := 10) (N := some 66) (v := ?_) (a' := ?_) #[true, true, true, true, true, true, true, true, true, true, true, false, false, false, false, false, false, false, false, false] rfl rfl (any_of HT_.out (by kernel_rfl)) (fun _ _ _ h => h) (Or.inl ⟨by rfl, ?_⟩) ?_ ?_
               rotate_left
               ·intro w'
                go_simp
                with_reducible rfl
               rotate_left
               ·simp only [Act.put, List.setIfInBounds_toArray, List.set_cons_zero, List.set_cons_succ, i64_w, i32_w]
                rfl
               refine pure_ (i := 11) (N := some 67) (v := ?_) (a' := ?_) #[true, true, true, true, true, true, true, true, true, true, true, true, false, false, false, false, false, false, false, false] rfl rfl (any_of HT_.out (by kernel_rfl)) (fun _ _ _ h => h) (Or.inl ⟨by rfl, ?_⟩) ?_ ?_
               rotate_left
               ·intro w'
                go_simp
                with_reducible rfl
               rotate_left
               ·simp only [Act.put, List.setIfInBounds_toArray, List.set_cons_zero, List.set_cons_succ, i64_w, i32_w]
                rfl
               refine pure_ (i := 12) (N := some 68) (v := ?_) (a' := ?_) #[true, true, true, true, true, true, true, true, true, true, true, true, true, false, false, false, false, false, false, false] rfl rfl (any_of HT_.out (by kernel_rfl)) (fun _ _ _ h => h) (Or.inl ⟨by rfl, ?_⟩) ?_ ?_
               rotate_left
               ·intro w'
                go_simp
                with_reducible rfl
               rotate_left
               ·simp only [Act.put, List.setIfInBounds_toArray, List.set_cons_zero, List.set_cons_succ, i64_w, i32_w]
                rfl
               refine pure_ (i := 15) (N := some 71) (v := ?_) (a' := ?_) #[true, true, true, true, true, true, true, true, true, true, true, true, true, false, false, true, false, false, false, false] rfl rfl (any_of HT_.out (by kernel_rfl)) (fun _ _ _ h => h) (Or.inl ⟨by rfl, ?_⟩) ?_ ?_
               rotate_left
               ·intro w'
                go_simp
                with_reducible rfl
               rotate_left
               ·simp only [Act.put, List.setIfInBounds_toArray, List.set_cons_zero, List.set_cons_succ, i64_w, i32_w]
                rfl
               refine take_ (i := 13) (N := some 69) (v := ?_) (a' := ?_) #[true, true, true, true, true, true, true, true, true, true, true, true, true, true, false, true, false, false, false, false] rfl rfl (take_ofW HT_.out HW_.out (by kernel_rfl)) (fun _ _ _ h => h) (Or.inl ⟨by rfl, ?_⟩) hHeld ?_ ?_
               rotate_left
               ·rintro w' ⟨s0, s1, s2, s3, s4, s5, s6, s7, s8⟩
                go_simp
                with_reducible rfl
               rotate_left
               ·simp only [Act.put, List.setIfInBounds_toArray, List.set_cons_zero, List.set_cons_succ, i64_w, i32_w]
                rfl
               refine take_ (i := 14) (N := some 70) (v := ?_) (a' := ?_) #[true, true, true, true, true, true, true, true, true, true, true, true, true, true, true, true, false, false, false, false] rfl rfl (take_ofW HT_.out HW_.out (by kernel_rfl)) (fun _ _ _ h => h) (Or.inl ⟨by rfl, ?_⟩) hHeld ?_ ?_
               rotate_left
               ·rintro w' ⟨s0, s1, s2, s3, s4, s5, s6, s7, s8⟩
                go_simp
                with_reducible rfl
               rotate_left
               ·simp only [Act.put, List.setIfInBounds_toArray, List.set_cons_zero, List.set_cons_succ, i64_w, i32_w]
                rfl
               refine one_ (i := 16) (N := some 72) #[true, true, true, true, true, true, true, true, true, true, true, true, true, true, true, true, true, false, false, false] rfl rfl (one_of HT_.out (by kernel_rfl)) (by decide) (fun K hK => ?_)
               refine goes_ Try.func24 (by kernel_rfl) rfl #[.agg #[.string a0_0, .slice A0_1 l0_1.length c0_1, .string a0_2, .slice A0_3 l0_3.length c0_3, .slice A0_4 l0_4.length c0_4, .slice A0_5 l0_5.length c0_5], .int .i64 x8_1] (by rfl) rfl rfl (by (try simp only [List.map_toArray, List.map_cons, List.map_nil]); first | done | rfl | (simp only [List.length_drop, List.length_take]; rfl)) ?_
               with_reducible refine (truantref09_Ahead.calls k1 a0_0 _ _ l0_1 a0_2 _ _ l0_3 _ _ l0_4 _ _ l0_5 x8_1 t423 _ ?side1 ?side2 ?side3 ?side4 ?side5 ?side6 ?side7 ?side8 A51.out).mono ?_
               (case side1 => repeat (first | exact (Kd.C_below HR0_1.out HB.out) | (with_reducible refine Kd.C_alloc ?_ _) | (with_reducible refine Kd.C_drewN ?_ _) | (with_reducible refine Kd.C_drew ?_)))
               (case side2 => exact HC0_1.out)
               (case side3 => repeat (first | exact (Kd.C_below HR0_3.out HB.out) | (with_reducible refine Kd.C_alloc ?_ _) | (with_reducible refine Kd.C_drewN ?_ _) | (with_reducible refine Kd.C_drew ?_)))
               (case side4 => exact HC0_3.out)
               (case side5 => repeat (first | exact (Kd.C_below HR0_4.out HB.out) | (with_reducible refine Kd.C_alloc ?_ _) | (with_reducible refine Kd.C_drewN ?_ _) | (with_reducible refine Kd.C_drew ?_)))
               (case side6 => exact HC0_4.out)
               (case side7 => repeat (first | exact (Kd.C_below HR0_5.out HB.out) | (with_reducible refine Kd.C_alloc ?_ _) | (with_reducible refine Kd.C_drewN ?_ _) | (with_reducible refine Kd.C_drew ?_)))
               (case side8 => exact HC0_5.out)
               rintro e w55 ⟨v424, rfl, ho0, hb⟩
               have HS6_ := (hb.cell (World.block_lt_of_cell? _ _ (hHeld.2.2.2.2.2.2.1))).trans (hHeld.2.2.2.2.2.2.1)
               have HS7_ := (hb.cell (World.block_lt_of_cell? _ _ (hHeld.2.2.2.2.2.2.2.1))).trans (hHeld.2.2.2.2.2.2.2.1)
               have HS8_ := (hb.cell (World.block_lt_of_cell? _ _ (hHeld.2.2.2.2.2.2.2.2))).trans (hHeld.2.2.2.2.2.2.2.2)
               refine ⟨_, rfl, ?_⟩
               have n0_ := Aside0.mk (Kd.S_elder' (by (with_reducible repeat (first | apply Kd.S_alloc | apply Kd.S_drewN | apply Kd.S_drew)); exact HO_5.out) (Kd.R_base ho0) hb)
               have n1_ := Aside0.mk (Kd.R_below (by (with_reducible repeat (first | apply Kd.R_alloc | apply Kd.R_drewN | apply Kd.R_drew)); exact HO_6.out) hb)
               have n2_ := Aside0.mk (Kd.R_below (by (with_reducible repeat (first | apply Kd.R_alloc | apply Kd.R_drewN | apply Kd.R_drew)); exact HO_7.out) hb)
               have n3_ := Aside0.mk (Kd.R_elder' (by (with_reducible repeat (first | apply Kd.R_alloc | apply Kd.R_drewN | apply Kd.R_drew)); exact HL422_0.out) (Kd.R_base ho0) hb)
               have n4_ := Aside0.mk (Kd.R_lower (Kd.R_new' ho0 (Kd.R_lt (by (with_reducible repeat (first | apply Kd.R_alloc | apply Kd.R_drewN | apply Kd.R_drew)); exact HL422_0.out))) (below_size (by repeat (first | (with_reducible first | exact HB.out | apply below_alloc | apply pw_below_drewN | apply below_drew1 | refine below_set ?_ GE394.out) | exact HB.out))))
               have n5_ := Aside0.mk (blk_below (g := gb394) (o := .cells #[.string a0_0, .slice A0_1 l0_1.length c0_1, .string a0_2, .slice A0_3 l0_3.length c0_3, .slice A0_4 l0_4.length c0_4, .slice A0_5 l0_5.length c0_5] 26 (0, 0)) (by (with_reducible repeat (first | refine blk_drewN ?_ _ | refine blk_drew ?_ | refine blk_alloc ?_ _)); exact BK394.out) hb)
               have n6_ := Aside0.mk (Kd.C_below (by repeat (first | (with_reducible exact HR422_0.out) | (with_reducible refine Kd.C_alloc ?_ _) | (with_reducible refine Kd.C_drewN ?_ _) | (with_reducible refine Kd.C_drew ?_) | exact HR422_0.out)) hb)
               have n7_ := Aside0.mk (below_step (by repeat (first | (with_reducible first | exact HB.out | apply below_alloc | apply pw_below_drewN | apply below_drew1 | refine below_set ?_ GE394.out) | exact HB.out)) hb)
               clear HO_5
               clear HO_6
               clear HO_7
               clear HL422_0
               clear BK394
               clear HR422_0
               clear HB
               have HO_5 := n0_
               have HO_6 := n1_
               have HO_7 := n2_
               have HL422_0 := n3_
               have HO425 := n4_
               have BK394 := n5_
               have HR422_0 := n6_
               have HB := n7_
               clear n0_ n1_ n2_ n3_ n4_ n5_ n6_ n7_
               (try clear hb)
               (try clear hb2)
               (try clear hk)
               (try clear hi)
               (try clear ho0)
               obtain ⟨Ao56, co56, eo56⟩ := Kd.R_slice HO425.out
               (first | subst eo56 | (injection eo56 with f1_ f2_ f3_; have f4_ := f1_.symm; have f5_ := f3_.symm; clear f1_ f2_ f3_; subst f4_; subst f5_))
               refine hK.out _ _ ⟨(blk_cell BK394.out 0).trans rfl, (blk_cell BK394.out 1).trans rfl, (blk_cell BK394.out 2).trans rfl, (blk_cell BK394.out 3).trans rfl, (blk_cell BK394.out 4).trans rfl, (blk_cell BK394.out 5).trans rfl, HS6_, HS7_, HS8_⟩ (fun hHeld => ?_)
               clear hK K
               refine norm_ (a' := ?_) ?_ ?_
               rotate_left
               ·show Act.put _ (some 72) _ = _
                simp only [Act.put, List.setIfInBounds_toArray, List.set_cons_zero, List.set_cons_succ, i64_w, i32_w]
                rfl
               refine one_ (i := 17) (N := some 73) #[true, true, true, true, true, true, true, true, true, true, true, true, true, true, true, true, true, true, false, false] rfl rfl (one_of HT_.out (by kernel_rfl)) (by decide) (fun K hK => ?_)
               refine goes_ Try.func19 (by kernel_rfl) rfl #[.slice A422_0 (rd_L2 t397 x8_1).length c422_0, .slice Ao56 t423.length co56] (by rfl) rfl rfl (by (try simp only [List.map_toArray, List.map_cons, List.map_nil]); first | done | rfl | (simp only [List.length_drop, List.length_take]; rfl)) ?_
               with_reducible refine (truantlaw09_same.calls k1 _ _ (rd_L2 t397 x8_1) _ _ t423 true _ ?side1 ?side2 ?side3 ?side4 A52.out).mono ?_
               (case side1 => repeat (first | exact (by repeat (first | (with_reducible exact HR422_0.out) | (with_reducible refine Kd.C_alloc ?_ _) | (with_reducible refine Kd.C_drewN ?_ _) | (with_reducible refine Kd.C_drew ?_) | exact HR422_0.out)) | (with_reducible refine Kd.C_alloc ?_ _) | (with_reducible refine Kd.C_drewN ?_ _) | (with_reducible refine Kd.C_drew ?_)))
               (case side2 => exact HC422_0.out)
               (case side3 => repeat (first | exact (Kd.R_reads' HO425.out).2.2 | (with_reducible refine Kd.C_alloc ?_ _) | (with_reducible refine Kd.C_drewN ?_ _) | (with_reducible refine Kd.C_drew ?_)))
               (case side4 => exact (Kd.R_reads' HO425.out).2.1)
               rintro e w' ⟨rfl, ⟨nd, rfl⟩⟩
               refine ⟨_, rfl, ?_⟩
               refine hK.out _ _ ⟨(blk_cell BK394.out 0).trans rfl, (blk_cell BK394.out 1).trans rfl, (blk_cell BK394.out 2).trans rfl, (blk_cell BK394.out 3).trans rfl, (blk_cell BK394.out 4).trans rfl, (blk_cell BK394.out 5).trans rfl, hHeld.2.2.2.2.2.2.1, hHeld.2.2.2.2.2.2.2.1, hHeld.2.2.2.2.2.2.2.2⟩ (fun hHeld => ?_)
               clear hK K
               refine norm_ (a' := ?_) ?_ ?_
               rotate_left
               ·show Act.put _ (some 73) _ = _
                simp only [Act.put, List.setIfInBounds_toArray, List.set_cons_zero, List.set_cons_succ, i64_w, i32_w]
                rfl
               refine pure_ (i := 18) (N := some 74) (v := ?_) (a' := ?_) #[true, true, true, true, true, true, true, true, true, true, true, true, true, true, true, true, true, true, true, false] rfl rfl (any_of HT_.out (by kernel_rfl)) (fun _ _ _ h => h) (Or.inl ⟨by rfl, ?_⟩) ?_ ?_
               rotate_left
               ·intro w'
                go_simp
                with_reducible rfl
               rotate_left
               ·simp only [Act.put, List.setIfInBounds_toArray, List.set_cons_zero, List.set_cons_succ, i64_w, i32_w]
                rfl
               refine pure_ (i := 19) (N := some 75) (v := ?_) (a' := ?_) #[true, true, true, true, true, true, true, true, true, true, true, true, true, true, true, true, true, true, true, true] rfl rfl (any_of HT_.out (by kernel_rfl)) (fun _ _ _ h => h) (Or.inl ⟨by rfl, ?_⟩) ?_ ?_
               rotate_left
               ·intro w'
                go_simp
                with_reducible rfl
               rotate_left
               ·simp only [Act.put, List.setIfInBounds_toArray, List.set_cons_zero, List.set_cons_succ, i64_w, i32_w]
                rfl
               refine done_ (done_of HT_.out (by kernel_rfl)) ?_
               try go_wp2
               go_roundg k1
               case measure => have := HK1.out; omega
               case rel => exact ⟨(wrap64 (x8_1 + 1)), (by first | rfl | (simp; done) | (simp [*]; done)), H', ⟨by have := HK1.out; omega⟩, ⟨by (with_reducible repeat (first | apply Kd.S_alloc | apply Kd.S_drewN | apply Kd.S_drew)); exact Kd.S_mono HO_5.out (fun _ hk => trivial)⟩, ⟨by (with_reducible repeat (first | apply Kd.R_alloc | apply Kd.R_drewN | apply Kd.R_drew)); exact HO_6.out⟩, ⟨by (with_reducible repeat (first | apply Kd.R_alloc | apply Kd.R_drewN | apply Kd.R_drew)); exact HO_7.out⟩, ⟨by (with_reducible repeat (first | refine blk_drewN ?_ _ | refine blk_drew ?_ | refine blk_alloc ?_ _)); exact BK394.out⟩, ⟨by repeat (first | (with_reducible first | exact HB.out | apply below_alloc | apply pw_below_drewN | apply below_drew1 | refine below_set ?_ GE394.out) | exact HB.out)⟩⟩
              ·replace c53 := Bool.eq_false_iff.mpr c53
               subst c53
               have H1 : (none) = some r := by rw [if_neg (show ¬ (false = true) by decide)] at H; exact H
               clear H
               have H := H1
               clear H1
               exact absurd H (by simp)
             ·rw [if_neg c50] at H
              exact absurd H (by simp)
           ·rw [if_neg c48] at H
            exact absurd H (by simp)
          ·rw [if_neg c47] at H
           exact absurd H (by simp)
         ·rw [if_neg c46] at H
          have c46b0 : decide (x8_1 < (t403.length : Int)) = false := decide_eq_false c46
          clear c46
          obtain rfl := Option.some.inj H
          go_wp2
          go_ret
          exact ⟨by first | rfl | (simp [errW_none, errW_some] <;> rfl) | (simp [*, errW_none, errW_some] <;> rfl), by repeat (first | (with_reducible first | exact HB.out | apply below_alloc | apply pw_below_drewN | apply below_drew1 | refine below_set ?_ GE394.out) | exact HB.out)⟩
      ·replace c23 := Bool.eq_false_iff.mpr c23
       subst c23
       have H1 : (none) = some r := by rw [if_neg (show ¬ (false = true) by decide)] at H; exact H
       clear H
       have H := H1
       clear H1
       exact absurd H (by simp)
     ·replace c19 := Bool.eq_false_iff.mpr c19
      subst c19
      have H1 : (none) = some r := by rw [if_neg (show ¬ (false = true) by decide)] at H; exact H
      clear H
      have H := H1
      clear H1
      exact absurd H (by simp)
    ·rw [if_neg c15] at H
     exact absurd H (by simp)
   ·rw [if_neg c14] at H
    exact absurd H (by simp)
 ·replace c4 := Bool.eq_false_iff.mpr c4
  subst c4
  have H1 : (none) = some r := by rw [if_neg (show ¬ (false = true) by decide)] at H; exact H
  clear H
  have H := H1
  clear H1
  exact absurd H (by simp)

end Go.Proofs.Ytclhjalgflebfaa.Q

/- How an argument of a type reads: out of the form's reading comes the value that the printed walks take. -/
namespace Go.Proofs.Ytclhjalgflebfaa.Q
open Go.RowKit Go.Proofs.YtclhjalgflebfaaW.PrintWords Go.Proofs.YtclhjalgflebfaaW.PrintLast Go.Proofs.YtclhjalgflebfaaW.PrintMore
set_option linter.unusedVariables false
set_option linter.unusedSimpArgs false
/-- What reads at type t reads as a value of kind K, of which Q holds. -/
structure Opens {α : Type} (P : Program) (t : TypeId) (K : Kd α) (Q : α → Prop) : Prop where
 out : ∀ {H : Type} {enc : TypeId × Value → H} {W : World} {base : Nat} {sp : Nat → Bool} {held : Bool} {fuel : Nat} {cs : List Value} {x : DataW H × List MemPlace},
  (∀ n ∈ x.1.weights P t, n ≤ reachBytes) → DataW.trod enc P W base sp held fuel t cs = some x → ∃ y, K.K W y cs ∧ Q y
section
variable {P : Program}
theorem opens_string {t : TypeId} (ht : P.underlying t = some .string) : Opens P t Kd.string (fun s => s.size ≤ 140737488351232) := by
 constructor
 intro H enc W base sp held fuel cs x hw h
 obtain ⟨s, rfl, rfl, hs⟩ : ∃ s : ByteArray, cs = [.string s] ∧ x = (.lit (.string s.data.toList), []) ∧ s.size ≤ maxLen := by
  cases fuel with
  | zero => simp [DataW.trod] at h
  | succ n =>
   unfold DataW.trod at h
   rw [ht] at h
   split at h <;> simp_all
 refine ⟨s, rfl, ?_⟩
 have := hw s.data.toList.length (by simp [DataW.weights])
 rw [Array.length_toList] at this
 exact this
theorem opens_int {t : TypeId} {q : IntKind} (ht : P.underlying t = some (.int q)) : Opens P t (Kd.int q) (fun n => (Lit.int q n).wf = true) := by
 constructor
 intro H enc W base sp held fuel cs x hw h
 obtain ⟨n, rfl, hs⟩ : ∃ n : Int, cs = [.int q n] ∧ (Lit.int q n).wf = true := by
  cases fuel with
  | zero => simp [DataW.trod] at h
  | succ n =>
   unfold DataW.trod at h
   rw [ht] at h
   split at h <;> simp_all
 exact ⟨n, rfl, hs⟩
theorem opens_bool {t : TypeId} (ht : P.underlying t = some .bool) : Opens P t Kd.bool (fun _ => True) := by
 constructor
 intro H enc W base sp held fuel cs x hw h
 obtain ⟨b, rfl⟩ : ∃ b : Bool, cs = [.bool b] := by
  cases fuel with
  | zero => simp [DataW.trod] at h
  | succ n =>
   unfold DataW.trod at h
   rw [ht] at h
   split at h <;> simp_all
 exact ⟨b, rfl, trivial⟩
theorem weights_all {H : Type} {e : TypeId} : ∀ {ds : List (DataW H)} {d : DataW H}, d ∈ ds → ∀ n ∈ d.weights P e, n ∈ DataW.weightsAll P e ds
 | d0 :: ds, d, hd, n, hn => by
  simp only [DataW.weightsAll, List.mem_append]
  rcases List.mem_cons.mp hd with rfl | h
  ·exact .inl hn
  ·exact .inr (weights_all h n hn)
theorem choose_list {α : Type} {p : Nat → α → Prop} : ∀ {n : Nat}, (∀ i, i < n → ∃ y, p i y) → ∃ ys : List α, ys.length = n ∧ ∀ i y, ys[i]? = some y → p i y
 | 0, _ => ⟨[], rfl, fun i y h => by simp at h⟩
 | n + 1, h => by
  obtain ⟨ys, hl, hy⟩ := choose_list (n := n) (fun i hi => h i (by omega))
  obtain ⟨y, hp⟩ := h n (by omega)
  refine ⟨ys ++ [y], by simp [hl], fun i z hz => ?_⟩
  by_cases hi : i < n
  ·rw [List.getElem?_append_left (by omega)] at hz
   exact hy i z hz
  ·have := (List.getElem?_eq_some_iff.mp hz).1
   simp at this
   have e : i = n := by omega
   subst e
   rw [List.getElem?_append_right (by omega)] at hz
   simp [hl] at hz
   subst hz
   exact hp
theorem opens_slice {α : Type} {t e : TypeId} {K : Kd α} {Q : α → Prop} (he : Opens P e K Q) (ht : P.underlying t = some (.slice e)) (hc : P.cellsOf e = K.sz) (bytes : Nat) (hb : P.bytesOf e = bytes) :
  Opens P t (Kd.slice e K) (fun l => l.length * bytes ≤ 140737488351232 ∧ ∀ x ∈ l, Q x) := by
 constructor
 intro H enc W base sp held fuel cs x hw h
 rcases Deep.open_slice ht h with ⟨rfl, rfl⟩ | ⟨a, len, cap, m, n, D, Pl, rfl, _, hl, hm, hmm, rfl, hel⟩
 ·exact ⟨[], ⟨none, 0, rfl, Nat.le_refl _, Kd.C_nil K W⟩, by simp, by simp⟩
 ·have hlm : len ≤ m := by rw [hmm]; split <;> omega
  have hw' : ∀ i, i < len → ∀ k ∈ (D i).weights P e, k ≤ reachBytes := fun i hi k hk => hw k (by
   simp only [DataW.weights, ht, List.mem_cons, List.mem_append]
   exact .inr (.inl (weights_all (List.mem_map.mpr ⟨i, by simpa using hi, rfl⟩) k hk)))
  obtain ⟨ys, hys, hY⟩ := choose_list (n := len) (p := fun i y => (∃ c, c.length = K.sz ∧ K.K W y c ∧ ∀ j u, c[j]? = some u → W.cell? (a.add (i * K.sz + j)) = some u) ∧ Q y) (fun i hi => by
   obtain ⟨c, h1, h2⟩ := hel i (by omega)
   obtain ⟨y, hy, hq⟩ := he.out (hw' i hi) h2
   obtain ⟨_, h3, h4⟩ := World.cells?_some h1
   rw [hc] at h3 h4
   refine ⟨y, ⟨c, h3, hy, fun j u hu => ?_⟩, hq⟩
   have hj : j < K.sz := by
    have := (List.getElem?_eq_some_iff.mp hu).1
    omega
   have h5 := h4 j hj
   rw [Addr.add_add] at h5
   rw [h5, hu])
  have hlen : len ≤ maxLen := by omega
  refine ⟨ys, ⟨some a, cap, by rw [hys], by omega, rfl, by rw [hys]; unfold maxLen at hlen; omega, fun _ => ⟨a, rfl, fun j p hj => (hY j p hj).1⟩⟩, ?_, ?_⟩
  ·have := hw ((((List.range len).map D).length + ((List.range (m - len)).map fun j => D (len + j)).length) * P.bytesOf e) (by simp [DataW.weights, ht])
   rw [hb] at this
   simp only [List.length_map, List.length_range] at this
   have h2 : len * bytes ≤ (len + (m - len)) * bytes := Nat.mul_le_mul_right _ (by omega)
   rw [hys]
   unfold reachBytes at this
   omega
  ·intro x hx
   obtain ⟨i, hi, rfl⟩ := List.mem_iff_getElem.mp hx
   exact (hY i _ (List.getElem?_eq_getElem hi)).2
/-- The fields from one on. -/
structure OpensF {α : Type} (P : Program) (fs : List Field) (off : Nat) (K : Kd α) (Q : α → Prop) : Prop where
 out : ∀ {H : Type} {enc : TypeId × Value → H} {W : World} {base : Nat} {sp : Nat → Bool} {held : Bool} {fuel : Nat} {cs : List Value} {xs : List (DataW H × List MemPlace)},
  cs.length = off + K.sz → (∀ n ∈ DataW.weightsEach P (fs.map (·.type)) (xs.map (·.1)), n ≤ reachBytes) → (fs.mapM fun f => DataW.trod enc P W base sp held fuel f.type ((cs.drop f.offset).take (P.cellsOf f.type))) = some xs → ∃ y, K.K W y (cs.drop off) ∧ Q y
theorem opensF_last {α : Type} {f : Field} {off t : Nat} {K : Kd α} {Q : α → Prop} (h : Opens P t K Q) (h0 : f.type = t) (hc : P.cellsOf t = K.sz) (ho : f.offset = off) : OpensF P [f] off K Q := by
 constructor
 intro H enc W base sp held fuel cs xs hl hw hm
 subst h0
 simp only [List.mapM_cons, List.mapM_nil, Option.pure_def, Option.bind_eq_bind, Option.bind_some] at hm
 obtain ⟨x, hx, hm⟩ := Option.bind_eq_some_iff.mp hm
 obtain rfl := Option.some.inj hm
 rw [hc, ho, List.take_of_length_le (by rw [List.length_drop]; omega)] at hx
 exact h.out (fun n hn => hw n (by simp [DataW.weightsEach, hn])) hx
theorem opensF_cons {α β : Type} {f : Field} {fs : List Field} {off t : Nat} {K : Kd α} {K1 : Kd β} {Q : α → Prop} {Q1 : β → Prop} (h : Opens P t K Q) (h0 : f.type = t) (hc : P.cellsOf t = K.sz) (ho : f.offset = off) (h1 : OpensF P fs (off + K.sz) K1 Q1) :
  OpensF P (f :: fs) off (Kd.pair K K1) (fun p => Q p.1 ∧ Q1 p.2) := by
 constructor
 intro H enc W base sp held fuel cs xs hl hw hm
 subst h0
 have hl : cs.length = off + (K.sz + K1.sz) := hl
 rw [List.mapM_cons] at hm
 simp only [Option.pure_def, Option.bind_eq_bind] at hm
 obtain ⟨x, hx, hm⟩ := Option.bind_eq_some_iff.mp hm
 obtain ⟨xs', hxs, hm⟩ := Option.bind_eq_some_iff.mp hm
 obtain rfl := Option.some.inj hm
 rw [hc, ho] at hx
 obtain ⟨y, hy, hq⟩ := h.out (fun n hn => hw n (by simp only [List.map_cons, DataW.weightsEach, List.mem_append]; exact .inl hn)) hx
 obtain ⟨z, hz, hq1⟩ := h1.out (by omega) (fun n hn => hw n (by simp only [List.map_cons, DataW.weightsEach, List.mem_append]; exact .inr hn)) hxs
 refine ⟨(y, z), ⟨(cs.drop off).take K.sz, cs.drop (off + K.sz), ?_, hy, hz⟩, hq, hq1⟩
 rw [← List.drop_drop, List.take_append_drop]
theorem opens_struct {α β : Type} {t : TypeId} {fs : Array Field} {K : Kd α} {Q : α → Prop} (ht : P.underlying t = some (.struct fs)) (h : OpensF P fs.toList 0 K Q) (hc : P.cellsOf t = K.sz) (g : β → α) (g' : α → β) (hg : ∀ y, g (g' y) = y) : Opens P t (Kd.iso K g) (fun x => Q (g x)) := by
 constructor
 intro H enc W base sp held fuel cs x hw hm
 cases fuel with
 | zero => simp [DataW.trod] at hm
 | succ n =>
  unfold DataW.trod at hm
  rw [ht] at hm
  simp only at hm
  split at hm
  ·rename_i hl
   obtain ⟨xs, hxs, rfl⟩ := Option.map_eq_some_iff.mp hm
   obtain ⟨y, hy, hq⟩ := h.out (cs := cs) (xs := xs) (by rw [hl, hc]; omega) (fun n hn => hw n (by simp only [DataW.weights, ht]; exact hn)) hxs
   exact ⟨g' y, by show K.K W (g (g' y)) cs; rw [hg]; simpa using hy, by show Q (g (g' y)); rw [hg]; exact hq⟩
  ·cases hm
theorem opens_array2 {α β : Type} {t e : TypeId} {K : Kd α} {Q : α → Prop} {k : Kd β} {WF : β → Prop} (mk : α → α → β) (g : β → α × α) (he : Opens P e K Q) (ht : P.underlying t = some (.array 2 e)) (hsz : K.sz = 1) (hce : P.cellsOf e = 1) (hct : P.cellsOf t = 2) (hk : k = Kd.iso (Kd.pair K K) g) (hg : ∀ x y, g (mk x y) = (x, y)) (hQ : ∀ x y, Q x → Q y → WF (mk x y)) : Opens P t k WF := by
 subst hk
 constructor
 intro H enc W base sp held fuel cs x hw hm
 obtain ⟨xs, m, rfl, rfl, hl, hn, hi⟩ := DataW.trod_array ht hm
 rw [hct] at hl
 have hwx : ∀ d, d ∈ xs.map (·.1) → ∀ n ∈ d.weights P e, n ≤ reachBytes := fun d hd n hn => hw n (by simp only [DataW.weights, ht]; exact weights_all hd n hn)
 obtain ⟨d0, d1, rfl⟩ : ∃ d0 d1, xs = [d0, d1] := by
  match xs, hn with
  | [a, b], _ => exact ⟨a, b, rfl⟩
 obtain ⟨c0, c1, rfl⟩ : ∃ c0 c1, cs = [c0, c1] := by
  match cs, hl with
  | [a, b], _ => exact ⟨a, b, rfl⟩
 have h0 := hi 0 (by omega)
 have h1 := hi 1 (by omega)
 rw [hce] at h0 h1
 obtain ⟨y0, hy0, q0⟩ := he.out (hwx d0.1 (by simp)) (show _ = some d0 from h0)
 obtain ⟨y1, hy1, q1⟩ := he.out (hwx d1.1 (by simp)) (show _ = some d1 from h1)
 refine ⟨mk y0 y1, ?_, hQ _ _ q0 q1⟩
 show (Kd.pair K K).K W (g (mk y0 y1)) [c0, c1]
 rw [hg]
 exact ⟨[c0], [c1], rfl, hy0, hy1⟩
theorem opens_struct' {α β : Type} {t : TypeId} {fs : Array Field} {K : Kd α} {Q : α → Prop} {k : Kd β} {WF : β → Prop} (g' : α → β) (g : β → α) (ht : P.underlying t = some (.struct fs)) (h : OpensF P fs.toList 0 K Q) (hc : P.cellsOf t = K.sz) (hk : k = Kd.iso K g) (hg : ∀ y, g (g' y) = y) (hQ : ∀ x, Q (g x) → WF x) : Opens P t k WF := by
 subst hk
 constructor
 intro H enc W base sp held fuel cs x hw hm
 obtain ⟨y, h1, h2⟩ := (opens_struct ht h hc g g' hg).out hw hm
 exact ⟨y, h1, hQ y h2⟩
end
/-- What came in, as a row that is shared. -/
theorem came_V {α : Type} {d : Kd α} {e : Nat} {w : World} {A : Option Addr} {c : Nat} {xs : List α} (hd : Kd.Heap d) (h : d.C w A xs.length xs) (hc : xs.length ≤ c) : Kd.V d e w w.heap.size (fun k_ => k_ < w.heap.size) (.slice A xs.length c) xs :=
 Kd.V_mk hc (fun W' hW => hd.C (fun k hk => hW k hk hk) h)
end Go.Proofs.Ytclhjalgflebfaa.Q

namespace Go.Proofs.Ytclhjalgflebfaa.Q
open Go.RowKit Go.Proofs.YtclhjalgflebfaaW.PrintWords Go.Proofs.YtclhjalgflebfaaW.PrintLast Go.Proofs.YtclhjalgflebfaaW.PrintMore
set_option linter.unusedVariables false
set_option linter.unusedSimpArgs false

def WF58 (x : S58) : Prop := ((fun n : Int => (Lit.int .i64 n).wf = true) x.f0) ∧ ((fun s : ByteArray => s.size ≤ 140737488351232) x.f1) ∧ ((fun l : List Int => l.length * 8 ≤ 140737488351232 ∧ ∀ x ∈ l, (fun n : Int => (Lit.int .i64 n).wf = true) x) x.f2) ∧ ((fun n : Int => (Lit.int .i64 n).wf = true) x.f3) ∧ ((fun s : ByteArray => s.size ≤ 140737488351232) x.f4)
theorem opens58 : Opens Try.prog 58 k58 WF58 :=
 opens_struct' (fun p : (Int) × (ByteArray) × (List Int) × (Int) × (ByteArray) => (⟨p.1, p.2.1, p.2.2.1, p.2.2.2.1, p.2.2.2.2⟩ : S58)) (fun x : S58 => (x.f0, x.f1, x.f2, x.f3, x.f4)) Try.underlying58 (opensF_cons (opens_int Try.underlying3) rfl (by kernel_rfl) rfl (opensF_cons (opens_string Try.underlying9) rfl (by kernel_rfl) rfl (opensF_cons (opens_slice (opens_int Try.underlying3) Try.underlying34 (by kernel_rfl) 8 (by kernel_rfl)) rfl (by kernel_rfl) rfl (opensF_cons (opens_int Try.underlying3) rfl (by kernel_rfl) rfl (opensF_last (opens_string Try.underlying9) rfl (by kernel_rfl) rfl))))) (by kernel_rfl) rfl (fun _ => rfl) (fun _ h => h)
def WF38 (x : S38) : Prop := ((fun n : Int => (Lit.int .i64 n).wf = true) x.f0) ∧ ((fun n : Int => (Lit.int .i64 n).wf = true) x.f1)
theorem opens38 : Opens Try.prog 38 k38 WF38 :=
 opens_array2 (fun x y => (⟨x, y⟩ : S38)) (fun x : S38 => (x.f0, x.f1)) (opens_int Try.underlying3) Try.underlying38 rfl (by kernel_rfl) (by kernel_rfl) rfl (fun _ _ => rfl) (fun _ _ hx hy => ⟨hx, hy⟩)
def WF40 (x : S40) : Prop := ((fun l : List Int => l.length * 8 ≤ 140737488351232 ∧ ∀ x ∈ l, (fun n : Int => (Lit.int .i64 n).wf = true) x) x.f0) ∧ ((fun n : Int => (Lit.int .i64 n).wf = true) x.f1) ∧ ((fun n : Int => (Lit.int .i64 n).wf = true) x.f2) ∧ (WF38 x.f3)
theorem opens40 : Opens Try.prog 40 k40 WF40 :=
 opens_struct' (fun p : (List Int) × (Int) × (Int) × (S38) => (⟨p.1, p.2.1, p.2.2.1, p.2.2.2⟩ : S40)) (fun x : S40 => (x.f0, x.f1, x.f2, x.f3)) Try.underlying40 (opensF_cons (opens_slice (opens_int Try.underlying3) Try.underlying34 (by kernel_rfl) 8 (by kernel_rfl)) rfl (by kernel_rfl) rfl (opensF_cons (opens_int Try.underlying3) rfl (by kernel_rfl) rfl (opensF_cons (opens_int Try.underlying3) rfl (by kernel_rfl) rfl (opensF_last opens38 rfl (by kernel_rfl) rfl)))) (by kernel_rfl) rfl (fun _ => rfl) (fun _ h => h)
def WF26 (x : S26) : Prop := ((fun s : ByteArray => s.size ≤ 140737488351232) x.f0) ∧ ((fun l : List ByteArray => l.length * 16 ≤ 140737488351232 ∧ ∀ x ∈ l, (fun s : ByteArray => s.size ≤ 140737488351232) x) x.f1) ∧ ((fun s : ByteArray => s.size ≤ 140737488351232) x.f2) ∧ ((fun l : List ByteArray => l.length * 16 ≤ 140737488351232 ∧ ∀ x ∈ l, (fun s : ByteArray => s.size ≤ 140737488351232) x) x.f3) ∧ ((fun l : List (S58) => l.length * 72 ≤ 140737488351232 ∧ ∀ x ∈ l, WF58 x) x.f4) ∧ ((fun l : List (S40) => l.length * 56 ≤ 140737488351232 ∧ ∀ x ∈ l, WF40 x) x.f5)
theorem opens26 : Opens Try.prog 26 k26 WF26 :=
 opens_struct' (fun p : (ByteArray) × (List ByteArray) × (ByteArray) × (List ByteArray) × (List (S58)) × (List (S40)) => (⟨p.1, p.2.1, p.2.2.1, p.2.2.2.1, p.2.2.2.2.1, p.2.2.2.2.2⟩ : S26)) (fun x : S26 => (x.f0, x.f1, x.f2, x.f3, x.f4, x.f5)) Try.underlying26 (opensF_cons (opens_string Try.underlying9) rfl (by kernel_rfl) rfl (opensF_cons (opens_slice (opens_string Try.underlying9) Try.underlying22 (by kernel_rfl) 16 (by kernel_rfl)) rfl (by kernel_rfl) rfl (opensF_cons (opens_string Try.underlying9) rfl (by kernel_rfl) rfl (opensF_cons (opens_slice (opens_string Try.underlying9) Try.underlying22 (by kernel_rfl) 16 (by kernel_rfl)) rfl (by kernel_rfl) rfl (opensF_cons (opens_slice opens58 Try.underlying23 (by kernel_rfl) 72 (by kernel_rfl)) rfl (by kernel_rfl) rfl (opensF_last (opens_slice opens40 Try.underlying24 (by kernel_rfl) 56 (by kernel_rfl)) rfl (by kernel_rfl) rfl)))))) (by kernel_rfl) rfl (fun _ => rfl) (fun _ h => h)
theorem k58_heapQ : Kd.Heap k58 := Kd.heap_iso _ (Kd.heap_pair (Kd.heap_int .i64) (Kd.heap_pair Kd.heap_string (Kd.heap_pair (Kd.heap_slice 3 (Kd.heap_int .i64)) (Kd.heap_pair (Kd.heap_int .i64) Kd.heap_string))))
theorem k38_heapQ : Kd.Heap k38 := Kd.heap_iso _ (Kd.heap_pair (Kd.heap_int .i64) (Kd.heap_int .i64))
theorem k40_heapQ : Kd.Heap k40 := Kd.heap_iso _ (Kd.heap_pair (Kd.heap_slice 3 (Kd.heap_int .i64)) (Kd.heap_pair (Kd.heap_int .i64) (Kd.heap_pair (Kd.heap_int .i64) k38_heapQ)))
theorem k26_heapQ : Kd.Heap k26 := Kd.heap_iso _ (Kd.heap_pair Kd.heap_string (Kd.heap_pair (Kd.heap_slice 9 Kd.heap_string) (Kd.heap_pair Kd.heap_string (Kd.heap_pair (Kd.heap_slice 9 Kd.heap_string) (Kd.heap_pair (Kd.heap_slice 58 k58_heapQ) (Kd.heap_slice 40 k40_heapQ))))))
end Go.Proofs.Ytclhjalgflebfaa.Q

namespace Go.Proofs.Ytclhjalgflebfaa.Q
open Go.RowKit Go.Proofs.YtclhjalgflebfaaW.PrintWords Go.Proofs.YtclhjalgflebfaaW.PrintLast Go.Proofs.YtclhjalgflebfaaW.PrintMore
set_option linter.unusedVariables false
set_option linter.unusedSimpArgs false
def FlowExact.Pure : Prop := ∀ (a0_0 : ByteArray) (l0_1 : List ByteArray) (a0_2 : ByteArray) (l0_3 : List ByteArray) (l0_4 : List (S58)) (l0_5 : List (S40)) (a1 : Int), WF26 ⟨a0_0, l0_1, a0_2, l0_3, l0_4, l0_5⟩ → (fun n : Int => (Lit.int .i64 n).wf = true) a1 → ∃ k, truantlaw09_FlowExact.f k a0_0 l0_1 a0_2 l0_3 l0_4 l0_5 a1 = some true
end Go.Proofs.Ytclhjalgflebfaa.Q

/- Small words on 'from some number of rounds on'. -/

namespace Go.Proofs.Ytclhjalgflebfaa.Q
open Go.RowKit Go.Proofs.YtclhjalgflebfaaW.PrintWords Go.Proofs.YtclhjalgflebfaaW.PrintLast Go.Proofs.YtclhjalgflebfaaW.PrintMore
set_option linter.unusedVariables false
set_option linter.unusedSimpArgs false
section
variable {α : Type}
theorem Ev.pos {c : Prop} [Decidable c] {A B : Nat → Option α} {r : α} (h : c) (k : Ev A r) : Ev (fun n => if c then A n else B n) r := Ev.congr (fun n => if_pos h) k
theorem Ev.neg {c : Prop} [Decidable c] {A B : Nat → Option α} {r : α} (h : ¬ c) (k : Ev B r) : Ev (fun n => if c then A n else B n) r := Ev.congr (fun n => if_neg h) k
theorem Ev.one {β : Type} {a : Option β} {b : β} {f : Nat → β → Option α} {r : α} (h : a = some b) (k : Ev (fun n => f n b) r) : Ev (fun n => a.bind (f n)) r := Ev.congr (fun n => by rw [h]; rfl) k
theorem Ev.eq {g : Nat → Option α} {r r' : α} (k : Ev g r) (h : r = r') : Ev g r' := h ▸ k
theorem Ev.det {g : Nat → Option α} {r r' : α} (k : Ev g r) (h : Ev g r') : r = r' := by
 obtain ⟨K, k⟩ := k
 obtain ⟨K', h⟩ := h
 have h1 := k (max K K') (by omega)
 have h2 := h (max K K') (by omega)
 rw [h1] at h2
 exact Option.some.inj h2
theorem Ev.at_ {g : Nat → Option α} {r r' : α} {k : Nat} (hg : ∀ k, LeO (g k) (g (k + 1))) (h : g k = some r) (h' : Ev g r') : r = r' := Ev.det (Ev.of hg h) h'
theorem getD_succ {β : Type} (l : List β) (z : β) (x : β) (i : Nat) : (x :: l).getD (i + 1) z = l.getD i z := rfl
end
end Go.Proofs.Ytclhjalgflebfaa.Q

/- Flow, plain law: what the walk from a block on comes to. -/

namespace Go.Proofs.Ytclhjalgflebfaa.Q
open Go.RowKit Go.Proofs.YtclhjalgflebfaaW.PrintWords Go.Proofs.YtclhjalgflebfaaW.PrintLast Go.Proofs.YtclhjalgflebfaaW.PrintMore
set_option linter.unusedVariables false
set_option linter.unusedSimpArgs false
def hasR (s : List Bool) (x : Int) : Prop := 0 ≤ x ∧ x < (s.length : Int) ∧ rdOf false s x = true
theorem hasR_nat {s : List Bool} {x : Int} (h : hasR s x) : ∃ m : Nat, x = m ∧ m < s.length ∧ s.getD m false = true := ⟨x.toNat, by have := h.1; omega, by have := h.1; have := h.2.1; omega, h.2.2⟩
theorem rdOf_nat (s : List Bool) (m : Nat) : rdOf false s (m : Int) = s.getD m false := by unfold rdOf; rw [Int.toNat_natCast]
theorem hasR_set {s : List Bool} {b x : Int} (hb0 : 0 ≤ b) (hb1 : b < (s.length : Int)) : hasR (s.set b.toNat true) x ↔ hasR s x ∨ x = b := by
 unfold hasR rdOf
 rw [List.length_set]
 by_cases h0 : 0 ≤ x ∧ x < (s.length : Int)
 ·by_cases hx : x = b
  ·subst hx
   simp only [List.getD]
   rw [List.getElem?_set_self (by omega)]
   simp [h0]
  ·have : ¬ b.toNat = x.toNat := by omega
   simp only [List.getD, List.getElem?_set, if_neg this]
   simp [hx]
 ·constructor
  ·intro h; exact absurd ⟨h.1, h.2.1⟩ h0
  ·rintro (h | rfl)
   ·exact absurd ⟨h.1, h.2.1⟩ h0
   ·exact absurd ⟨hb0, hb1⟩ h0
def unseen (s : List Bool) : Nat := s.count false
theorem unseen_set : ∀ {s : List Bool} {m : Nat}, m < s.length → s.getD m false = false → unseen (s.set m true) + 1 = unseen s
 | [], m, h, _ => by simp at h
 | a :: s, 0, _, h2 => by
  have : a = false := by simpa using h2
  subst this
  simp [unseen]
 | a :: s, m + 1, h, h2 => by
  have := unseen_set (s := s) (m := m) (by simpa using h) (by simpa using h2)
  simp only [unseen, List.set_cons_succ, List.count_cons] at this ⊢
  omega
/-- What one walk adds: e; from what it began: xs. -/
structure Adds (l : List S40) (s s' : List Bool) (xs e : List Int) : Prop where
 len : s'.length = s.length
 mem : ∀ x, hasR s' x ↔ hasR s x ∨ x ∈ e
 new : ∀ x, x ∈ e → ¬ hasR s x
 nodup : e.Nodup
 count : unseen s' + e.length = unseen s
 goes : ∀ x, x ∈ e → ∀ y, y ∈ nextOf l x → hasR s' y
 starts : ∀ x, x ∈ xs → hasR s' x
 led : ∀ e1 x e2, e = e1 ++ x :: e2 → x ∈ xs ∨ ∃ p, p ∈ e2 ∧ x ∈ nextOf l p
theorem Adds.trans {l : List S40} {s s1 s2 : List Bool} {x : Int} {xs e1 e2 : List Int} (h : Adds l s s1 [x] e1) (k : Adds l s1 s2 xs e2) : Adds l s s2 (x :: xs) (e1 ++ e2) := by
 refine ⟨k.len.trans h.len, fun y => ?_, fun y hy => ?_, ?_, ?_, fun y hy z hz => ?_, fun y hy => ?_, fun f1 y f2 he => ?_⟩
 ·rw [k.mem, h.mem, List.mem_append, or_assoc]
 ·rcases List.mem_append.mp hy with hy | hy
  ·exact h.new y hy
  ·exact fun hs => k.new y hy ((h.mem y).mpr (.inl hs))
 ·rw [List.nodup_append]
  refine ⟨h.nodup, k.nodup, fun a ha b hb hab => ?_⟩
  subst hab
  exact k.new a hb ((h.mem a).mpr (.inr ha))
 ·have h1 := h.count; have h2 := k.count
  rw [List.length_append]
  omega
 ·rcases List.mem_append.mp hy with hy | hy
  ·exact (k.mem z).mpr (.inl (h.goes y hy z hz))
  ·exact k.goes y hy z hz
 ·rcases List.mem_cons.mp hy with rfl | hy
  ·exact (k.mem y).mpr (.inl (h.starts y (by simp)))
  ·exact k.starts y hy
 ·rcases List.append_eq_append_iff.mp he with ⟨g, rfl, h2⟩ | ⟨g, h1, h2⟩
  ·rcases k.led g y f2 h2 with hq | hq
   ·exact .inl (List.mem_cons_of_mem _ hq)
   ·exact .inr hq
  ·cases g with
   | nil =>
    rw [List.append_nil] at h1
    rcases k.led [] y f2 (by simpa using h2.symm) with hq | hq
    ·exact .inl (List.mem_cons_of_mem _ hq)
    ·exact .inr hq
   | cons z g =>
    simp only [List.cons_append, List.cons.injEq] at h2
    obtain ⟨rfl, rfl⟩ := h2
    rcases h.led f1 y g h1 with hq | ⟨p, hp, hq⟩
    ·left
     rw [List.mem_singleton] at hq
     subst hq
     exact List.mem_cons_self
    ·exact .inr ⟨p, List.mem_append_left _ hp, hq⟩
theorem Adds.none {l : List S40} {s : List Bool} {xs : List Int} (h : ∀ x, x ∈ xs → hasR s x) : Adds l s s xs [] :=
 ⟨rfl, fun x => (by simp), fun x hx => (by cases hx), List.nodup_nil, rfl, fun x hx => (by cases hx), h, fun e1 x e2 he => (by simp at he)⟩
theorem fold_adds (l : List S40) (k : Nat) (hk : ∀ (b : Int) (s : List Bool) (d : List Int), s.length = l.length → 0 ≤ b → b < (l.length : Int) → ¬ hasR s b → unseen s ≤ k → d.length + unseen s < LIMF → ∃ s' e, visitO l k b s d = some (s', d ++ e) ∧ Adds l s s' [b] e) :
  ∀ (xs : List Int) (s : List Bool) (d : List Int), s.length = l.length → (∀ x ∈ xs, 0 ≤ x ∧ x < (l.length : Int)) → unseen s ≤ k → d.length + unseen s < LIMF → ∃ s' e, xs.foldlM (stepO l k) (s, d) = some (s', d ++ e) ∧ Adds l s s' xs e
 | [], s, d, _, _, _, _ => ⟨s, [], by simp, Adds.none (fun x hx => by cases hx)⟩
 | x :: xs, s, d, hs, hx, hu, hd => by
  have hx0 := hx x List.mem_cons_self
  rw [List.foldlM_cons]
  unfold stepO
  rw [if_pos (by rw [hs]; exact hx0)]
  by_cases hr : rdOf false s x = true
  ·rw [if_pos hr]
   obtain ⟨s', e, h1, h2⟩ := fold_adds l k hk xs s d hs (fun y hy => hx y (List.mem_cons_of_mem _ hy)) hu hd
   refine ⟨s', e, h1, ?_⟩
   have := (Adds.none (l := l) (s := s) (xs := [x]) (fun y hy => by rw [List.mem_singleton] at hy; subst hy; exact ⟨hx0.1, by rw [hs]; exact hx0.2, hr⟩)).trans h2
   simpa using this
  ·rw [if_neg hr]
   obtain ⟨s1, e1, h1, h2⟩ := hk x s d hs hx0.1 hx0.2 (fun h => hr h.2.2) hu hd
   have hc := h2.count
   obtain ⟨s2, e2, h3, h4⟩ := fold_adds l k hk xs s1 (d ++ e1) (h2.len.trans hs) (fun y hy => hx y (List.mem_cons_of_mem _ hy)) (by omega) (by rw [List.length_append]; omega)
   refine ⟨s2, e1 ++ e2, ?_, h2.trans h4⟩
   rw [← List.append_assoc]
   show (visitO l k x s d).bind _ = _
   rw [h1]
   exact h3
theorem visit_adds (l : List S40) : ∀ (k : Nat) (b : Int) (s : List Bool) (d : List Int), s.length = l.length → 0 ≤ b → b < (l.length : Int) → ¬ hasR s b → unseen s ≤ k → d.length + unseen s < LIMF → ∃ s' e, visitO l k b s d = some (s', d ++ e) ∧ Adds l s s' [b] e ∧ ∃ e', e = e' ++ [b] ∧ ((nextOf l b).foldlM (stepO l (k - 1)) (s.set b.toNat true, d)) = some (s', d ++ e') ∧ Adds l (s.set b.toNat true) s' (nextOf l b) e'
 | 0, b, s, d, hs, h0, h1, hn, hu, hd => by
  have h2 : s.getD b.toNat false = false := by
   cases hq : s.getD b.toNat false with
   | false => rfl
   | true => exact absurd ⟨h0, by omega, hq⟩ hn
  have := unseen_set (s := s) (m := b.toNat) (by omega) h2
  omega
 | k + 1, b, s, d, hs, h0, h1, hn, hu, hd => by
  have h2 : s.getD b.toNat false = false := by
   cases hq : s.getD b.toNat false with
   | false => rfl
   | true => exact absurd ⟨h0, by omega, hq⟩ hn
  have hu2 := unseen_set (s := s) (m := b.toNat) (by omega) h2
  obtain ⟨s', e, h3, h4⟩ := fold_adds l k (fun b s d h1 h2 h3 h4 h5 h6 => by obtain ⟨s', e, q1, q2, _⟩ := visit_adds l k b s d h1 h2 h3 h4 h5 h6; exact ⟨s', e, q1, q2⟩) (nextOf l b) (s.set b.toNat true) d (by rw [List.length_set]; exact hs) (fun x hx => next_in hx) (by omega) (by omega)
  have hm := fun x => (hasR_set (s := s) (x := x) h0 (by omega : b < (s.length : Int)))
  have hc := h4.count
  refine ⟨s', e ++ [b], ?_, ⟨?_, fun x => ?_, fun x hx => ?_, ?_, ?_, fun x hx y hy => ?_, fun x hx => ?_, fun e1 x e2 he => ?_⟩, e, rfl, h3, h4⟩
  ·rw [visitO_succ, if_pos ⟨h0, by omega⟩, h3]
   simp only [Option.bind_some]
   rw [if_pos (by rw [List.length_append]; omega), List.append_assoc]
  ·rw [h4.len, List.length_set]
  ·rw [h4.mem, hm, List.mem_append, List.mem_singleton, or_assoc, or_comm (a := x = b)]
  ·rcases List.mem_append.mp hx with hx | hx
   ·exact fun h => h4.new x hx ((hm x).mpr (.inl h))
   ·rw [List.mem_singleton] at hx
    subst hx
    exact hn
  ·rw [List.nodup_append]
   refine ⟨h4.nodup, by simp, fun a ha c hc2 hac => ?_⟩
   rw [List.mem_singleton] at hc2
   subst hac hc2
   exact h4.new a ha ((hm a).mpr (.inr rfl))
  ·rw [List.length_append]
   simp only [List.length_singleton]
   omega
  ·rcases List.mem_append.mp hx with hx | hx
   ·exact h4.goes x hx y hy
   ·rw [List.mem_singleton] at hx
    subst hx
    exact h4.starts y hy
  ·rw [List.mem_singleton] at hx
   subst hx
   exact (h4.mem x).mpr (.inl ((hm x).mpr (.inr rfl)))
  ·rcases List.append_eq_append_iff.mp he with ⟨g, rfl, hg⟩ | ⟨g, h5, h6⟩
   ·cases g with
    | nil =>
     simp only [List.nil_append, List.cons.injEq] at hg
     exact .inl (by rw [hg.1]; simp)
    | cons z g => simp at hg
   ·cases g with
    | nil =>
     simp only [List.nil_append, List.cons.injEq] at h6
     exact .inl (by rw [← h6.1]; simp)
    | cons z g =>
     simp only [List.cons_append, List.cons.injEq] at h6
     obtain ⟨rfl, rfl⟩ := h6
     rcases h4.led e1 x g h5 with hq | ⟨p, hp, hq⟩
     ·exact .inr ⟨b, by simp, hq⟩
     ·exact .inr ⟨p, List.mem_append_left _ hp, hq⟩
end Go.Proofs.Ytclhjalgflebfaa.Q

/- Flow, plain law: the document's Next and Ahead, the code's Ahead; rows that are the same; 'wide'. -/

namespace Go.Proofs.Ytclhjalgflebfaa.Q
open Go.RowKit Go.Proofs.YtclhjalgflebfaaW.PrintWords Go.Proofs.YtclhjalgflebfaaW.PrintLast Go.Proofs.YtclhjalgflebfaaW.PrintMore
set_option linter.unusedVariables false
set_option linter.unusedSimpArgs false
theorem wrap_up {i : Nat} {n : Nat} (h : i < n) (hn : n ≤ 140737488351232) : wrap64 ((i : Int) + 1) = ((i + 1 : Nat) : Int) := by unfold wrap64; omega
theorem wrap_dn {i : Nat} (h : i ≤ 140737488351232) : wrap64 ((i : Int) - 1) = (i : Int) - 1 := by unfold wrap64; omega
section
variable (a0 : ByteArray) (l1 : List ByteArray) (a2 : ByteArray) (l3 : List ByteArray) (l4 : List S58) (l : List S40)
theorem inB_iff {n : Nat} {i : Int} : inB n i = true ↔ 0 ≤ i ∧ i < (n : Int) := by simp [inB]
theorem refNext (i : Int) : Ev (fun k => truantref09_Next.f k a0 l1 a2 l3 l4 l i) (nextOf l i) := by
 unfold truantref09_Next.f nextOf
 by_cases h0 : i < 0
 ·rw [if_neg (by omega)]
  simp only [Option.bind_some, if_pos h0]
  exact Ev.step (fun k => rfl) (Ev.now _)
 ·simp only [Option.bind_some, if_neg h0]
  by_cases h1 : i < (l.length : Int)
  ·rw [if_pos ⟨by omega, h1⟩, decide_eq_false (by omega : ¬ i ≥ (l.length : Int))]
   refine Ev.step (fun k => rfl) (Ev.pos (by omega) (Ev.pos h1 ?_))
   generalize rd_T40 l i = b
   unfold jumpTo
   have e1 : ([] : List Int).length < 17592186044416 := by simp
   have e2 : ∀ x : Int, ([x] : List Int).length < 17592186044416 := fun x => by simp
   by_cases hg : b.f1 = 1
   ·rw [if_pos hg]
    refine Ev.pos hg ?_
    by_cases hx : b.f3.f0 ≥ 0
    ·refine Ev.pos hx (Ev.step (fun k => rfl) ?_)
     by_cases hy : b.f3.f0 < (l.length : Int)
     ·refine Ev.pos (by simpa using hy) (Ev.pos e1 (Ev.neg (by omega) ?_))
      have : inB l.length b.f3.f0 = true := inB_iff.mpr ⟨hx, hy⟩
      simp only [List.filter_cons, this, if_true, List.filter_nil]
      exact Ev.now _
     ·refine Ev.neg (by simpa using hy) (Ev.neg (by omega) ?_)
      have : inB l.length b.f3.f0 = false := by cases h : inB l.length b.f3.f0 with | false => rfl | true => exact absurd (inB_iff.mp h).2 hy
      simp only [List.filter_cons, this, List.filter_nil]
      exact Ev.now _
    ·refine Ev.neg hx (Ev.step (fun k => rfl) (Ev.neg (by omega) ?_))
     have : inB l.length b.f3.f0 = false := by cases h : inB l.length b.f3.f0 with | false => rfl | true => exact absurd (inB_iff.mp h).1 hx
     simp only [List.filter_cons, this, List.filter_nil]
     exact Ev.now _
   ·rw [if_neg hg]
    refine Ev.neg hg ?_
    by_cases hg2 : b.f1 = 2
    ·rw [if_pos hg2]
     refine Ev.pos hg2 ?_
     have key : ∀ (c : Bool), c = inB l.length b.f3.f0 → Ev (fun k => truantref09_Next.j1 k ([] : List Int) c a0 l1 a2 l3 l4 l b.f0 b.f1 b.f2 b.f3.f0 b.f3.f1) (List.filter (inB l.length) (if b.f3.f0 = b.f3.f1 then [b.f3.f0] else [b.f3.f0, b.f3.f1])) := by
      intro c hc
      refine Ev.step (fun k => rfl) ?_
      cases c with
      | true =>
       refine Ev.pos hg2 ?_
       by_cases he : b.f3.f1 = b.f3.f0
       ·refine Ev.pos he ?_
        rw [if_pos he.symm]
        simp only [List.filter_cons, ← hc, if_true, List.filter_nil]
        exact Ev.now _
       ·refine Ev.neg he ?_
        rw [if_neg (Ne.symm he)]
        by_cases hx : b.f3.f1 ≥ 0
        ·refine Ev.pos hx ?_
         by_cases hy : b.f3.f1 < (l.length : Int)
         ·refine Ev.pos hy ?_
          have : inB l.length b.f3.f1 = true := inB_iff.mpr ⟨hx, hy⟩
          simp only [List.filter_cons, ← hc, this, if_true, List.filter_nil]
          exact Ev.now _
         ·refine Ev.neg hy ?_
          have : inB l.length b.f3.f1 = false := by cases h : inB l.length b.f3.f1 with | false => rfl | true => exact absurd (inB_iff.mp h).2 hy
          simp only [List.filter_cons, ← hc, this, if_true, List.filter_nil]
          exact Ev.now _
        ·refine Ev.neg hx ?_
         have : inB l.length b.f3.f1 = false := by cases h : inB l.length b.f3.f1 with | false => rfl | true => exact absurd (inB_iff.mp h).1 hx
         simp only [List.filter_cons, ← hc, this, if_true, List.filter_nil]
         exact Ev.now _
      | false =>
       refine Ev.pos hg2 ?_
       by_cases he : b.f3.f1 = b.f3.f0
       ·refine Ev.pos he ?_
        rw [if_pos he.symm]
        simp only [List.filter_cons, ← hc, List.filter_nil]
        exact Ev.now _
       ·refine Ev.neg he ?_
        rw [if_neg (Ne.symm he)]
        by_cases hx : b.f3.f1 ≥ 0
        ·refine Ev.pos hx ?_
         by_cases hy : b.f3.f1 < (l.length : Int)
         ·refine Ev.pos hy ?_
          have : inB l.length b.f3.f1 = true := inB_iff.mpr ⟨hx, hy⟩
          simp only [List.filter_cons, ← hc, this, if_true, List.filter_nil]
          exact Ev.now _
         ·refine Ev.neg hy ?_
          have : inB l.length b.f3.f1 = false := by cases h : inB l.length b.f3.f1 with | false => rfl | true => exact absurd (inB_iff.mp h).2 hy
          simp only [List.filter_cons, ← hc, this, List.filter_nil]
          exact Ev.now _
        ·refine Ev.neg hx ?_
         have : inB l.length b.f3.f1 = false := by cases h : inB l.length b.f3.f1 with | false => rfl | true => exact absurd (inB_iff.mp h).1 hx
         simp only [List.filter_cons, ← hc, this, List.filter_nil]
         exact Ev.now _
     by_cases hx : b.f3.f0 ≥ 0
     ·refine Ev.pos hx (key _ ?_)
      simp [inB, hx]
     ·refine Ev.neg hx (key _ ?_)
      have : inB l.length b.f3.f0 = false := by cases h : inB l.length b.f3.f0 with | false => rfl | true => exact absurd (inB_iff.mp h).1 hx
      rw [this]
    ·rw [if_neg hg2]
     exact Ev.neg hg2 (Ev.step (fun k => rfl) (Ev.neg hg2 (Ev.now _)))
  ·rw [if_neg (by omega), decide_eq_true (by omega : i ≥ (l.length : Int))]
   exact Ev.step (fun k => rfl) (Ev.now _)
end
theorem same_ev (x : List Int) (hx : x.length ≤ 140737488351232) : Ev (fun k => truantlaw09_same.f k x x) true := by
 unfold truantlaw09_same.f
 refine Ev.pos rfl ?_
 have key : ∀ (d i : Nat), x.length - i = d → i ≤ x.length → Ev (fun k => truantlaw09_same.l0 k x x (i : Int)) true := by
  intro d
  induction d with
  | zero => intro i hd hi; exact Ev.step (fun k => rfl) (Ev.neg (by omega) (Ev.now _))
  | succ d ih =>
   intro i hd hi
   refine Ev.step (fun k => rfl) (Ev.pos (by omega) (Ev.pos (by omega) (Ev.pos (by omega) (Ev.pos rfl ?_))))
   rw [wrap_up (n := x.length) (by omega) hx]
   exact ih (i + 1) (by omega) (by omega)
 exact key _ 0 rfl (Nat.zero_le _)
/-- Of the first n blocks those that lead to b. -/
def aheadTo (l : List S40) : Nat → Int → List Int
 | 0, _ => []
 | n + 1, b => aheadTo l n b ++ ((nextOf l n).filter (fun y => y == b)).map (fun _ => (n : Int))
theorem ahead_len (l : List S40) (b : Int) : ∀ n, (aheadTo l n b).length ≤ 2 * n
 | 0 => Nat.le_refl _
 | n + 1 => by
  have h1 := ahead_len l b n
  have h2 := next_len l n
  have h3 : ((nextOf l n).filter (fun y => y == b)).length ≤ (nextOf l n).length := List.length_filter_le _ _
  unfold aheadTo
  rw [List.length_append, List.length_map]
  omega
section
variable (a0 : ByteArray) (l1 : List ByteArray) (a2 : ByteArray) (l3 : List ByteArray) (l4 : List S58) (l : List S40) (hl : l.length ≤ 1099511627776)
include hl
theorem refAhead (b : Int) : Ev (fun k => truantref09_Ahead.f k a0 l1 a2 l3 l4 l b) (aheadTo l l.length b) := by
 unfold truantref09_Ahead.f
 have inner : ∀ (d j n : Nat) (acc : List Int) (r : List Int), (nextOf l n).length - j = d → j ≤ (nextOf l n).length → n < l.length → acc.length + ((nextOf l n).length - j) ≤ 17592186044415 →
   Ev (fun k => truantref09_Ahead.l0 k b (acc ++ (((nextOf l n).drop j).filter (fun y => y == b)).map (fun _ => (n : Int))) ((n + 1 : Nat) : Int) a0 l1 a2 l3 l4 l) r → Ev (fun k => truantref09_Ahead.l1 k b acc (n : Int) (nextOf l n) (j : Int) a0 l1 a2 l3 l4 l) r := by
  intro d
  induction d with
  | zero =>
   intro j n acc r hd hj hn ha h
   refine Ev.step (fun k => rfl) (Ev.neg (by omega) ?_)
   rw [wrap_up (n := l.length) hn (by omega)]
   rw [List.drop_of_length_le (by omega)] at h
   simpa using h
  | succ d ih =>
   intro j n acc r hd hj hn ha h
   have hlt : j < (nextOf l n).length := by omega
   have h2 := next_len l n
   refine Ev.step (fun k => rfl) (Ev.pos (by omega) (Ev.pos (by omega) ?_))
   have hrd : rd (nextOf l n) (j : Int) = (nextOf l n)[j] := by unfold rd; rw [Int.toNat_natCast, getD_at _ _ hlt]
   rw [List.drop_eq_getElem_cons hlt, List.filter_cons] at h
   rw [wrap_up (n := (nextOf l n).length) hlt (by omega)]
   by_cases he : (nextOf l n)[j] = b
   ·refine Ev.pos (by rw [hrd]; exact he) (Ev.pos (by omega) ?_)
    refine ih (j + 1) n (acc ++ [(n : Int)]) r (by omega) (by omega) hn (by rw [List.length_append]; simp only [List.length_singleton]; omega) ?_
    rw [if_pos (by simpa using he)] at h
    simpa using h
   ·refine Ev.neg (by rw [hrd]; exact he) ?_
    refine ih (j + 1) n acc r (by omega) (by omega) hn (by omega) ?_
    rw [if_neg (by simpa using he)] at h
    exact h
 have outer : ∀ (d n : Nat), l.length - n = d → n ≤ l.length → Ev (fun k => truantref09_Ahead.l0 k b (aheadTo l n b) (n : Int) a0 l1 a2 l3 l4 l) (aheadTo l l.length b) := by
  intro d
  induction d with
  | zero =>
   intro n hd hn
   refine Ev.step (fun k => rfl) (Ev.neg (by omega) ?_)
   rw [show n = l.length by omega]
   exact Ev.now _
  | succ d ih =>
   intro n hd hn
   have h1 := ahead_len l b n
   have h2 := next_len l n
   refine Ev.step (fun k => rfl) (Ev.pos (by omega) (Ev.bind (refNext a0 l1 a2 l3 l4 l n) ?_))
   exact inner _ 0 n _ _ rfl (Nat.zero_le _) (by omega) (by omega) (ih (n + 1) (by omega) (by omega))
 exact outer _ 0 rfl (Nat.zero_le _)
/-- What Ahead holds behind n blocks: one row each. -/
def AheadIs (l : List S40) (n : Nat) (x : List (List Int)) : Prop := x.length = l.length ∧ ∀ b : Nat, b < l.length → x.getD b [] = aheadTo l n b
omit hl in
theorem nodup_next (l : List S40) (i : Int) : (nextOf l i).Nodup := by
 unfold nextOf
 split
 ·refine List.Pairwise.filter _ ?_
  show (jumpTo _).Nodup
  unfold jumpTo
  split
  ·simp
  ·split
   ·split
    ·simp
    ·rename_i h; simp [h]
   ·simp
 ·simp
theorem flowAhead : ∃ x, Ev (fun k => flow_Ahead.f k a0 l1 a2 l3 l4 l) x ∧ AheadIs l l.length x := by
 unfold flow_Ahead.f
 have inner : ∀ (d j n : Nat) (acc : List (List Int)), (nextOf l n).length - j = d → j ≤ (nextOf l n).length → n < l.length → acc.length = l.length → (∀ b : Nat, b < l.length → acc.getD b [] = aheadTo l n b ++ (((nextOf l n).take j).filter (fun y => y == (b : Int))).map (fun _ => (n : Int))) →
   ∃ acc', AheadIs l (n + 1) acc' ∧ ∀ r, Ev (fun k => flow_Ahead.l0 k acc' (l.length : Int) ((n + 1 : Nat) : Int) a0 l1 a2 l3 l4 l) r → Ev (fun k => flow_Ahead.l1 k acc (n : Int) (l.length : Int) (n : Int) (nextOf l n) ((nextOf l n).length : Int) (j : Int) a0 l1 a2 l3 l4 l) r := by
  intro d
  induction d with
  | zero =>
   intro j n acc hd hj hn ha h
   refine ⟨acc, ⟨ha, fun b hb => ?_⟩, fun r hr => ?_⟩
   ·rw [h b hb, List.take_of_length_le (by omega)]
    rfl
   ·refine Ev.step (fun k => rfl) (Ev.neg (by omega) ?_)
    rw [wrap_up (n := l.length) hn (by omega)]
    exact hr
  | succ d ih =>
   intro j n acc hd hj hn ha h
   have hlt : j < (nextOf l n).length := by omega
   have h2 := next_len l n
   have hrd : rd (nextOf l n) (j : Int) = (nextOf l n)[j] := by unfold rd; rw [Int.toNat_natCast, getD_at _ _ hlt]
   have hin := next_in (List.getElem_mem hlt)
   obtain ⟨y, hy⟩ : ∃ y : Nat, (nextOf l n)[j] = (y : Int) := ⟨(nextOf l n)[j].toNat, by omega⟩
   rw [hy] at hin
   have hyl : y < l.length := by omega
   have hrow : rd_L2 acc (y : Int) = aheadTo l n y ++ (((nextOf l n).take j).filter (fun z => z == (y : Int))).map (fun _ => (n : Int)) := by unfold rd_L2; rw [Int.toNat_natCast, h y hyl]
   have h1 := ahead_len l y n
   have h3 : (((nextOf l n).take j).filter (fun z => z == (y : Int))).length ≤ 2 := by
    refine Nat.le_trans (List.length_filter_le _ _) ?_
    rw [List.length_take]
    omega
   have hlen : (rd_L2 acc (y : Int)).length < 17592186044416 := by rw [hrow, List.length_append, List.length_map]; omega
   obtain ⟨acc', hA, hE⟩ := ih (j + 1) n (acc.set y (rd_L2 acc (y : Int) ++ [(n : Int)])) (by omega) (by omega) hn (by simpa using ha) (fun b hb => by
    rw [List.take_succ_eq_append_getElem hlt, List.filter_append, List.map_append, ← List.append_assoc, ← h b hb, hy]
    by_cases hbe : y = b
    ·subst hbe
     simp only [List.getD]
     rw [List.getElem?_set_self (by omega)]
     simp [rd_L2, List.getD]
    ·simp only [List.getD]
     rw [List.getElem?_set_ne hbe]
     have : ¬ ((y : Int) == (b : Int)) = true := by simp; omega
     simp [List.filter_cons, this])
   refine ⟨acc', hA, fun r hr => ?_⟩
   refine Ev.step (fun k => rfl) (Ev.pos (by omega) (Ev.pos (by omega) (Ev.pos (by omega) ?_)))
   rw [hrd, hy, wrap_up (n := (nextOf l n).length) hlt (by omega), Int.toNat_natCast]
   exact Ev.pos (by omega) (Ev.pos (by omega) (Ev.pos hlen (hE r hr)))
 have outer : ∀ (d n : Nat) (acc : List (List Int)), l.length - n = d → n ≤ l.length → AheadIs l n acc → ∃ x, Ev (fun k => flow_Ahead.l0 k acc (l.length : Int) (n : Int) a0 l1 a2 l3 l4 l) x ∧ AheadIs l l.length x := by
  intro d
  induction d with
  | zero =>
   intro n acc hd hn ha
   rw [show n = l.length by omega] at ha ⊢
   exact ⟨acc, Ev.step (fun k => rfl) (Ev.neg (by omega) (Ev.now _)), ha⟩
  | succ d ih =>
   intro n acc hd hn ha
   obtain ⟨acc', hA, hE⟩ := inner _ 0 n acc rfl (Nat.zero_le _) (by omega) ha.1 (fun b hb => by rw [ha.2 b hb]; simp)
   obtain ⟨x, hx, hx2⟩ := ih (n + 1) acc' (by omega) (by omega) hA
   exact ⟨x, Ev.step (fun k => rfl) (Ev.pos (by omega) (hE x hx)), hx2⟩
 obtain ⟨x, hx, hx2⟩ := outer _ 0 (List.replicate l.length []) rfl (Nat.zero_le _) ⟨by simp, fun b hb => by simp [List.getD, hb, aheadTo]⟩
 refine ⟨x, Ev.pos (by omega) (Ev.pos (by omega) ?_), hx2⟩
 rw [Int.toNat_natCast]
 exact hx
end
end Go.Proofs.Ytclhjalgflebfaa.Q

/- Flow, plain law: what is reached, round by round as by the walk. -/

namespace Go.Proofs.Ytclhjalgflebfaa.Q
open Go.RowKit Go.Proofs.YtclhjalgflebfaaW.PrintWords Go.Proofs.YtclhjalgflebfaaW.PrintLast Go.Proofs.YtclhjalgflebfaaW.PrintMore
set_option linter.unusedVariables false
set_option linter.unusedSimpArgs false
theorem hasR_none (n : Nat) (x : Int) : ¬ hasR (List.replicate n false) x := by
 rintro ⟨h0, h1, h2⟩
 unfold rdOf at h2
 rw [getD_at _ _ (by rw [List.length_replicate] at h1 ⊢; omega)] at h2
 simp at h2
theorem unseen_none (n : Nat) : unseen (List.replicate n false) = n := by simp [unseen]
theorem walk_facts (l : List S40) (hl : l.length < LIMF) (hn : 0 < l.length) : ∃ s e, walkO l = some (s, e ++ [0]) ∧ Adds l (List.replicate l.length false) s [0] (e ++ [0]) ∧ ((nextOf l 0).foldlM (stepO l l.length) ((List.replicate l.length false).set 0 true, [])) = some (s, e) ∧ Adds l ((List.replicate l.length false).set 0 true) s (nextOf l 0) e := by
 obtain ⟨s', e, h1, h2, e', he, h3, h4⟩ := visit_adds l (l.length + 1) 0 (List.replicate l.length false) [] (by simp) (by omega) (by omega) (hasR_none _ _) (by rw [unseen_none]; omega) (by rw [unseen_none]; simpa using hl)
 subst he
 refine ⟨s', e', ?_, h2, ?_, ?_⟩
 ·unfold walkO
  rw [if_pos hl, if_neg (by omega)]
  simpa using h1
 ·simpa using h3
 ·simpa using h4
/-- Whatever holds of 0 and goes on to the next ones holds of all that the walk comes to. -/
theorem led_all {l : List S40} {s s' : List Bool} {xs e : List Int} (h : Adds l s s' xs e) (C : Int → Prop) (hx : ∀ x ∈ xs, C x) (hC : ∀ p, C p → ∀ y ∈ nextOf l p, C y) : ∀ x ∈ e, C x := by
 have key : ∀ (n : Nat) (e1 : List Int) (e2 : List Int), e = e1 ++ e2 → e2.length ≤ n → ∀ x ∈ e2, C x := by
  intro n
  induction n with
  | zero =>
   intro e1 e2 he hl x hm
   obtain rfl := List.eq_nil_of_length_eq_zero (Nat.le_zero.mp hl)
   cases hm
  | succ n ih =>
   intro e1 e2 he hl x hm
   cases e2 with
   | nil => cases hm
   | cons y e2 =>
    have hrest := ih (e1 ++ [y]) e2 (by simp [he]) (by simpa using hl)
    rcases List.mem_cons.mp hm with rfl | hm
    ·rcases h.led e1 x e2 he with hq | ⟨p, hp, hq⟩
     ·exact hx x hq
     ·exact hC p (hrest p hp) x hq
    ·exact hrest x hm
 exact key e.length [] e (by simp) (Nat.le_refl _)
/-- Marked: those of ys. -/
def markAll (r : List Bool) (ys : List Int) : List Bool := ys.foldl (fun r y => r.set y.toNat true) r
theorem mark_len : ∀ (ys : List Int) (r : List Bool), (markAll r ys).length = r.length
 | [], r => rfl
 | y :: ys, r => by show (markAll (r.set y.toNat true) ys).length = _; rw [mark_len ys, List.length_set]
theorem mark_has : ∀ (ys : List Int) (r : List Bool), (∀ y ∈ ys, 0 ≤ y ∧ y < (r.length : Int)) → ∀ x, hasR (markAll r ys) x ↔ hasR r x ∨ x ∈ ys
 | [], r, h, x => by simp [markAll]
 | y :: ys, r, h, x => by
  have hy := h y List.mem_cons_self
  show hasR (markAll (r.set y.toNat true) ys) x ↔ _
  rw [mark_has ys (r.set y.toNat true) (fun z hz => by rw [List.length_set]; exact h z (List.mem_cons_of_mem _ hz)) x, hasR_set hy.1 hy.2, List.mem_cons, or_assoc]
/-- One round, over the first n blocks. -/
def roundTo (l : List S40) (r : List Bool) : Nat → List Bool
 | 0 => r
 | n + 1 => let r1 := roundTo l r n; if r1.getD n false = true then markAll r1 (nextOf l n) else r1
theorem round_len (l : List S40) (r : List Bool) : ∀ n, (roundTo l r n).length = r.length
 | 0 => rfl
 | n + 1 => by
  unfold roundTo
  simp only
  split
  ·rw [mark_len, round_len l r n]
  ·exact round_len l r n
theorem round_grows (l : List S40) (r : List Bool) (hr : r.length = l.length) : ∀ n, ∀ x, hasR r x → hasR (roundTo l r n) x
 | 0, x, h => h
 | n + 1, x, h => by
  have h1 := round_grows l r hr n x h
  unfold roundTo
  simp only
  split
  ·exact (mark_has _ _ (fun y hy => by rw [round_len, hr]; exact next_in hy) x).mpr (.inl h1)
  ·exact h1
theorem hasR_at {r : List Bool} {n : Nat} (h : r.getD n false = true) : hasR r n := by
 have hn : n < r.length := by
  rcases Nat.lt_or_ge n r.length with h1 | h1
  ·exact h1
  ·simp [List.getD, List.getElem?_eq_none h1] at h
 exact ⟨by omega, by omega, by rw [rdOf_nat]; exact h⟩
theorem round_goes (l : List S40) (r : List Bool) (hr : r.length = l.length) : ∀ n : Nat, ∀ m : Nat, m < n → hasR r m → ∀ y ∈ nextOf l m, hasR (roundTo l r n) y
 | n + 1, m, hm, h, y, hy => by
  by_cases he : m = n
  ·subst he
   have h1 := round_grows l r hr m m h
   unfold roundTo
   simp only
   rw [if_pos (by have := h1.2.2; rwa [rdOf_nat] at this)]
   exact (mark_has _ _ (fun y hy => by rw [round_len, hr]; exact next_in hy) y).mpr (.inr hy)
  ·have h1 := round_goes l r hr n m (by omega) h y hy
   unfold roundTo
   simp only
   split
   ·exact (mark_has _ _ (fun y hy => by rw [round_len, hr]; exact next_in hy) y).mpr (.inl h1)
   ·exact h1
theorem round_least (l : List S40) (r : List Bool) (hr : r.length = l.length) (C : Int → Prop) (h : ∀ x, hasR r x → C x) (hC : ∀ p, C p → ∀ y ∈ nextOf l p, C y) : ∀ n, ∀ x, hasR (roundTo l r n) x → C x
 | 0, x, hx => h x hx
 | n + 1, x, hx => by
  unfold roundTo at hx
  simp only at hx
  split at hx
  ·rename_i hq
   rcases (mark_has _ _ (fun y hy => by rw [round_len, hr]; exact next_in hy) x).mp hx with h1 | h1
   ·exact round_least l r hr C h hC n x h1
   ·exact hC n (round_least l r hr C h hC n n (hasR_at hq)) x h1
  ·exact round_least l r hr C h hC n x hx
theorem same_has {r r' : List Bool} (hl : r.length = r'.length) (h : ∀ x, hasR r x ↔ hasR r' x) : r = r' := by
 refine lists_eq false hl (fun j hj => ?_)
 have hj' : j < r'.length := by omega
 cases h1 : r.getD j false with
 | true =>
  have := ((h j).mp (hasR_at h1)).2.2
  rw [rdOf_nat] at this
  exact this.symm
 | false =>
  cases h2 : r'.getD j false with
  | false => rfl
  | true =>
   have := ((h j).mpr (hasR_at h2)).2.2
   rw [rdOf_nat, h1] at this
   exact this
theorem unseen_le : ∀ {r r' : List Bool}, r.length = r'.length → (∀ j, r.getD j false = true → r'.getD j false = true) → unseen r' ≤ unseen r ∧ (unseen r' = unseen r → r' = r)
 | [], [], _, _ => ⟨Nat.le_refl _, fun _ => rfl⟩
 | a :: r, b :: r', hl, h => by
  obtain ⟨h1, h2⟩ := unseen_le (r := r) (r' := r') (by simpa using hl) (fun j hj => by simpa using h (j + 1) (by simpa using hj))
  have h0 : a = true → b = true := fun ha => by simpa using h 0 (by simpa using ha)
  cases a <;> cases b <;> simp_all [unseen] <;> omega
 | [], b :: r', hl, _ => by simp at hl
 | a :: r, [], hl, _ => by simp at hl
def closedR (l : List S40) (r : List Bool) : Prop := ∀ x, hasR r x → ∀ y ∈ nextOf l x, hasR r y
theorem next_dom {l : List S40} {x y : Int} (h : y ∈ nextOf l x) : 0 ≤ x ∧ x < (l.length : Int) := by
 unfold nextOf at h
 split at h
 ·assumption
 ·cases h
theorem round_step (l : List S40) (r : List Bool) (hr : r.length = l.length) : (closedR l r ∧ roundTo l r l.length = r) ∨ unseen (roundTo l r l.length) + 1 ≤ unseen r := by
 have hg := round_grows l r hr l.length
 obtain ⟨h1, h2⟩ := unseen_le (r := r) (r' := roundTo l r l.length) (round_len l r _).symm (fun j hj => by have := (hg j (hasR_at hj)).2.2; rwa [rdOf_nat] at this)
 by_cases he : unseen (roundTo l r l.length) = unseen r
 ·left
  have h3 := h2 he
  refine ⟨fun x hx y hy => ?_, h3⟩
  have hd := next_dom hy
  obtain ⟨m, rfl, hm, _⟩ := hasR_nat hx
  have := round_goes l r hr l.length m (by omega) hx y hy
  rwa [h3] at this
 ·right
  omega
section
variable (a0 : ByteArray) (l1 : List ByteArray) (a2 : ByteArray) (l3 : List ByteArray) (l4 : List S58) (l : List S40) (hl : l.length ≤ 1099511627776)
include hl
theorem ref_l2 (r : List Bool) (hr : r.length = l.length) (c : Nat) (n : Nat) (hn : n < l.length) (q : List Bool) (hq : ∀ r', (if r.getD n false = true then markAll r (nextOf l n) else r) = r' → Ev (fun k => truantref09_Reached.l1 k r' (c : Int) ((n + 1 : Nat) : Int) a0 l1 a2 l3 l4 l) q) :
  Ev (fun k => truantref09_Reached.l2 k r (c : Int) (n : Int) (nextOf l n) 0 a0 l1 a2 l3 l4 l) q := by
 by_cases ht : r.getD n false = true
 ·rw [if_pos ht] at hq
  have key : ∀ (d j : Nat) (r1 : List Bool), (nextOf l n).length - j = d → j ≤ (nextOf l n).length → r1.length = l.length → hasR r1 n → markAll r1 ((nextOf l n).drop j) = markAll r (nextOf l n) → Ev (fun k => truantref09_Reached.l2 k r1 (c : Int) (n : Int) (nextOf l n) (j : Int) a0 l1 a2 l3 l4 l) q := by
   intro d
   induction d with
   | zero =>
    intro j r1 hd hj h1 h2 h3
    rw [List.drop_of_length_le (by omega)] at h3
    refine Ev.step (fun k => rfl) (Ev.pos (by omega) (Ev.pos (by omega) (Ev.pos h2.2.2 (Ev.neg (by omega) ?_))))
    rw [wrap_up (n := l.length) hn (by omega)]
    exact hq r1 h3.symm
   | succ d ih =>
    intro j r1 hd hj h1 h2 h3
    have hlt : j < (nextOf l n).length := by omega
    have h5 := next_len l n
    have hrd : rd (nextOf l n) (j : Int) = (nextOf l n)[j] := by unfold rd; rw [Int.toNat_natCast, getD_at _ _ hlt]
    have hin := next_in (List.getElem_mem hlt)
    refine Ev.step (fun k => rfl) (Ev.pos (by omega) (Ev.pos (by omega) (Ev.pos h2.2.2 (Ev.pos (by omega) (Ev.pos (by omega) ?_)))))
    rw [hrd, wrap_up (n := (nextOf l n).length) hlt (by omega)]
    refine Ev.pos hin.1 (Ev.pos (by rw [h1]; exact hin.2) ?_)
    refine ih (j + 1) _ (by omega) (by omega) (by rw [List.length_set]; exact h1) ((hasR_set hin.1 (by rw [h1]; exact hin.2)).mpr (.inl h2)) ?_
    rw [List.drop_eq_getElem_cons hlt] at h3
    exact h3
  exact key _ 0 r rfl (Nat.zero_le _) hr (hasR_at ht) (by simp)
 ·rw [if_neg ht] at hq
  refine Ev.step (fun k => rfl) (Ev.pos (by omega) (Ev.pos (by omega) (Ev.neg (by rw [rdOf_nat]; exact ht) ?_)))
  rw [wrap_up (n := l.length) hn (by omega)]
  exact hq r rfl
theorem ref_l1 (r : List Bool) (hr : r.length = l.length) (c : Nat) (hc : c < l.length) (q : List Bool) (hq : Ev (fun k => truantref09_Reached.l0 k (roundTo l r l.length) ((c + 1 : Nat) : Int) a0 l1 a2 l3 l4 l) q) :
  Ev (fun k => truantref09_Reached.l1 k r (c : Int) 0 a0 l1 a2 l3 l4 l) q := by
 have key : ∀ (d n : Nat), l.length - n = d → n ≤ l.length → Ev (fun k => truantref09_Reached.l1 k (roundTo l r n) (c : Int) (n : Int) a0 l1 a2 l3 l4 l) q := by
  intro d
  induction d with
  | zero =>
   intro n hd hn
   have e : n = l.length := by omega
   subst e
   have hlen := round_len l r l.length
   refine Ev.step (fun k => rfl) (Ev.neg (by omega) ?_)
   rw [wrap_up (n := l.length) hc (by omega)]
   exact hq
  | succ d ih =>
   intro n hd hn
   have hlen := round_len l r n
   refine Ev.step (fun k => rfl) (Ev.pos (by omega) (Ev.bind (refNext a0 l1 a2 l3 l4 l n) ?_))
   refine ref_l2 a0 l1 a2 l3 l4 l hl _ (by omega) c n (by omega) q (fun r' he => ?_)
   have := ih (n + 1) (by omega) (by omega)
   rw [show roundTo l r (n + 1) = r' from he] at this
   exact this
 exact key _ 0 rfl (Nat.zero_le _)
theorem ref_l0 (C : Int → Prop) (hC : ∀ p, C p → ∀ y ∈ nextOf l p, C y) : ∀ (d c : Nat) (r : List Bool), l.length - c = d → c ≤ l.length → r.length = l.length → (∀ x, hasR r x → C x) → hasR r 0 → (closedR l r ∨ unseen r + c + 1 ≤ l.length) →
  ∃ q, Ev (fun k => truantref09_Reached.l0 k r (c : Int) a0 l1 a2 l3 l4 l) q ∧ q.length = l.length ∧ hasR q 0 ∧ closedR l q ∧ ∀ x, hasR q x → C x := by
 intro d
 induction d with
 | zero =>
  intro c r hd hc hr h1 h2 h3
  refine ⟨r, Ev.step (fun k => rfl) (Ev.neg (by omega) (Ev.now _)), hr, h2, ?_, h1⟩
  rcases h3 with h3 | h3
  ·exact h3
  ·omega
 | succ d ih =>
  intro c r hd hc hr h1 h2 h3
  obtain ⟨q, hq, hq2⟩ := ih (c + 1) (roundTo l r l.length) (by omega) (by omega) (by rw [round_len]; exact hr) (round_least l r hr C h1 hC _) (round_grows l r hr _ 0 h2) (by
   rcases round_step l r hr with ⟨q1, q2⟩ | q1
   ·rw [q2]; exact .inl q1
   ·rcases h3 with h3 | h3
    ·left
     have : roundTo l r l.length = r := same_has (round_len l r _) (fun x => ⟨fun h => round_least l r hr (hasR r) (fun _ h => h) h3 _ x h, fun h => round_grows l r hr _ x h⟩)
     rw [this]; exact h3
    ·right; omega)
  exact ⟨q, Ev.step (fun k => rfl) (Ev.pos (by omega) (ref_l1 a0 l1 a2 l3 l4 l hl r hr c (by omega) q hq)), hq2⟩
theorem reached_same (hn : 0 < l.length) (s : List Bool) (e : List Int) (h : Adds l (List.replicate l.length false) s [0] (e ++ [0])) : Ev (fun k => truantref09_Reached.f k a0 l1 a2 l3 l4 l) s := by
 have hm : ∀ x, hasR s x ↔ x ∈ e ++ [0] := fun x => by rw [h.mem]; exact ⟨fun h => h.resolve_left (hasR_none _ _), .inr⟩
 have hs : s.length = l.length := by rw [h.len, List.length_replicate]
 have hcl : closedR l s := fun x hx y hy => h.goes x ((hm x).mp hx) y hy
 obtain ⟨q, hq, hq1, hq2, hq3, hq4⟩ := ref_l0 a0 l1 a2 l3 l4 l hl (hasR s) hcl l.length 0 ((List.replicate l.length false).set 0 true) (by omega) (Nat.zero_le _) (by simp)
  (fun x hx => by
   rcases (hasR_set (b := 0) (by omega) (by simpa using hn)).mp hx with h1 | rfl
   ·exact absurd h1 (hasR_none _ _)
   ·exact (hm 0).mpr (by simp)) ((hasR_set (b := 0) (by omega) (by simpa using hn)).mpr (.inr rfl)) (.inr (by
   have := unseen_set (s := List.replicate l.length false) (m := 0) (by simpa using hn) (by rw [getD_at _ _ (by simpa using hn)]; simp)
   rw [unseen_none] at this
   omega))
 have he : q = s := same_has (hq1.trans hs.symm) (fun x => ⟨hq4 x, fun hx => led_all h (hasR q) (fun y hy => by rw [List.mem_singleton] at hy; subst hy; exact hq2) hq3 x ((hm x).mp hx)⟩)
 subst he
 unfold truantref09_Reached.f
 refine Ev.pos (by omega) (Ev.pos (by omega) ?_)
 rw [Int.toNat_natCast]
 refine Ev.neg (by rw [List.length_replicate]; omega) (Ev.pos (by rw [List.length_replicate]; omega) ?_)
 exact hq
end
end Go.Proofs.Ytclhjalgflebfaa.Q

/- Flow, plain law: the order, with a stack as by the walk. -/

namespace Go.Proofs.Ytclhjalgflebfaa.Q
open Go.RowKit Go.Proofs.YtclhjalgflebfaaW.PrintWords Go.Proofs.YtclhjalgflebfaaW.PrintLast Go.Proofs.YtclhjalgflebfaaW.PrintMore
set_option linter.unusedVariables false
set_option linter.unusedSimpArgs false
def firstU (s : List Bool) : List Int → Int
 | [] => -1
 | x :: xs => if rdOf false s x = true then firstU s xs else x
theorem firstU_seen {s : List Bool} : ∀ {xs ys : List Int}, (∀ x ∈ xs, hasR s x) → firstU s (xs ++ ys) = firstU s ys
 | [], ys, _ => rfl
 | x :: xs, ys, h => by
  show (if rdOf false s x = true then firstU s (xs ++ ys) else x) = _
  rw [if_pos (h x List.mem_cons_self).2.2]
  exact firstU_seen (fun y hy => h y (List.mem_cons_of_mem _ hy))
section
variable (a0 : ByteArray) (l1 : List ByteArray) (a2 : ByteArray) (l3 : List ByteArray) (l4 : List S58) (l : List S40) (hl : l.length ≤ 1099511627776)
include hl
omit hl in
/-- One round of the stack's loop. -/
theorem order_round (s : List Bool) (hs : s.length = l.length) (st : List Int) (b : Int) (out q : List Int) (hst : st.length < 17592186044415)
  (h : Ev (fun k => if firstU s (nextOf l b) ≥ 0 then (if 0 ≤ firstU s (nextOf l b) then (if firstU s (nextOf l b) < (s.length : Int) then (if (st ++ [b]).length < 17592186044416 then truantref09_Order.l0 k (s.set (firstU s (nextOf l b)).toNat true) ((st ++ [b]) ++ [firstU s (nextOf l b)]) out a0 l1 a2 l3 l4 l else none) else none) else none) else (if ([b] : List Int).length + out.length < 17592186044416 then truantref09_Order.l0 k s st ([b] ++ out) a0 l1 a2 l3 l4 l else none)) q) :
  Ev (fun k => truantref09_Order.l0 k s (st ++ [b]) out a0 l1 a2 l3 l4 l) q := by
 have hlen : (st ++ [b]).length = st.length + 1 := by simp
 have hw : wrap64 (((st ++ [b]).length : Int) - 1) = (st.length : Int) := by rw [hlen]; unfold wrap64; omega
 have hrd : rd (st ++ [b]) (st.length : Int) = b := by unfold rd; rw [Int.toNat_natCast]; simp [List.getD]
 refine Ev.step (fun k => rfl) (Ev.pos (by omega) ?_)
 rw [hw, hrd]
 refine Ev.pos (by omega) (Ev.pos (by omega) (Ev.bind (refNext a0 l1 a2 l3 l4 l b) ?_))
 have h2 := next_len l b
 have hw2 : wrap64 (((nextOf l b).length : Int) - 1) = ((nextOf l b).length : Int) - 1 := by unfold wrap64; omega
 rw [hw2]
 have key : ∀ (j : Nat) (x8 : Int), j ≤ (nextOf l b).length → x8 = firstU s ((nextOf l b).drop j) → Ev (fun k => truantref09_Order.l1 k s (st ++ [b]) out b (nextOf l b) x8 ((j : Int) - 1) a0 l1 a2 l3 l4 l) q := by
  intro j
  induction j with
  | zero =>
   intro x8 _ hx
   rw [List.drop_zero] at hx
   subst hx
   refine Ev.step (fun k => rfl) (Ev.neg (by omega) ?_)
   refine Ev.congr (fun k => ?_) h
   have ht : (st ++ [b]).take (st.length : Int).toNat = st := by rw [Int.toNat_natCast]; exact List.take_left' rfl
   simp only [Option.bind_some]
   rw [hw, ht]
   split
   ·rfl
   ·split
    ·rw [if_pos (by omega), if_pos (by rw [hlen]; omega)]
    ·rfl
  | succ j ih =>
   intro x8 hj hx
   have hlt : j < (nextOf l b).length := by omega
   have hrd2 : rd (nextOf l b) (j : Int) = (nextOf l b)[j] := by unfold rd; rw [Int.toNat_natCast, getD_at _ _ hlt]
   have hin := next_in (List.getElem_mem hlt)
   have e1 : ((j + 1 : Nat) : Int) - 1 = (j : Int) := by omega
   have e2 : wrap64 ((j : Int) - 1) = (j : Int) - 1 := by unfold wrap64; omega
   rw [e1]
   refine Ev.step (fun k => rfl) (Ev.pos (by omega) (Ev.pos (by omega) (Ev.pos (by omega) ?_)))
   rw [hrd2, e2]
   refine Ev.pos hin.1 (Ev.pos (by rw [hs]; exact hin.2) ?_)
   have hd : firstU s ((nextOf l b).drop j) = if rdOf false s (nextOf l b)[j] = true then x8 else (nextOf l b)[j] := by
    rw [List.drop_eq_getElem_cons hlt, hx]
    rfl
   by_cases hq : rdOf false s (nextOf l b)[j] = true
   ·rw [if_pos hq] at hd
    exact Ev.pos hq (ih x8 (by omega) hd.symm)
   ·rw [if_neg hq] at hd
    exact Ev.neg hq (ih _ (by omega) hd.symm)
 have := key (nextOf l b).length (-1) (Nat.le_refl _) (by rw [List.drop_length]; rfl)
 exact this
omit hl in
theorem sim : ∀ (k : Nat) (xs pre : List Int) (b : Int) (s : List Bool) (d st out : List Int), nextOf l b = pre ++ xs → (∀ x ∈ pre, hasR s x) → s.length = l.length → unseen s ≤ k → d.length + unseen s < LIMF → out.length + st.length + 1 + unseen s ≤ 1099511627777 →
  ∃ s' e, xs.foldlM (stepO l k) (s, d) = some (s', d ++ e) ∧ Adds l s s' xs e ∧ ∀ q, Ev (fun k => truantref09_Order.l0 k s' st (b :: (e.reverse ++ out)) a0 l1 a2 l3 l4 l) q → Ev (fun k => truantref09_Order.l0 k s (st ++ [b]) out a0 l1 a2 l3 l4 l) q := by
 intro k
 induction k with
 | zero =>
  intro xs
  induction xs with
  | nil =>
   intro pre b s d st out hn hpre hs hu hd hb
   refine ⟨s, [], by simp, Adds.none (fun x hx => by cases hx), fun q hq => ?_⟩
   refine order_round a0 l1 a2 l3 l4 l s hs st b out q (by omega) ?_
   have hf : firstU s (nextOf l b) = -1 := by rw [hn, firstU_seen hpre]; rfl
   rw [hf]
   refine Ev.neg (by omega) (Ev.pos (by simp only [List.length_singleton]; omega) ?_)
   simpa using hq
  | cons x xs ihx =>
   intro pre b s d st out hn hpre hs hu hd hb
   have hx0 : x ∈ nextOf l b := by rw [hn]; simp
   have hin := next_in hx0
   have hx : hasR s x := by
    apply Classical.byContradiction
    intro hno
    obtain ⟨s', e, h1, _⟩ := visit_adds l 0 x s d hs hin.1 hin.2 hno hu hd
    cases h1
   obtain ⟨s', e, h1, h2, h3⟩ := ihx (pre ++ [x]) b s d st out (by simp [hn]) (fun y hy => by
    rcases List.mem_append.mp hy with hy | hy
    ·exact hpre y hy
    ·rw [List.mem_singleton] at hy; subst hy; exact hx) hs hu hd hb
   refine ⟨s', e, ?_, ?_, h3⟩
   ·rw [List.foldlM_cons]
    unfold stepO
    rw [if_pos ⟨hx.1, hx.2.1⟩, if_pos hx.2.2]
    exact h1
   ·have := (Adds.none (l := l) (s := s) (xs := [x]) (fun y hy => by rw [List.mem_singleton] at hy; subst hy; exact hx)).trans h2
    simpa using this
 | succ k ihk =>
  intro xs
  induction xs with
  | nil =>
   intro pre b s d st out hn hpre hs hu hd hb
   refine ⟨s, [], by simp, Adds.none (fun x hx => by cases hx), fun q hq => ?_⟩
   refine order_round a0 l1 a2 l3 l4 l s hs st b out q (by omega) ?_
   have hf : firstU s (nextOf l b) = -1 := by rw [hn, firstU_seen hpre]; rfl
   rw [hf]
   refine Ev.neg (by omega) (Ev.pos (by simp only [List.length_singleton]; omega) ?_)
   simpa using hq
  | cons x xs ihx =>
   intro pre b s d st out hn hpre hs hu hd hb
   have hx0 : x ∈ nextOf l b := by rw [hn]; simp
   have hin := next_in hx0
   by_cases hx : hasR s x
   ·obtain ⟨s', e, h1, h2, h3⟩ := ihx (pre ++ [x]) b s d st out (by simp [hn]) (fun y hy => by
     rcases List.mem_append.mp hy with hy | hy
     ·exact hpre y hy
     ·rw [List.mem_singleton] at hy; subst hy; exact hx) hs hu hd hb
    refine ⟨s', e, ?_, ?_, h3⟩
    ·rw [List.foldlM_cons]
     unfold stepO
     rw [if_pos ⟨hx.1, hx.2.1⟩, if_pos hx.2.2]
     exact h1
    ·have := (Adds.none (l := l) (s := s) (xs := [x]) (fun y hy => by rw [List.mem_singleton] at hy; subst hy; exact hx)).trans h2
     simpa using this
   ·obtain ⟨s1, e1, h1, h2, e1', he1, h4, h5⟩ := visit_adds l (k + 1) x s d hs hin.1 hin.2 hx hu hd
    have hno : s.getD x.toNat false = false := by
     cases hq : s.getD x.toNat false with
     | false => rfl
     | true => exact absurd ⟨hin.1, by rw [hs]; exact hin.2, hq⟩ hx
    have hu2 := unseen_set (s := s) (m := x.toNat) (by omega) hno
    obtain ⟨s1', e1'', g1, g2, g3⟩ := ihk (nextOf l x) [] x (s.set x.toNat true) d (st ++ [b]) out rfl (fun y hy => by cases hy) (by rw [List.length_set]; exact hs) (by omega) (by omega) (by rw [List.length_append]; simp only [List.length_singleton]; omega)
    have hsame := h4.symm.trans g1
    simp only [Nat.add_sub_cancel, Option.some.injEq, Prod.mk.injEq, List.append_cancel_left_eq] at hsame
    obtain ⟨rfl, rfl⟩ := hsame
    have hc := h2.count
    obtain ⟨s2, e2, f1, f2, f3⟩ := ihx (pre ++ [x]) b s1 (d ++ e1) st (x :: (e1'.reverse ++ out)) (by simp [hn]) (fun y hy => by
     rcases List.mem_append.mp hy with hy | hy
     ·exact (h2.mem y).mpr (.inl (hpre y hy))
     ·rw [List.mem_singleton] at hy; subst hy; exact h2.starts y (by simp)) (h2.len.trans hs) (by omega) (by rw [List.length_append]; omega) (by
      subst he1
      rw [List.length_append] at hc
      simp only [List.length_singleton] at hc
      simp only [List.length_cons, List.length_append, List.length_reverse]
      omega)
    refine ⟨s2, e1 ++ e2, ?_, h2.trans f2, fun q hq => ?_⟩
    ·rw [List.foldlM_cons, ← List.append_assoc]
     unfold stepO
     rw [if_pos ⟨hin.1, by rw [hs]; exact hin.2⟩, if_neg (fun h => hx ⟨hin.1, by rw [hs]; exact hin.2, h⟩)]
     show (visitO l (k + 1) x s d).bind _ = _
     rw [h1]
     exact f1
    ·have hf : firstU s (nextOf l b) = x := by
      rw [hn, firstU_seen hpre]
      show (if rdOf false s x = true then firstU s xs else x) = x
      rw [if_neg (fun h => hx ⟨hin.1, by rw [hs]; exact hin.2, h⟩)]
     refine order_round a0 l1 a2 l3 l4 l s hs st b out q (by omega) ?_
     rw [hf]
     refine Ev.pos hin.1 (Ev.pos hin.1 (Ev.pos (by rw [hs]; exact hin.2) (Ev.pos (by rw [List.length_append]; simp only [List.length_singleton]; omega) ?_)))
     refine g3 q (f3 q ?_)
     subst he1
     simpa using hq
theorem order_same (hn : 0 < l.length) (s : List Bool) (e : List Int) (h1 : ((nextOf l 0).foldlM (stepO l l.length) ((List.replicate l.length false).set 0 true, [])) = some (s, e)) : Ev (fun k => truantref09_Order.f k a0 l1 a2 l3 l4 l) (0 :: e.reverse) := by
 have hu := unseen_set (s := List.replicate l.length false) (m := 0) (by simpa using hn) (by rw [getD_at _ _ (by simpa using hn)]; simp)
 rw [unseen_none] at hu
 obtain ⟨s', e', g1, g2, g3⟩ := sim a0 l1 a2 l3 l4 l l.length (nextOf l 0) [] 0 ((List.replicate l.length false).set 0 true) [] [] [] rfl (fun y hy => by cases hy) (by simp) (by omega) (by simp only [List.length_nil, LIMF]; omega) (by simp only [List.length_nil]; omega)
 rw [h1] at g1
 simp only [List.nil_append, Option.some.injEq, Prod.mk.injEq] at g1
 obtain ⟨rfl, rfl⟩ := g1
 unfold truantref09_Order.f
 refine Ev.neg (by omega) (Ev.pos (by omega) (Ev.pos (by omega) ?_))
 rw [Int.toNat_natCast]
 refine Ev.pos (by rw [List.length_replicate]; omega) ?_
 refine g3 _ ?_
 rw [List.append_nil]
 exact Ev.step (fun k => rfl) (Ev.now _)
end
end Go.Proofs.Ytclhjalgflebfaa.Q

/- Flow, plain law: the anchor, and what is more than is asked. -/

namespace Go.Proofs.Ytclhjalgflebfaa.Q
open Go.RowKit Go.Proofs.YtclhjalgflebfaaW.PrintWords Go.Proofs.YtclhjalgflebfaaW.PrintLast Go.Proofs.YtclhjalgflebfaaW.PrintMore
set_option linter.unusedVariables false
set_option linter.unusedSimpArgs false
theorem awake_true : Ev (fun k => truantlaw09_awake.f k) true := by
 have h : truantlaw09_awake.f 40 = some true := by kernel_rfl
 exact Ev.of (fun k => truantlaw09_awake.mono k) h
section
variable (a0 : ByteArray) (l1 : List ByteArray) (a2 : ByteArray) (l3 : List ByteArray) (l4 : List S58) (l : List S40)
theorem wide_ev : ∃ b, Ev (fun k => truantlaw09_wide.f k a0 l1 a2 l3 l4 l) b ∧ (b = false → l.length ≤ 60 ∧ l4.length ≤ 300) := by
 unfold truantlaw09_wide.f
 by_cases h1 : (l4.length : Int) > 300
 ·exact ⟨true, Ev.pos h1 (Ev.step (fun k => rfl) (Ev.now _)), fun h => by cases h⟩
 ·by_cases h2 : (l.length : Int) > 60
  ·refine ⟨true, Ev.neg h1 (Ev.step (fun k => rfl) ?_), fun h => by cases h⟩
   rw [decide_eq_true h2]
   exact Ev.now _
  ·have key : ∀ (d i : Nat) (acc : Int), l.length - i = d → i ≤ l.length → ∃ b, Ev (fun k => truantlaw09_wide.l0 k acc (i : Int) a0 l1 a2 l3 l4 l) b := by
    intro d
    induction d with
    | zero => intro i acc hd hi; exact ⟨_, Ev.step (fun k => rfl) (Ev.neg (by omega) (Ev.now _))⟩
    | succ d ih =>
     intro i acc hd hi
     obtain ⟨b, hb⟩ := ih (i + 1) (wrap64 (acc + (((rd_T40 l (i : Int)).f0).length : Int))) (by omega) (by omega)
     refine ⟨b, Ev.step (fun k => rfl) (Ev.pos (by omega) (Ev.pos (by omega) ?_))⟩
     rw [wrap_up (n := l.length) (by omega) (by omega)]
     exact hb
   obtain ⟨b, hb⟩ := key _ 0 0 rfl (Nat.zero_le _)
   refine ⟨b, Ev.neg h1 (Ev.step (fun k => rfl) ?_), fun _ => by omega⟩
   rw [decide_eq_false h2]
   exact hb
end
end Go.Proofs.Ytclhjalgflebfaa.Q

/- Flow: of every function and block where it leads, who leads to each, which are reached, and the order, are the document's. -/

namespace Go.Proofs.Ytclhjalgflebfaa.Q
open Go.RowKit Go.Proofs.YtclhjalgflebfaaW.PrintWords Go.Proofs.YtclhjalgflebfaaW.PrintLast Go.Proofs.YtclhjalgflebfaaW.PrintMore
set_option linter.unusedVariables false
set_option linter.unusedSimpArgs false
theorem reached_some (l : List S40) (hl : l.length < LIMF) (hn : 0 < l.length) : ∃ s e, Adds l (List.replicate l.length false) s [0] (e ++ [0]) ∧ ((nextOf l 0).foldlM (stepO l l.length) ((List.replicate l.length false).set 0 true, [])) = some (s, e) ∧
  (∀ a0 l1 a2 l3 l4, flow_Reached.f a0 l1 a2 l3 l4 l = some s) ∧ (∀ a0 l1 a2 l3 l4, flow_Order.f a0 l1 a2 l3 l4 l = some (0 :: e.reverse)) ∧ e.length < l.length := by
 obtain ⟨s, e, h1, h2, h3, h4⟩ := walk_facts l hl hn
 have hc := h2.count
 rw [unseen_none, List.length_append] at hc
 simp only [List.length_singleton] at hc
 refine ⟨s, e, h2, h3, fun a0 l1 a2 l3 l4 => ?_, fun a0 l1 a2 l3 l4 => ?_, by omega⟩
 ·unfold flow_Reached.f
  rw [h1]
  rfl
 ·unfold flow_Order.f
  rw [h1]
  simp only [Option.bind_some]
  rw [if_pos (by rw [List.length_append]; simp only [List.length_singleton]; omega)]
  simp
theorem FlowExact_pure : FlowExact.Pure := by
 intro a0 l1 a2 l3 l4 l a1 hwf ha1
 have hev : Ev (fun k => truantlaw09_FlowExact.f k a0 l1 a2 l3 l4 l a1) true := by
  unfold truantlaw09_FlowExact.f
  refine Ev.bind awake_true (Ev.pos rfl ?_)
  obtain ⟨b, hb, hb2⟩ := wide_ev a0 l1 a2 l3 l4 l
  refine Ev.bind hb ?_
  cases b with
  | true => exact Ev.pos rfl (Ev.now _)
  | false =>
   obtain ⟨hl60, _⟩ := hb2 rfl
   refine Ev.neg (by simp) ?_
   have hl : l.length ≤ 1099511627776 := by omega
   obtain ⟨x, hx, hx1, hx2⟩ := flowAhead a0 l1 a2 l3 l4 l hl
   refine Ev.bind hx ?_
   obtain ⟨s, o, hR, hO, hsl, hR2, hO2, hsame⟩ : ∃ s o, flow_Reached.f a0 l1 a2 l3 l4 l = some s ∧ flow_Order.f a0 l1 a2 l3 l4 l = some o ∧ s.length = l.length ∧ Ev (fun k => truantref09_Reached.f k a0 l1 a2 l3 l4 l) s ∧ Ev (fun k => truantref09_Order.f k a0 l1 a2 l3 l4 l) o ∧ o.length ≤ 60 := by
    by_cases hn : 0 < l.length
    ·obtain ⟨s, e, h1, h2, h3, h4, h5⟩ := reached_some l (by unfold LIMF; omega) hn
     exact ⟨s, _, h3 _ _ _ _ _, h4 _ _ _ _ _, by rw [h1.len, List.length_replicate], reached_same a0 l1 a2 l3 l4 l hl hn s e h1, order_same a0 l1 a2 l3 l4 l hl hn s e h2, by simp only [List.length_cons, List.length_reverse]; omega⟩
    ·obtain rfl : l = [] := List.eq_nil_of_length_eq_zero (by omega)
     refine ⟨[], [], rfl, rfl, rfl, ?_, ?_, by simp⟩
     ·exact ⟨0, fun k _ => rfl⟩
     ·exact ⟨0, fun k _ => rfl⟩
   refine Ev.one hR (Ev.bind hR2 (Ev.pos (by omega) (Ev.pos rfl (Ev.one (show flow_Next.f a0 l1 a2 l3 l4 l a1 = some (nextOf l a1) from rfl) (Ev.bind (refNext a0 l1 a2 l3 l4 l a1) (Ev.bind (same_ev _ (by have := next_len l a1; omega)) (Ev.pos rfl (Ev.one hO (Ev.bind hO2 (Ev.bind (same_ev _ (by omega)) (Ev.pos rfl ?_)))))))))))
   have key : ∀ (d i : Nat), l.length - i = d → i ≤ l.length → Ev (fun k => truantlaw09_FlowExact.l0 k x s s (i : Int) a0 l1 a2 l3 l4 l) true := by
    intro d
    induction d with
    | zero => intro i hd hi; exact Ev.step (fun k => rfl) (Ev.neg (by omega) (Ev.now _))
    | succ d ih =>
     intro i hd hi
     have h1 := ahead_len l (i : Int) l.length
     refine Ev.step (fun k => rfl) (Ev.pos (by omega) (Ev.pos (by omega) (Ev.pos (by omega) (Ev.neg (by simp) (Ev.pos (by omega) (Ev.bind (refAhead a0 l1 a2 l3 l4 l hl i) ?_))))))
     have hrow : rd_L2 x (i : Int) = aheadTo l l.length i := by unfold rd_L2; rw [Int.toNat_natCast, hx2 i (by omega)]
     rw [hrow]
     refine Ev.bind (same_ev _ (by omega)) (Ev.pos rfl ?_)
     rw [wrap_up (n := l.length) (by omega) (by omega)]
     exact ih (i + 1) (by omega) (by omega)
   exact key _ 0 rfl (Nat.zero_le _)
 exact hev.rounds
end Go.Proofs.Ytclhjalgflebfaa.Q
