/- What the row of FlowOrder rests on, part 2: contracts of the functions that it reaches, and the plain law. -/
import Derived.Test.YtclhjalgflebfaaJFlowOrder1
namespace Go.Proofs.Ytclhjalgflebfaa.Q
open Go.RowKit Go.Proofs.YtclhjalgflebfaaW.PrintWords Go.Proofs.YtclhjalgflebfaaW.PrintLast Go.Proofs.YtclhjalgflebfaaW.PrintMore
set_option maxHeartbeats 8000000 in
set_option maxRecDepth 100000 in
theorem truantlaw09_FlowOrder.calls (k : Nat) (a0_0 : ByteArray) (A0_1 : Option Addr) (c0_1 : Nat) (l0_1 : List ByteArray) (a0_2 : ByteArray) (A0_3 : Option Addr) (c0_3 : Nat) (l0_3 : List ByteArray) (A0_4 : Option Addr) (c0_4 : Nat) (l0_4 : List (S58)) (A0_5 : Option Addr) (c0_5 : Nat) (l0_5 : List (S40)) (r : Bool) (w : World) (hr0_1 : Kd.C Kd.string w A0_1 l0_1.length l0_1) (hc0_1 : l0_1.length ≤ c0_1) (hr0_3 : Kd.C Kd.string w A0_3 l0_3.length l0_3) (hc0_3 : l0_3.length ≤ c0_3) (hr0_4 : Kd.C k58 w A0_4 l0_4.length l0_4) (hc0_4 : l0_4.length ≤ c0_4) (hr0_5 : Kd.C k40 w A0_5 l0_5.length l0_5) (hc0_5 : l0_5.length ≤ c0_5) (h : truantlaw09_FlowOrder.f k a0_0 l0_1 a0_2 l0_3 l0_4 l0_5 = some r) :
  Calls Try.prog 5 #[.agg #[.string a0_0, .slice A0_1 l0_1.length c0_1, .string a0_2, .slice A0_3 l0_3.length c0_3, .slice A0_4 l0_4.length c0_4, .slice A0_5 l0_5.length c0_5]] w fun e w' => e = .returned (.bool r) ∧ Below w.heap.size w w' := by
 have hu26 := Try.underlying26
 have HR0_1 := Aside0.mk hr0_1
 have HC0_1 := Aside0.mk hc0_1
 clear hr0_1 hc0_1
 have HR0_3 := Aside0.mk hr0_3
 have HC0_3 := Aside0.mk hc0_3
 clear hr0_3 hc0_3
 have HR0_4 := Aside0.mk hr0_4
 have HC0_4 := Aside0.mk hc0_4
 clear hr0_4 hc0_4
 have HR0_5 := Aside0.mk hr0_5
 have HC0_5 := Aside0.mk hc0_5
 clear hr0_5 hc0_5
 have HB := Aside0.mk (Below.refl w.heap.size w)
 have H : ((truantlaw09_awake.f k).bind fun t464 => (if t464 = true then ((truantlaw09_wide.f k a0_0 l0_1 a0_2 l0_3 l0_4 l0_5).bind fun t465 => (if t465 = true then (some true) else ((flow_Order.f a0_0 l0_1 a0_2 l0_3 l0_4 l0_5).bind fun t466 => ((flow_Reached.f a0_0 l0_1 a0_2 l0_3 l0_4 l0_5).bind fun t469 => ((flow_Ahead.f k a0_0 l0_1 a0_2 l0_3 l0_4 l0_5).bind fun t472 => (if (l0_5.length : Int) = 0 then (some ((t466.length : Int) == 0)) else (if (t466.length : Int) = 0 then (truantlaw09_FlowOrder.j0 k t466 t469 t472 true a0_0 l0_1 a0_2 l0_3 l0_4 l0_5) else (if 0 < (t466.length : Int) then (truantlaw09_FlowOrder.j0 k t466 t469 t472 ((rd t466 0) != 0) a0_0 l0_1 a0_2 l0_3 l0_4 l0_5) else (none))))))))) else (none))) = some r := h
 clear h
 replace H := Option.bind_eq_some_iff.mp H
 obtain ⟨t464, A20, H⟩ := H
 replace H : (if t464 = true then ((truantlaw09_wide.f k a0_0 l0_1 a0_2 l0_3 l0_4 l0_5).bind fun t465 => (if t465 = true then (some true) else ((flow_Order.f a0_0 l0_1 a0_2 l0_3 l0_4 l0_5).bind fun t466 => ((flow_Reached.f a0_0 l0_1 a0_2 l0_3 l0_4 l0_5).bind fun t469 => ((flow_Ahead.f k a0_0 l0_1 a0_2 l0_3 l0_4 l0_5).bind fun t472 => (if (l0_5.length : Int) = 0 then (some ((t466.length : Int) == 0)) else (if (t466.length : Int) = 0 then (truantlaw09_FlowOrder.j0 k t466 t469 t472 true a0_0 l0_1 a0_2 l0_3 l0_4 l0_5) else (if 0 < (t466.length : Int) then (truantlaw09_FlowOrder.j0 k t466 t469 t472 ((rd t466 0) != 0) a0_0 l0_1 a0_2 l0_3 l0_4 l0_5) else (none))))))))) else (none)) = some r := H
 have A2 := Aside0.mk A20
 clear A20
 by_cases c3 : t464 = true
 rotate_left
 ·replace c3 := Bool.eq_false_iff.mpr c3
  subst c3
  have H1 : (none) = some r := by rw [if_neg (show ¬ (false = true) by decide)] at H; exact H
  clear H
  have H := H1
  clear H1
  exact absurd H (by simp)
 subst c3
 have H1 : ((truantlaw09_wide.f k a0_0 l0_1 a0_2 l0_3 l0_4 l0_5).bind fun t465 => (if t465 = true then (some true) else ((flow_Order.f a0_0 l0_1 a0_2 l0_3 l0_4 l0_5).bind fun t466 => ((flow_Reached.f a0_0 l0_1 a0_2 l0_3 l0_4 l0_5).bind fun t469 => ((flow_Ahead.f k a0_0 l0_1 a0_2 l0_3 l0_4 l0_5).bind fun t472 => (if (l0_5.length : Int) = 0 then (some ((t466.length : Int) == 0)) else (if (t466.length : Int) = 0 then (truantlaw09_FlowOrder.j0 k t466 t469 t472 true a0_0 l0_1 a0_2 l0_3 l0_4 l0_5) else (if 0 < (t466.length : Int) then (truantlaw09_FlowOrder.j0 k t466 t469 t472 ((rd t466 0) != 0) a0_0 l0_1 a0_2 l0_3 l0_4 l0_5) else (none))))))))) = some r := by rw [if_pos rfl] at H; exact H
 clear H
 have H := H1
 clear H1
 replace H := Option.bind_eq_some_iff.mp H
 obtain ⟨t465, A40, H⟩ := H
 replace H : (if t465 = true then (some true) else ((flow_Order.f a0_0 l0_1 a0_2 l0_3 l0_4 l0_5).bind fun t466 => ((flow_Reached.f a0_0 l0_1 a0_2 l0_3 l0_4 l0_5).bind fun t469 => ((flow_Ahead.f k a0_0 l0_1 a0_2 l0_3 l0_4 l0_5).bind fun t472 => (if (l0_5.length : Int) = 0 then (some ((t466.length : Int) == 0)) else (if (t466.length : Int) = 0 then (truantlaw09_FlowOrder.j0 k t466 t469 t472 true a0_0 l0_1 a0_2 l0_3 l0_4 l0_5) else (if 0 < (t466.length : Int) then (truantlaw09_FlowOrder.j0 k t466 t469 t472 ((rd t466 0) != 0) a0_0 l0_1 a0_2 l0_3 l0_4 l0_5) else (none)))))))) = some r := H
 have A4 := Aside0.mk A40
 clear A40
 by_cases c5 : t465 = true
 ·subst c5
  have H1 : (some true) = some r := by rw [if_pos rfl] at H; exact H
  clear H
  have H := H1
  clear H1
  obtain rfl := Option.some.inj H
  go_enter Try.func5, Try.ntmps5
  go_wp2_with (first | ((with_reducible refine gate_dst (N := 1) rfl ?_); (try (refine gate_guard (by rfl) ?_; dsimp only)); refine box_event ?hg (N := 1) ?hd (cs := #[.string a0_0, .slice A0_1 l0_1.length c0_1, .string a0_2, .slice A0_3 l0_3.length c0_3, .slice A0_4 l0_4.length c0_4, .slice A0_5 l0_5.length c0_5]) (t := 26) ?hr ?_; (case hd => rfl); (case hg => rfl); (case hr => first | (go_simp; done) | (go_simp; rfl)); intro gb463 hg w6 hbox hb; have n0_ := Aside0.mk (below_step (by repeat (first | (with_reducible first | exact HB.out | apply below_alloc | apply pw_below_drewN | apply below_drew1) | exact HB.out)) hb); have n1_ := Aside0.mk (hbox); have n2_ := Aside0.mk ((by rw [hg]; exact (below_size (by repeat (first | (with_reducible first | exact HB.out | apply below_alloc | apply pw_below_drewN | apply below_drew1) | exact HB.out))) : w.heap.size ≤ gb463)); have n3_ := Aside0.mk ((by rw [hg]; exact (below_size (by repeat (first | (with_reducible first | exact HB.out | apply below_alloc | apply pw_below_drewN | apply below_drew1) | exact HB.out))) : w.heap.size ≤ gb463)); clear HB; have HB := n0_; have BK463 := n1_; have GW463 := n2_; have GE463 := n3_; clear n0_ n1_ n2_ n3_; clear hb hbox hg) | (go_at_call 14; (with_reducible refine (truantlaw09_awake.calls k  true _ A2.out).mono ?_); rintro e w7 ⟨rfl, hb⟩; have n0_ := Aside0.mk (blk_below (g := gb463) (o := .cells #[.string a0_0, .slice A0_1 l0_1.length c0_1, .string a0_2, .slice A0_3 l0_3.length c0_3, .slice A0_4 l0_4.length c0_4, .slice A0_5 l0_5.length c0_5] 26 (0, 0)) (by (with_reducible repeat (first | refine blk_drewN ?_ _ | refine blk_drew ?_ | refine blk_alloc ?_ _)); exact BK463.out) hb); have n1_ := Aside0.mk (below_step (by repeat (first | (with_reducible first | exact HB.out | apply below_alloc | apply pw_below_drewN | apply below_drew1 | refine below_set ?_ GE463.out) | exact HB.out)) hb); clear BK463; clear HB; have BK463 := n0_; have HB := n1_; clear n0_ n1_; (try clear hb); (try clear hb2); (try clear hk); (try clear hi); have hcz8_0 : w7.cell? ⟨gb463, 0, none⟩ = some (.string a0_0) := (blk_cell BK463.out 0).trans rfl; have hcz8_1 : w7.cell? ⟨gb463, 1, none⟩ = some (.slice A0_1 l0_1.length c0_1) := (blk_cell BK463.out 1).trans rfl; have hcz8_2 : w7.cell? ⟨gb463, 2, none⟩ = some (.string a0_2) := (blk_cell BK463.out 2).trans rfl; have hcz8_3 : w7.cell? ⟨gb463, 3, none⟩ = some (.slice A0_3 l0_3.length c0_3) := (blk_cell BK463.out 3).trans rfl; have hcz8_4 : w7.cell? ⟨gb463, 4, none⟩ = some (.slice A0_4 l0_4.length c0_4) := (blk_cell BK463.out 4).trans rfl; have hcz8_5 : w7.cell? ⟨gb463, 5, none⟩ = some (.slice A0_5 l0_5.length c0_5) := (blk_cell BK463.out 5).trans rfl; have hfz8_0 := blk_frozen BK463.out 0; have hfz8_1 := blk_frozen BK463.out 1; have hfz8_2 := blk_frozen BK463.out 2; have hfz8_3 := blk_frozen BK463.out 3; have hfz8_4 := blk_frozen BK463.out 4; have hfz8_5 := blk_frozen BK463.out 5) | (go_at_call 15; (with_reducible refine (truantlaw09_wide.calls k a0_0 _ _ l0_1 a0_2 _ _ l0_3 _ _ l0_4 _ _ l0_5 true _ ?side1 ?side2 ?side3 ?side4 ?side5 ?side6 ?side7 ?side8 A4.out).mono ?_); (case side1 => repeat (first | exact (Kd.C_below HR0_1.out HB.out) | (with_reducible refine Kd.C_alloc ?_ _) | (with_reducible refine Kd.C_drewN ?_ _) | (with_reducible refine Kd.C_drew ?_))); (case side2 => exact HC0_1.out); (case side3 => repeat (first | exact (Kd.C_below HR0_3.out HB.out) | (with_reducible refine Kd.C_alloc ?_ _) | (with_reducible refine Kd.C_drewN ?_ _) | (with_reducible refine Kd.C_drew ?_))); (case side4 => exact HC0_3.out); (case side5 => repeat (first | exact (Kd.C_below HR0_4.out HB.out) | (with_reducible refine Kd.C_alloc ?_ _) | (with_reducible refine Kd.C_drewN ?_ _) | (with_reducible refine Kd.C_drew ?_))); (case side6 => exact HC0_4.out); (case side7 => repeat (first | exact (Kd.C_below HR0_5.out HB.out) | (with_reducible refine Kd.C_alloc ?_ _) | (with_reducible refine Kd.C_drewN ?_ _) | (with_reducible refine Kd.C_drew ?_))); (case side8 => exact HC0_5.out); rintro e w9 ⟨rfl, hb⟩; have n0_ := Aside0.mk (blk_below (g := gb463) (o := .cells #[.string a0_0, .slice A0_1 l0_1.length c0_1, .string a0_2, .slice A0_3 l0_3.length c0_3, .slice A0_4 l0_4.length c0_4, .slice A0_5 l0_5.length c0_5] 26 (0, 0)) (by (with_reducible repeat (first | refine blk_drewN ?_ _ | refine blk_drew ?_ | refine blk_alloc ?_ _)); exact BK463.out) hb); have n1_ := Aside0.mk (below_step (by repeat (first | (with_reducible first | exact HB.out | apply below_alloc | apply pw_below_drewN | apply below_drew1 | refine below_set ?_ GE463.out) | exact HB.out)) hb); clear BK463; clear HB; have BK463 := n0_; have HB := n1_; clear n0_ n1_; (try clear hb); (try clear hb2); (try clear hk); (try clear hi)))
  repeat (go_quiet (first | ((with_reducible refine gate_dst (N := 1) rfl ?_); (try (refine gate_guard (by rfl) ?_; dsimp only)); refine box_event ?hg (N := 1) ?hd (cs := #[.string a0_0, .slice A0_1 l0_1.length c0_1, .string a0_2, .slice A0_3 l0_3.length c0_3, .slice A0_4 l0_4.length c0_4, .slice A0_5 l0_5.length c0_5]) (t := 26) ?hr ?_; (case hd => rfl); (case hg => rfl); (case hr => first | (go_simp; done) | (go_simp; rfl)); intro gb463 hg w6 hbox hb; have n0_ := Aside0.mk (below_step (by repeat (first | (with_reducible first | exact HB.out | apply below_alloc | apply pw_below_drewN | apply below_drew1) | exact HB.out)) hb); have n1_ := Aside0.mk (hbox); have n2_ := Aside0.mk ((by rw [hg]; exact (below_size (by repeat (first | (with_reducible first | exact HB.out | apply below_alloc | apply pw_below_drewN | apply below_drew1) | exact HB.out))) : w.heap.size ≤ gb463)); have n3_ := Aside0.mk ((by rw [hg]; exact (below_size (by repeat (first | (with_reducible first | exact HB.out | apply below_alloc | apply pw_below_drewN | apply below_drew1) | exact HB.out))) : w.heap.size ≤ gb463)); clear HB; have HB := n0_; have BK463 := n1_; have GW463 := n2_; have GE463 := n3_; clear n0_ n1_ n2_ n3_; clear hb hbox hg) | (go_at_call 14; (with_reducible refine (truantlaw09_awake.calls k  true _ A2.out).mono ?_); rintro e w7 ⟨rfl, hb⟩; have n0_ := Aside0.mk (blk_below (g := gb463) (o := .cells #[.string a0_0, .slice A0_1 l0_1.length c0_1, .string a0_2, .slice A0_3 l0_3.length c0_3, .slice A0_4 l0_4.length c0_4, .slice A0_5 l0_5.length c0_5] 26 (0, 0)) (by (with_reducible repeat (first | refine blk_drewN ?_ _ | refine blk_drew ?_ | refine blk_alloc ?_ _)); exact BK463.out) hb); have n1_ := Aside0.mk (below_step (by repeat (first | (with_reducible first | exact HB.out | apply below_alloc | apply pw_below_drewN | apply below_drew1 | refine below_set ?_ GE463.out) | exact HB.out)) hb); clear BK463; clear HB; have BK463 := n0_; have HB := n1_; clear n0_ n1_; (try clear hb); (try clear hb2); (try clear hk); (try clear hi); have hcz8_0 : w7.cell? ⟨gb463, 0, none⟩ = some (.string a0_0) := (blk_cell BK463.out 0).trans rfl; have hcz8_1 : w7.cell? ⟨gb463, 1, none⟩ = some (.slice A0_1 l0_1.length c0_1) := (blk_cell BK463.out 1).trans rfl; have hcz8_2 : w7.cell? ⟨gb463, 2, none⟩ = some (.string a0_2) := (blk_cell BK463.out 2).trans rfl; have hcz8_3 : w7.cell? ⟨gb463, 3, none⟩ = some (.slice A0_3 l0_3.length c0_3) := (blk_cell BK463.out 3).trans rfl; have hcz8_4 : w7.cell? ⟨gb463, 4, none⟩ = some (.slice A0_4 l0_4.length c0_4) := (blk_cell BK463.out 4).trans rfl; have hcz8_5 : w7.cell? ⟨gb463, 5, none⟩ = some (.slice A0_5 l0_5.length c0_5) := (blk_cell BK463.out 5).trans rfl; have hfz8_0 := blk_frozen BK463.out 0; have hfz8_1 := blk_frozen BK463.out 1; have hfz8_2 := blk_frozen BK463.out 2; have hfz8_3 := blk_frozen BK463.out 3; have hfz8_4 := blk_frozen BK463.out 4; have hfz8_5 := blk_frozen BK463.out 5) | (go_at_call 15; (with_reducible refine (truantlaw09_wide.calls k a0_0 _ _ l0_1 a0_2 _ _ l0_3 _ _ l0_4 _ _ l0_5 true _ ?side1 ?side2 ?side3 ?side4 ?side5 ?side6 ?side7 ?side8 A4.out).mono ?_); (case side1 => repeat (first | exact (Kd.C_below HR0_1.out HB.out) | (with_reducible refine Kd.C_alloc ?_ _) | (with_reducible refine Kd.C_drewN ?_ _) | (with_reducible refine Kd.C_drew ?_))); (case side2 => exact HC0_1.out); (case side3 => repeat (first | exact (Kd.C_below HR0_3.out HB.out) | (with_reducible refine Kd.C_alloc ?_ _) | (with_reducible refine Kd.C_drewN ?_ _) | (with_reducible refine Kd.C_drew ?_))); (case side4 => exact HC0_3.out); (case side5 => repeat (first | exact (Kd.C_below HR0_4.out HB.out) | (with_reducible refine Kd.C_alloc ?_ _) | (with_reducible refine Kd.C_drewN ?_ _) | (with_reducible refine Kd.C_drew ?_))); (case side6 => exact HC0_4.out); (case side7 => repeat (first | exact (Kd.C_below HR0_5.out HB.out) | (with_reducible refine Kd.C_alloc ?_ _) | (with_reducible refine Kd.C_drewN ?_ _) | (with_reducible refine Kd.C_drew ?_))); (case side8 => exact HC0_5.out); rintro e w9 ⟨rfl, hb⟩; have n0_ := Aside0.mk (blk_below (g := gb463) (o := .cells #[.string a0_0, .slice A0_1 l0_1.length c0_1, .string a0_2, .slice A0_3 l0_3.length c0_3, .slice A0_4 l0_4.length c0_4, .slice A0_5 l0_5.length c0_5] 26 (0, 0)) (by (with_reducible repeat (first | refine blk_drewN ?_ _ | refine blk_drew ?_ | refine blk_alloc ?_ _)); exact BK463.out) hb); have n1_ := Aside0.mk (below_step (by repeat (first | (with_reducible first | exact HB.out | apply below_alloc | apply pw_below_drewN | apply below_drew1 | refine below_set ?_ GE463.out) | exact HB.out)) hb); clear BK463; clear HB; have BK463 := n0_; have HB := n1_; clear n0_ n1_; (try clear hb); (try clear hb2); (try clear hk); (try clear hi))); try go_wp2_with (first | ((with_reducible refine gate_dst (N := 1) rfl ?_); (try (refine gate_guard (by rfl) ?_; dsimp only)); refine box_event ?hg (N := 1) ?hd (cs := #[.string a0_0, .slice A0_1 l0_1.length c0_1, .string a0_2, .slice A0_3 l0_3.length c0_3, .slice A0_4 l0_4.length c0_4, .slice A0_5 l0_5.length c0_5]) (t := 26) ?hr ?_; (case hd => rfl); (case hg => rfl); (case hr => first | (go_simp; done) | (go_simp; rfl)); intro gb463 hg w6 hbox hb; have n0_ := Aside0.mk (below_step (by repeat (first | (with_reducible first | exact HB.out | apply below_alloc | apply pw_below_drewN | apply below_drew1) | exact HB.out)) hb); have n1_ := Aside0.mk (hbox); have n2_ := Aside0.mk ((by rw [hg]; exact (below_size (by repeat (first | (with_reducible first | exact HB.out | apply below_alloc | apply pw_below_drewN | apply below_drew1) | exact HB.out))) : w.heap.size ≤ gb463)); have n3_ := Aside0.mk ((by rw [hg]; exact (below_size (by repeat (first | (with_reducible first | exact HB.out | apply below_alloc | apply pw_below_drewN | apply below_drew1) | exact HB.out))) : w.heap.size ≤ gb463)); clear HB; have HB := n0_; have BK463 := n1_; have GW463 := n2_; have GE463 := n3_; clear n0_ n1_ n2_ n3_; clear hb hbox hg) | (go_at_call 14; (with_reducible refine (truantlaw09_awake.calls k  true _ A2.out).mono ?_); rintro e w7 ⟨rfl, hb⟩; have n0_ := Aside0.mk (blk_below (g := gb463) (o := .cells #[.string a0_0, .slice A0_1 l0_1.length c0_1, .string a0_2, .slice A0_3 l0_3.length c0_3, .slice A0_4 l0_4.length c0_4, .slice A0_5 l0_5.length c0_5] 26 (0, 0)) (by (with_reducible repeat (first | refine blk_drewN ?_ _ | refine blk_drew ?_ | refine blk_alloc ?_ _)); exact BK463.out) hb); have n1_ := Aside0.mk (below_step (by repeat (first | (with_reducible first | exact HB.out | apply below_alloc | apply pw_below_drewN | apply below_drew1 | refine below_set ?_ GE463.out) | exact HB.out)) hb); clear BK463; clear HB; have BK463 := n0_; have HB := n1_; clear n0_ n1_; (try clear hb); (try clear hb2); (try clear hk); (try clear hi); have hcz8_0 : w7.cell? ⟨gb463, 0, none⟩ = some (.string a0_0) := (blk_cell BK463.out 0).trans rfl; have hcz8_1 : w7.cell? ⟨gb463, 1, none⟩ = some (.slice A0_1 l0_1.length c0_1) := (blk_cell BK463.out 1).trans rfl; have hcz8_2 : w7.cell? ⟨gb463, 2, none⟩ = some (.string a0_2) := (blk_cell BK463.out 2).trans rfl; have hcz8_3 : w7.cell? ⟨gb463, 3, none⟩ = some (.slice A0_3 l0_3.length c0_3) := (blk_cell BK463.out 3).trans rfl; have hcz8_4 : w7.cell? ⟨gb463, 4, none⟩ = some (.slice A0_4 l0_4.length c0_4) := (blk_cell BK463.out 4).trans rfl; have hcz8_5 : w7.cell? ⟨gb463, 5, none⟩ = some (.slice A0_5 l0_5.length c0_5) := (blk_cell BK463.out 5).trans rfl; have hfz8_0 := blk_frozen BK463.out 0; have hfz8_1 := blk_frozen BK463.out 1; have hfz8_2 := blk_frozen BK463.out 2; have hfz8_3 := blk_frozen BK463.out 3; have hfz8_4 := blk_frozen BK463.out 4; have hfz8_5 := blk_frozen BK463.out 5) | (go_at_call 15; (with_reducible refine (truantlaw09_wide.calls k a0_0 _ _ l0_1 a0_2 _ _ l0_3 _ _ l0_4 _ _ l0_5 true _ ?side1 ?side2 ?side3 ?side4 ?side5 ?side6 ?side7 ?side8 A4.out).mono ?_); (case side1 => repeat (first | exact (Kd.C_below HR0_1.out HB.out) | (with_reducible refine Kd.C_alloc ?_ _) | (with_reducible refine Kd.C_drewN ?_ _) | (with_reducible refine Kd.C_drew ?_))); (case side2 => exact HC0_1.out); (case side3 => repeat (first | exact (Kd.C_below HR0_3.out HB.out) | (with_reducible refine Kd.C_alloc ?_ _) | (with_reducible refine Kd.C_drewN ?_ _) | (with_reducible refine Kd.C_drew ?_))); (case side4 => exact HC0_3.out); (case side5 => repeat (first | exact (Kd.C_below HR0_4.out HB.out) | (with_reducible refine Kd.C_alloc ?_ _) | (with_reducible refine Kd.C_drewN ?_ _) | (with_reducible refine Kd.C_drew ?_))); (case side6 => exact HC0_4.out); (case side7 => repeat (first | exact (Kd.C_below HR0_5.out HB.out) | (with_reducible refine Kd.C_alloc ?_ _) | (with_reducible refine Kd.C_drewN ?_ _) | (with_reducible refine Kd.C_drew ?_))); (case side8 => exact HC0_5.out); rintro e w9 ⟨rfl, hb⟩; have n0_ := Aside0.mk (blk_below (g := gb463) (o := .cells #[.string a0_0, .slice A0_1 l0_1.length c0_1, .string a0_2, .slice A0_3 l0_3.length c0_3, .slice A0_4 l0_4.length c0_4, .slice A0_5 l0_5.length c0_5] 26 (0, 0)) (by (with_reducible repeat (first | refine blk_drewN ?_ _ | refine blk_drew ?_ | refine blk_alloc ?_ _)); exact BK463.out) hb); have n1_ := Aside0.mk (below_step (by repeat (first | (with_reducible first | exact HB.out | apply below_alloc | apply pw_below_drewN | apply below_drew1 | refine below_set ?_ GE463.out) | exact HB.out)) hb); clear BK463; clear HB; have BK463 := n0_; have HB := n1_; clear n0_ n1_; (try clear hb); (try clear hb2); (try clear hk); (try clear hi))))
  go_ret
  exact ⟨by first | rfl | (simp [errW_none, errW_some] <;> rfl) | (simp [*, errW_none, errW_some] <;> rfl), by repeat (first | (with_reducible first | exact HB.out | apply below_alloc | apply pw_below_drewN | apply below_drew1 | refine below_set ?_ GE463.out) | exact HB.out)⟩
 replace c5 := Bool.eq_false_iff.mpr c5
 subst c5
 have H1 : ((flow_Order.f a0_0 l0_1 a0_2 l0_3 l0_4 l0_5).bind fun t466 => ((flow_Reached.f a0_0 l0_1 a0_2 l0_3 l0_4 l0_5).bind fun t469 => ((flow_Ahead.f k a0_0 l0_1 a0_2 l0_3 l0_4 l0_5).bind fun t472 => (if (l0_5.length : Int) = 0 then (some ((t466.length : Int) == 0)) else (if (t466.length : Int) = 0 then (truantlaw09_FlowOrder.j0 k t466 t469 t472 true a0_0 l0_1 a0_2 l0_3 l0_4 l0_5) else (if 0 < (t466.length : Int) then (truantlaw09_FlowOrder.j0 k t466 t469 t472 ((rd t466 0) != 0) a0_0 l0_1 a0_2 l0_3 l0_4 l0_5) else (none))))))) = some r := by rw [if_neg (show ¬ (false = true) by decide)] at H; exact H
 clear H
 have H := H1
 clear H1
 replace H := Option.bind_eq_some_iff.mp H
 obtain ⟨t466, A100, H⟩ := H
 replace H : ((flow_Reached.f a0_0 l0_1 a0_2 l0_3 l0_4 l0_5).bind fun t469 => ((flow_Ahead.f k a0_0 l0_1 a0_2 l0_3 l0_4 l0_5).bind fun t472 => (if (l0_5.length : Int) = 0 then (some ((t466.length : Int) == 0)) else (if (t466.length : Int) = 0 then (truantlaw09_FlowOrder.j0 k t466 t469 t472 true a0_0 l0_1 a0_2 l0_3 l0_4 l0_5) else (if 0 < (t466.length : Int) then (truantlaw09_FlowOrder.j0 k t466 t469 t472 ((rd t466 0) != 0) a0_0 l0_1 a0_2 l0_3 l0_4 l0_5) else (none)))))) = some r := H
 have A10 := Aside0.mk A100
 clear A100
 replace H := Option.bind_eq_some_iff.mp H
 obtain ⟨t469, A110, H⟩ := H
 replace H : ((flow_Ahead.f k a0_0 l0_1 a0_2 l0_3 l0_4 l0_5).bind fun t472 => (if (l0_5.length : Int) = 0 then (some ((t466.length : Int) == 0)) else (if (t466.length : Int) = 0 then (truantlaw09_FlowOrder.j0 k t466 t469 t472 true a0_0 l0_1 a0_2 l0_3 l0_4 l0_5) else (if 0 < (t466.length : Int) then (truantlaw09_FlowOrder.j0 k t466 t469 t472 ((rd t466 0) != 0) a0_0 l0_1 a0_2 l0_3 l0_4 l0_5) else (none))))) = some r := H
 have A11 := Aside0.mk A110
 clear A110
 replace H := Option.bind_eq_some_iff.mp H
 obtain ⟨t472, A120, H⟩ := H
 replace H : (if (l0_5.length : Int) = 0 then (some ((t466.length : Int) == 0)) else (if (t466.length : Int) = 0 then (truantlaw09_FlowOrder.j0 k t466 t469 t472 true a0_0 l0_1 a0_2 l0_3 l0_4 l0_5) else (if 0 < (t466.length : Int) then (truantlaw09_FlowOrder.j0 k t466 t469 t472 ((rd t466 0) != 0) a0_0 l0_1 a0_2 l0_3 l0_4 l0_5) else (none)))) = some r := H
 have A12 := Aside0.mk A120
 clear A120
 by_cases c13 : (l0_5.length : Int) = 0
 ·rw [if_pos c13] at H
  have c13b0 : ((l0_5.length : Int) == 0) = true := beq_iff_eq.mpr c13
  have c13b1 : ((l0_5.length : Int) != 0) = false := bne_eq_false_iff_eq.mpr c13
  clear c13
  obtain rfl := Option.some.inj H
  go_enter Try.func5, Try.ntmps5
  go_wp2_with (first | ((with_reducible refine gate_dst (N := 1) rfl ?_); (try (refine gate_guard (by rfl) ?_; dsimp only)); refine box_event ?hg (N := 1) ?hd (cs := #[.string a0_0, .slice A0_1 l0_1.length c0_1, .string a0_2, .slice A0_3 l0_3.length c0_3, .slice A0_4 l0_4.length c0_4, .slice A0_5 l0_5.length c0_5]) (t := 26) ?hr ?_; (case hd => rfl); (case hg => rfl); (case hr => first | (go_simp; done) | (go_simp; rfl)); intro gb463 hg w14 hbox hb; have n0_ := Aside0.mk (below_step (by repeat (first | (with_reducible first | exact HB.out | apply below_alloc | apply pw_below_drewN | apply below_drew1) | exact HB.out)) hb); have n1_ := Aside0.mk (hbox); have n2_ := Aside0.mk ((by rw [hg]; exact (below_size (by repeat (first | (with_reducible first | exact HB.out | apply below_alloc | apply pw_below_drewN | apply below_drew1) | exact HB.out))) : w.heap.size ≤ gb463)); have n3_ := Aside0.mk ((by rw [hg]; exact (below_size (by repeat (first | (with_reducible first | exact HB.out | apply below_alloc | apply pw_below_drewN | apply below_drew1) | exact HB.out))) : w.heap.size ≤ gb463)); clear HB; have HB := n0_; have BK463 := n1_; have GW463 := n2_; have GE463 := n3_; clear n0_ n1_ n2_ n3_; clear hb hbox hg) | (go_at_call 14; (with_reducible refine (truantlaw09_awake.calls k  true _ A2.out).mono ?_); rintro e w15 ⟨rfl, hb⟩; have n0_ := Aside0.mk (blk_below (g := gb463) (o := .cells #[.string a0_0, .slice A0_1 l0_1.length c0_1, .string a0_2, .slice A0_3 l0_3.length c0_3, .slice A0_4 l0_4.length c0_4, .slice A0_5 l0_5.length c0_5] 26 (0, 0)) (by (with_reducible repeat (first | refine blk_drewN ?_ _ | refine blk_drew ?_ | refine blk_alloc ?_ _)); exact BK463.out) hb); have n1_ := Aside0.mk (below_step (by repeat (first | (with_reducible first | exact HB.out | apply below_alloc | apply pw_below_drewN | apply below_drew1 | refine below_set ?_ GE463.out) | exact HB.out)) hb); clear BK463; clear HB; have BK463 := n0_; have HB := n1_; clear n0_ n1_; (try clear hb); (try clear hb2); (try clear hk); (try clear hi); have hcz16_0 : w15.cell? ⟨gb463, 0, none⟩ = some (.string a0_0) := (blk_cell BK463.out 0).trans rfl; have hcz16_1 : w15.cell? ⟨gb463, 1, none⟩ = some (.slice A0_1 l0_1.length c0_1) := (blk_cell BK463.out 1).trans rfl; have hcz16_2 : w15.cell? ⟨gb463, 2, none⟩ = some (.string a0_2) := (blk_cell BK463.out 2).trans rfl; have hcz16_3 : w15.cell? ⟨gb463, 3, none⟩ = some (.slice A0_3 l0_3.length c0_3) := (blk_cell BK463.out 3).trans rfl; have hcz16_4 : w15.cell? ⟨gb463, 4, none⟩ = some (.slice A0_4 l0_4.length c0_4) := (blk_cell BK463.out 4).trans rfl; have hcz16_5 : w15.cell? ⟨gb463, 5, none⟩ = some (.slice A0_5 l0_5.length c0_5) := (blk_cell BK463.out 5).trans rfl; have hfz16_0 := blk_frozen BK463.out 0; have hfz16_1 := blk_frozen BK463.out 1; have hfz16_2 := blk_frozen BK463.out 2; have hfz16_3 := blk_frozen BK463.out 3; have hfz16_4 := blk_frozen BK463.out 4; have hfz16_5 := blk_frozen BK463.out 5) | (go_at_call 15; (with_reducible refine (truantlaw09_wide.calls k a0_0 _ _ l0_1 a0_2 _ _ l0_3 _ _ l0_4 _ _ l0_5 false _ ?side1 ?side2 ?side3 ?side4 ?side5 ?side6 ?side7 ?side8 A4.out).mono ?_); (case side1 => repeat (first | exact (Kd.C_below HR0_1.out HB.out) | (with_reducible refine Kd.C_alloc ?_ _) | (with_reducible refine Kd.C_drewN ?_ _) | (with_reducible refine Kd.C_drew ?_))); (case side2 => exact HC0_1.out); (case side3 => repeat (first | exact (Kd.C_below HR0_3.out HB.out) | (with_reducible refine Kd.C_alloc ?_ _) | (with_reducible refine Kd.C_drewN ?_ _) | (with_reducible refine Kd.C_drew ?_))); (case side4 => exact HC0_3.out); (case side5 => repeat (first | exact (Kd.C_below HR0_4.out HB.out) | (with_reducible refine Kd.C_alloc ?_ _) | (with_reducible refine Kd.C_drewN ?_ _) | (with_reducible refine Kd.C_drew ?_))); (case side6 => exact HC0_4.out); (case side7 => repeat (first | exact (Kd.C_below HR0_5.out HB.out) | (with_reducible refine Kd.C_alloc ?_ _) | (with_reducible refine Kd.C_drewN ?_ _) | (with_reducible refine Kd.C_drew ?_))); (case side8 => exact HC0_5.out); rintro e w17 ⟨rfl, hb⟩; have n0_ := Aside0.mk (blk_below (g := gb463) (o := .cells #[.string a0_0, .slice A0_1 l0_1.length c0_1, .string a0_2, .slice A0_3 l0_3.length c0_3, .slice A0_4 l0_4.length c0_4, .slice A0_5 l0_5.length c0_5] 26 (0, 0)) (by (with_reducible repeat (first | refine blk_drewN ?_ _ | refine blk_drew ?_ | refine blk_alloc ?_ _)); exact BK463.out) hb); have n1_ := Aside0.mk (below_step (by repeat (first | (with_reducible first | exact HB.out | apply below_alloc | apply pw_below_drewN | apply below_drew1 | refine below_set ?_ GE463.out) | exact HB.out)) hb); clear BK463; clear HB; have BK463 := n0_; have HB := n1_; clear n0_ n1_; (try clear hb); (try clear hb2); (try clear hk); (try clear hi); have hcz18_0 : w17.cell? ⟨gb463, 0, none⟩ = some (.string a0_0) := (blk_cell BK463.out 0).trans rfl; have hcz18_1 : w17.cell? ⟨gb463, 1, none⟩ = some (.slice A0_1 l0_1.length c0_1) := (blk_cell BK463.out 1).trans rfl; have hcz18_2 : w17.cell? ⟨gb463, 2, none⟩ = some (.string a0_2) := (blk_cell BK463.out 2).trans rfl; have hcz18_3 : w17.cell? ⟨gb463, 3, none⟩ = some (.slice A0_3 l0_3.length c0_3) := (blk_cell BK463.out 3).trans rfl; have hcz18_4 : w17.cell? ⟨gb463, 4, none⟩ = some (.slice A0_4 l0_4.length c0_4) := (blk_cell BK463.out 4).trans rfl; have hcz18_5 : w17.cell? ⟨gb463, 5, none⟩ = some (.slice A0_5 l0_5.length c0_5) := (blk_cell BK463.out 5).trans rfl; have hfz18_0 := blk_frozen BK463.out 0; have hfz18_1 := blk_frozen BK463.out 1; have hfz18_2 := blk_frozen BK463.out 2; have hfz18_3 := blk_frozen BK463.out 3; have hfz18_4 := blk_frozen BK463.out 4; have hfz18_5 := blk_frozen BK463.out 5) | (go_at_call 22; (with_reducible refine (flow_Order.calls a0_0 _ _ l0_1 a0_2 _ _ l0_3 _ _ l0_4 _ _ l0_5 t466 _ ?side1 ?side2 ?side3 ?side4 ?side5 ?side6 ?side7 ?side8 A10.out).mono ?_); (case side1 => repeat (first | exact (Kd.C_below HR0_1.out HB.out) | (with_reducible refine Kd.C_alloc ?_ _) | (with_reducible refine Kd.C_drewN ?_ _) | (with_reducible refine Kd.C_drew ?_))); (case side2 => exact HC0_1.out); (case side3 => repeat (first | exact (Kd.C_below HR0_3.out HB.out) | (with_reducible refine Kd.C_alloc ?_ _) | (with_reducible refine Kd.C_drewN ?_ _) | (with_reducible refine Kd.C_drew ?_))); (case side4 => exact HC0_3.out); (case side5 => repeat (first | exact (Kd.C_below HR0_4.out HB.out) | (with_reducible refine Kd.C_alloc ?_ _) | (with_reducible refine Kd.C_drewN ?_ _) | (with_reducible refine Kd.C_drew ?_))); (case side6 => exact HC0_4.out); (case side7 => repeat (first | exact (Kd.C_below HR0_5.out HB.out) | (with_reducible refine Kd.C_alloc ?_ _) | (with_reducible refine Kd.C_drewN ?_ _) | (with_reducible refine Kd.C_drew ?_))); (case side8 => exact HC0_5.out); rintro e w19 ⟨v467, rfl, ho0, hb⟩; have n0_ := Aside0.mk (Kd.R_lower ho0 (below_size (by repeat (first | (with_reducible first | exact HB.out | apply below_alloc | apply pw_below_drewN | apply below_drew1 | refine below_set ?_ GE463.out) | exact HB.out)))); have n1_ := Aside0.mk (blk_below (g := gb463) (o := .cells #[.string a0_0, .slice A0_1 l0_1.length c0_1, .string a0_2, .slice A0_3 l0_3.length c0_3, .slice A0_4 l0_4.length c0_4, .slice A0_5 l0_5.length c0_5] 26 (0, 0)) (by (with_reducible repeat (first | refine blk_drewN ?_ _ | refine blk_drew ?_ | refine blk_alloc ?_ _)); exact BK463.out) hb); have n2_ := Aside0.mk (below_step (by repeat (first | (with_reducible first | exact HB.out | apply below_alloc | apply pw_below_drewN | apply below_drew1 | refine below_set ?_ GE463.out) | exact HB.out)) hb); clear BK463; clear HB; have HO468 := n0_; have BK463 := n1_; have HB := n2_; clear n0_ n1_ n2_; (try clear hb); (try clear hb2); (try clear hk); (try clear hi); (try clear ho0); have hcz20_0 : w19.cell? ⟨gb463, 0, none⟩ = some (.string a0_0) := (blk_cell BK463.out 0).trans rfl; have hcz20_1 : w19.cell? ⟨gb463, 1, none⟩ = some (.slice A0_1 l0_1.length c0_1) := (blk_cell BK463.out 1).trans rfl; have hcz20_2 : w19.cell? ⟨gb463, 2, none⟩ = some (.string a0_2) := (blk_cell BK463.out 2).trans rfl; have hcz20_3 : w19.cell? ⟨gb463, 3, none⟩ = some (.slice A0_3 l0_3.length c0_3) := (blk_cell BK463.out 3).trans rfl; have hcz20_4 : w19.cell? ⟨gb463, 4, none⟩ = some (.slice A0_4 l0_4.length c0_4) := (blk_cell BK463.out 4).trans rfl; have hcz20_5 : w19.cell? ⟨gb463, 5, none⟩ = some (.slice A0_5 l0_5.length c0_5) := (blk_cell BK463.out 5).trans rfl; have hfz20_0 := blk_frozen BK463.out 0; have hfz20_1 := blk_frozen BK463.out 1; have hfz20_2 := blk_frozen BK463.out 2; have hfz20_3 := blk_frozen BK463.out 3; have hfz20_4 := blk_frozen BK463.out 4; have hfz20_5 := blk_frozen BK463.out 5) | (go_at_call 17; (with_reducible refine (flow_Reached.calls a0_0 _ _ l0_1 a0_2 _ _ l0_3 _ _ l0_4 _ _ l0_5 t469 _ ?side1 ?side2 ?side3 ?side4 ?side5 ?side6 ?side7 ?side8 A11.out).mono ?_); (case side1 => repeat (first | exact (Kd.C_below HR0_1.out HB.out) | (with_reducible refine Kd.C_alloc ?_ _) | (with_reducible refine Kd.C_drewN ?_ _) | (with_reducible refine Kd.C_drew ?_))); (case side2 => exact HC0_1.out); (case side3 => repeat (first | exact (Kd.C_below HR0_3.out HB.out) | (with_reducible refine Kd.C_alloc ?_ _) | (with_reducible refine Kd.C_drewN ?_ _) | (with_reducible refine Kd.C_drew ?_))); (case side4 => exact HC0_3.out); (case side5 => repeat (first | exact (Kd.C_below HR0_4.out HB.out) | (with_reducible refine Kd.C_alloc ?_ _) | (with_reducible refine Kd.C_drewN ?_ _) | (with_reducible refine Kd.C_drew ?_))); (case side6 => exact HC0_4.out); (case side7 => repeat (first | exact (Kd.C_below HR0_5.out HB.out) | (with_reducible refine Kd.C_alloc ?_ _) | (with_reducible refine Kd.C_drewN ?_ _) | (with_reducible refine Kd.C_drew ?_))); (case side8 => exact HC0_5.out); rintro e w21 ⟨v470, rfl, ho0, hb⟩; have n0_ := Aside0.mk (Kd.R_below (by (with_reducible repeat (first | apply Kd.R_alloc | apply Kd.R_drewN | apply Kd.R_drew)); exact HO468.out) hb); have n1_ := Aside0.mk (Kd.R_lower ho0 (below_size (by repeat (first | (with_reducible first | exact HB.out | apply below_alloc | apply pw_below_drewN | apply below_drew1 | refine below_set ?_ GE463.out) | exact HB.out)))); have n2_ := Aside0.mk (blk_below (g := gb463) (o := .cells #[.string a0_0, .slice A0_1 l0_1.length c0_1, .string a0_2, .slice A0_3 l0_3.length c0_3, .slice A0_4 l0_4.length c0_4, .slice A0_5 l0_5.length c0_5] 26 (0, 0)) (by (with_reducible repeat (first | refine blk_drewN ?_ _ | refine blk_drew ?_ | refine blk_alloc ?_ _)); exact BK463.out) hb); have n3_ := Aside0.mk (below_step (by repeat (first | (with_reducible first | exact HB.out | apply below_alloc | apply pw_below_drewN | apply below_drew1 | refine below_set ?_ GE463.out) | exact HB.out)) hb); clear HO468; clear BK463; clear HB; have HO468 := n0_; have HO471 := n1_; have BK463 := n2_; have HB := n3_; clear n0_ n1_ n2_ n3_; (try clear hb); (try clear hb2); (try clear hk); (try clear hi); (try clear ho0); have hcz22_0 : w21.cell? ⟨gb463, 0, none⟩ = some (.string a0_0) := (blk_cell BK463.out 0).trans rfl; have hcz22_1 : w21.cell? ⟨gb463, 1, none⟩ = some (.slice A0_1 l0_1.length c0_1) := (blk_cell BK463.out 1).trans rfl; have hcz22_2 : w21.cell? ⟨gb463, 2, none⟩ = some (.string a0_2) := (blk_cell BK463.out 2).trans rfl; have hcz22_3 : w21.cell? ⟨gb463, 3, none⟩ = some (.slice A0_3 l0_3.length c0_3) := (blk_cell BK463.out 3).trans rfl; have hcz22_4 : w21.cell? ⟨gb463, 4, none⟩ = some (.slice A0_4 l0_4.length c0_4) := (blk_cell BK463.out 4).trans rfl; have hcz22_5 : w21.cell? ⟨gb463, 5, none⟩ = some (.slice A0_5 l0_5.length c0_5) := (blk_cell BK463.out 5).trans rfl; have hfz22_0 := blk_frozen BK463.out 0; have hfz22_1 := blk_frozen BK463.out 1; have hfz22_2 := blk_frozen BK463.out 2; have hfz22_3 := blk_frozen BK463.out 3; have hfz22_4 := blk_frozen BK463.out 4; have hfz22_5 := blk_frozen BK463.out 5) | (go_at_call 16; (with_reducible refine (flow_Ahead.calls k a0_0 _ _ l0_1 a0_2 _ _ l0_3 _ _ l0_4 _ _ l0_5 t472 _ ?side1 ?side2 ?side3 ?side4 ?side5 ?side6 ?side7 ?side8 A12.out).mono ?_); (case side1 => repeat (first | exact (Kd.C_below HR0_1.out HB.out) | (with_reducible refine Kd.C_alloc ?_ _) | (with_reducible refine Kd.C_drewN ?_ _) | (with_reducible refine Kd.C_drew ?_))); (case side2 => exact HC0_1.out); (case side3 => repeat (first | exact (Kd.C_below HR0_3.out HB.out) | (with_reducible refine Kd.C_alloc ?_ _) | (with_reducible refine Kd.C_drewN ?_ _) | (with_reducible refine Kd.C_drew ?_))); (case side4 => exact HC0_3.out); (case side5 => repeat (first | exact (Kd.C_below HR0_4.out HB.out) | (with_reducible refine Kd.C_alloc ?_ _) | (with_reducible refine Kd.C_drewN ?_ _) | (with_reducible refine Kd.C_drew ?_))); (case side6 => exact HC0_4.out); (case side7 => repeat (first | exact (Kd.C_below HR0_5.out HB.out) | (with_reducible refine Kd.C_alloc ?_ _) | (with_reducible refine Kd.C_drewN ?_ _) | (with_reducible refine Kd.C_drew ?_))); (case side8 => exact HC0_5.out); rintro e w23 ⟨v473, rfl, ho0, hb⟩; have n0_ := Aside0.mk (Kd.R_below (by (with_reducible repeat (first | apply Kd.R_alloc | apply Kd.R_drewN | apply Kd.R_drew)); exact HO468.out) hb); have n1_ := Aside0.mk (Kd.R_below (by (with_reducible repeat (first | apply Kd.R_alloc | apply Kd.R_drewN | apply Kd.R_drew)); exact HO471.out) hb); have n2_ := Aside0.mk (Kd.S_lower (Kd.S_new' ho0 (Kd.R_lt (by (with_reducible repeat (first | apply Kd.R_alloc | apply Kd.R_drewN | apply Kd.R_drew)); exact HO468.out))) (below_size (by repeat (first | (with_reducible first | exact HB.out | apply below_alloc | apply pw_below_drewN | apply below_drew1 | refine below_set ?_ GE463.out) | exact HB.out)))); have n3_ := Aside0.mk (blk_below (g := gb463) (o := .cells #[.string a0_0, .slice A0_1 l0_1.length c0_1, .string a0_2, .slice A0_3 l0_3.length c0_3, .slice A0_4 l0_4.length c0_4, .slice A0_5 l0_5.length c0_5] 26 (0, 0)) (by (with_reducible repeat (first | refine blk_drewN ?_ _ | refine blk_drew ?_ | refine blk_alloc ?_ _)); exact BK463.out) hb); have n4_ := Aside0.mk (below_step (by repeat (first | (with_reducible first | exact HB.out | apply below_alloc | apply pw_below_drewN | apply below_drew1 | refine below_set ?_ GE463.out) | exact HB.out)) hb); clear HO468; clear HO471; clear BK463; clear HB; have HO468 := n0_; have HO471 := n1_; have HO474 := n2_; have BK463 := n3_; have HB := n4_; clear n0_ n1_ n2_ n3_ n4_; (try clear hb); (try clear hb2); (try clear hk); (try clear hi); (try clear ho0); have hcz24_0 : w23.cell? ⟨gb463, 0, none⟩ = some (.string a0_0) := (blk_cell BK463.out 0).trans rfl; have hcz24_1 : w23.cell? ⟨gb463, 1, none⟩ = some (.slice A0_1 l0_1.length c0_1) := (blk_cell BK463.out 1).trans rfl; have hcz24_2 : w23.cell? ⟨gb463, 2, none⟩ = some (.string a0_2) := (blk_cell BK463.out 2).trans rfl; have hcz24_3 : w23.cell? ⟨gb463, 3, none⟩ = some (.slice A0_3 l0_3.length c0_3) := (blk_cell BK463.out 3).trans rfl; have hcz24_4 : w23.cell? ⟨gb463, 4, none⟩ = some (.slice A0_4 l0_4.length c0_4) := (blk_cell BK463.out 4).trans rfl; have hcz24_5 : w23.cell? ⟨gb463, 5, none⟩ = some (.slice A0_5 l0_5.length c0_5) := (blk_cell BK463.out 5).trans rfl; have hfz24_0 := blk_frozen BK463.out 0; have hfz24_1 := blk_frozen BK463.out 1; have hfz24_2 := blk_frozen BK463.out 2; have hfz24_3 := blk_frozen BK463.out 3; have hfz24_4 := blk_frozen BK463.out 4; have hfz24_5 := blk_frozen BK463.out 5; obtain ⟨Ao25, co25, eo25⟩ := Kd.R_slice HO468.out; subst eo25))
  repeat (go_quiet (first | ((with_reducible refine gate_dst (N := 1) rfl ?_); (try (refine gate_guard (by rfl) ?_; dsimp only)); refine box_event ?hg (N := 1) ?hd (cs := #[.string a0_0, .slice A0_1 l0_1.length c0_1, .string a0_2, .slice A0_3 l0_3.length c0_3, .slice A0_4 l0_4.length c0_4, .slice A0_5 l0_5.length c0_5]) (t := 26) ?hr ?_; (case hd => rfl); (case hg => rfl); (case hr => first | (go_simp; done) | (go_simp; rfl)); intro gb463 hg w14 hbox hb; have n0_ := Aside0.mk (below_step (by repeat (first | (with_reducible first | exact HB.out | apply below_alloc | apply pw_below_drewN | apply below_drew1) | exact HB.out)) hb); have n1_ := Aside0.mk (hbox); have n2_ := Aside0.mk ((by rw [hg]; exact (below_size (by repeat (first | (with_reducible first | exact HB.out | apply below_alloc | apply pw_below_drewN | apply below_drew1) | exact HB.out))) : w.heap.size ≤ gb463)); have n3_ := Aside0.mk ((by rw [hg]; exact (below_size (by repeat (first | (with_reducible first | exact HB.out | apply below_alloc | apply pw_below_drewN | apply below_drew1) | exact HB.out))) : w.heap.size ≤ gb463)); clear HB; have HB := n0_; have BK463 := n1_; have GW463 := n2_; have GE463 := n3_; clear n0_ n1_ n2_ n3_; clear hb hbox hg) | (go_at_call 14; (with_reducible refine (truantlaw09_awake.calls k  true _ A2.out).mono ?_); rintro e w15 ⟨rfl, hb⟩; have n0_ := Aside0.mk (blk_below (g := gb463) (o := .cells #[.string a0_0, .slice A0_1 l0_1.length c0_1, .string a0_2, .slice A0_3 l0_3.length c0_3, .slice A0_4 l0_4.length c0_4, .slice A0_5 l0_5.length c0_5] 26 (0, 0)) (by (with_reducible repeat (first | refine blk_drewN ?_ _ | refine blk_drew ?_ | refine blk_alloc ?_ _)); exact BK463.out) hb); have n1_ := Aside0.mk (below_step (by repeat (first | (with_reducible first | exact HB.out | apply below_alloc | apply pw_below_drewN | apply below_drew1 | refine below_set ?_ GE463.out) | exact HB.out)) hb); clear BK463; clear HB; have BK463 := n0_; have HB := n1_; clear n0_ n1_; (try clear hb); (try clear hb2); (try clear hk); (try clear hi); have hcz16_0 : w15.cell? ⟨gb463, 0, none⟩ = some (.string a0_0) := (blk_cell BK463.out 0).trans rfl; have hcz16_1 : w15.cell? ⟨gb463, 1, none⟩ = some (.slice A0_1 l0_1.length c0_1) := (blk_cell BK463.out 1).trans rfl; have hcz16_2 : w15.cell? ⟨gb463, 2, none⟩ = some (.string a0_2) := (blk_cell BK463.out 2).trans rfl; have hcz16_3 : w15.cell? ⟨gb463, 3, none⟩ = some (.slice A0_3 l0_3.length c0_3) := (blk_cell BK463.out 3).trans rfl; have hcz16_4 : w15.cell? ⟨gb463, 4, none⟩ = some (.slice A0_4 l0_4.length c0_4) := (blk_cell BK463.out 4).trans rfl; have hcz16_5 : w15.cell? ⟨gb463, 5, none⟩ = some (.slice A0_5 l0_5.length c0_5) := (blk_cell BK463.out 5).trans rfl; have hfz16_0 := blk_frozen BK463.out 0; have hfz16_1 := blk_frozen BK463.out 1; have hfz16_2 := blk_frozen BK463.out 2; have hfz16_3 := blk_frozen BK463.out 3; have hfz16_4 := blk_frozen BK463.out 4; have hfz16_5 := blk_frozen BK463.out 5) | (go_at_call 15; (with_reducible refine (truantlaw09_wide.calls k a0_0 _ _ l0_1 a0_2 _ _ l0_3 _ _ l0_4 _ _ l0_5 false _ ?side1 ?side2 ?side3 ?side4 ?side5 ?side6 ?side7 ?side8 A4.out).mono ?_); (case side1 => repeat (first | exact (Kd.C_below HR0_1.out HB.out) | (with_reducible refine Kd.C_alloc ?_ _) | (with_reducible refine Kd.C_drewN ?_ _) | (with_reducible refine Kd.C_drew ?_))); (case side2 => exact HC0_1.out); (case side3 => repeat (first | exact (Kd.C_below HR0_3.out HB.out) | (with_reducible refine Kd.C_alloc ?_ _) | (with_reducible refine Kd.C_drewN ?_ _) | (with_reducible refine Kd.C_drew ?_))); (case side4 => exact HC0_3.out); (case side5 => repeat (first | exact (Kd.C_below HR0_4.out HB.out) | (with_reducible refine Kd.C_alloc ?_ _) | (with_reducible refine Kd.C_drewN ?_ _) | (with_reducible refine Kd.C_drew ?_))); (case side6 => exact HC0_4.out); (case side7 => repeat (first | exact (Kd.C_below HR0_5.out HB.out) | (with_reducible refine Kd.C_alloc ?_ _) | (with_reducible refine Kd.C_drewN ?_ _) | (with_reducible refine Kd.C_drew ?_))); (case side8 => exact HC0_5.out); rintro e w17 ⟨rfl, hb⟩; have n0_ := Aside0.mk (blk_below (g := gb463) (o := .cells #[.string a0_0, .slice A0_1 l0_1.length c0_1, .string a0_2, .slice A0_3 l0_3.length c0_3, .slice A0_4 l0_4.length c0_4, .slice A0_5 l0_5.length c0_5] 26 (0, 0)) (by (with_reducible repeat (first | refine blk_drewN ?_ _ | refine blk_drew ?_ | refine blk_alloc ?_ _)); exact BK463.out) hb); have n1_ := Aside0.mk (below_step (by repeat (first | (with_reducible first | exact HB.out | apply below_alloc | apply pw_below_drewN | apply below_drew1 | refine below_set ?_ GE463.out) | exact HB.out)) hb); clear BK463; clear HB; have BK463 := n0_; have HB := n1_; clear n0_ n1_; (try clear hb); (try clear hb2); (try clear hk); (try clear hi); have hcz18_0 : w17.cell? ⟨gb463, 0, none⟩ = some (.string a0_0) := (blk_cell BK463.out 0).trans rfl; have hcz18_1 : w17.cell? ⟨gb463, 1, none⟩ = some (.slice A0_1 l0_1.length c0_1) := (blk_cell BK463.out 1).trans rfl; have hcz18_2 : w17.cell? ⟨gb463, 2, none⟩ = some (.string a0_2) := (blk_cell BK463.out 2).trans rfl; have hcz18_3 : w17.cell? ⟨gb463, 3, none⟩ = some (.slice A0_3 l0_3.length c0_3) := (blk_cell BK463.out 3).trans rfl; have hcz18_4 : w17.cell? ⟨gb463, 4, none⟩ = some (.slice A0_4 l0_4.length c0_4) := (blk_cell BK463.out 4).trans rfl; have hcz18_5 : w17.cell? ⟨gb463, 5, none⟩ = some (.slice A0_5 l0_5.length c0_5) := (blk_cell BK463.out 5).trans rfl; have hfz18_0 := blk_frozen BK463.out 0; have hfz18_1 := blk_frozen BK463.out 1; have hfz18_2 := blk_frozen BK463.out 2; have hfz18_3 := blk_frozen BK463.out 3; have hfz18_4 := blk_frozen BK463.out 4; have hfz18_5 := blk_frozen BK463.out 5) | (go_at_call 22; (with_reducible refine (flow_Order.calls a0_0 _ _ l0_1 a0_2 _ _ l0_3 _ _ l0_4 _ _ l0_5 t466 _ ?side1 ?side2 ?side3 ?side4 ?side5 ?side6 ?side7 ?side8 A10.out).mono ?_); (case side1 => repeat (first | exact (Kd.C_below HR0_1.out HB.out) | (with_reducible refine Kd.C_alloc ?_ _) | (with_reducible refine Kd.C_drewN ?_ _) | (with_reducible refine Kd.C_drew ?_))); (case side2 => exact HC0_1.out); (case side3 => repeat (first | exact (Kd.C_below HR0_3.out HB.out) | (with_reducible refine Kd.C_alloc ?_ _) | (with_reducible refine Kd.C_drewN ?_ _) | (with_reducible refine Kd.C_drew ?_))); (case side4 => exact HC0_3.out); (case side5 => repeat (first | exact (Kd.C_below HR0_4.out HB.out) | (with_reducible refine Kd.C_alloc ?_ _) | (with_reducible refine Kd.C_drewN ?_ _) | (with_reducible refine Kd.C_drew ?_))); (case side6 => exact HC0_4.out); (case side7 => repeat (first | exact (Kd.C_below HR0_5.out HB.out) | (with_reducible refine Kd.C_alloc ?_ _) | (with_reducible refine Kd.C_drewN ?_ _) | (with_reducible refine Kd.C_drew ?_))); (case side8 => exact HC0_5.out); rintro e w19 ⟨v467, rfl, ho0, hb⟩; have n0_ := Aside0.mk (Kd.R_lower ho0 (below_size (by repeat (first | (with_reducible first | exact HB.out | apply below_alloc | apply pw_below_drewN | apply below_drew1 | refine below_set ?_ GE463.out) | exact HB.out)))); have n1_ := Aside0.mk (blk_below (g := gb463) (o := .cells #[.string a0_0, .slice A0_1 l0_1.length c0_1, .string a0_2, .slice A0_3 l0_3.length c0_3, .slice A0_4 l0_4.length c0_4, .slice A0_5 l0_5.length c0_5] 26 (0, 0)) (by (with_reducible repeat (first | refine blk_drewN ?_ _ | refine blk_drew ?_ | refine blk_alloc ?_ _)); exact BK463.out) hb); have n2_ := Aside0.mk (below_step (by repeat (first | (with_reducible first | exact HB.out | apply below_alloc | apply pw_below_drewN | apply below_drew1 | refine below_set ?_ GE463.out) | exact HB.out)) hb); clear BK463; clear HB; have HO468 := n0_; have BK463 := n1_; have HB := n2_; clear n0_ n1_ n2_; (try clear hb); (try clear hb2); (try clear hk); (try clear hi); (try clear ho0); have hcz20_0 : w19.cell? ⟨gb463, 0, none⟩ = some (.string a0_0) := (blk_cell BK463.out 0).trans rfl; have hcz20_1 : w19.cell? ⟨gb463, 1, none⟩ = some (.slice A0_1 l0_1.length c0_1) := (blk_cell BK463.out 1).trans rfl; have hcz20_2 : w19.cell? ⟨gb463, 2, none⟩ = some (.string a0_2) := (blk_cell BK463.out 2).trans rfl; have hcz20_3 : w19.cell? ⟨gb463, 3, none⟩ = some (.slice A0_3 l0_3.length c0_3) := (blk_cell BK463.out 3).trans rfl; have hcz20_4 : w19.cell? ⟨gb463, 4, none⟩ = some (.slice A0_4 l0_4.length c0_4) := (blk_cell BK463.out 4).trans rfl; have hcz20_5 : w19.cell? ⟨gb463, 5, none⟩ = some (.slice A0_5 l0_5.length c0_5) := (blk_cell BK463.out 5).trans rfl; have hfz20_0 := blk_frozen BK463.out 0; have hfz20_1 := blk_frozen BK463.out 1; have hfz20_2 := blk_frozen BK463.out 2; have hfz20_3 := blk_frozen BK463.out 3; have hfz20_4 := blk_frozen BK463.out 4; have hfz20_5 := blk_frozen BK463.out 5) | (go_at_call 17; (with_reducible refine (flow_Reached.calls a0_0 _ _ l0_1 a0_2 _ _ l0_3 _ _ l0_4 _ _ l0_5 t469 _ ?side1 ?side2 ?side3 ?side4 ?side5 ?side6 ?side7 ?side8 A11.out).mono ?_); (case side1 => repeat (first | exact (Kd.C_below HR0_1.out HB.out) | (with_reducible refine Kd.C_alloc ?_ _) | (with_reducible refine Kd.C_drewN ?_ _) | (with_reducible refine Kd.C_drew ?_))); (case side2 => exact HC0_1.out); (case side3 => repeat (first | exact (Kd.C_below HR0_3.out HB.out) | (with_reducible refine Kd.C_alloc ?_ _) | (with_reducible refine Kd.C_drewN ?_ _) | (with_reducible refine Kd.C_drew ?_))); (case side4 => exact HC0_3.out); (case side5 => repeat (first | exact (Kd.C_below HR0_4.out HB.out) | (with_reducible refine Kd.C_alloc ?_ _) | (with_reducible refine Kd.C_drewN ?_ _) | (with_reducible refine Kd.C_drew ?_))); (case side6 => exact HC0_4.out); (case side7 => repeat (first | exact (Kd.C_below HR0_5.out HB.out) | (with_reducible refine Kd.C_alloc ?_ _) | (with_reducible refine Kd.C_drewN ?_ _) | (with_reducible refine Kd.C_drew ?_))); (case side8 => exact HC0_5.out); rintro e w21 ⟨v470, rfl, ho0, hb⟩; have n0_ := Aside0.mk (Kd.R_below (by (with_reducible repeat (first | apply Kd.R_alloc | apply Kd.R_drewN | apply Kd.R_drew)); exact HO468.out) hb); have n1_ := Aside0.mk (Kd.R_lower ho0 (below_size (by repeat (first | (with_reducible first | exact HB.out | apply below_alloc | apply pw_below_drewN | apply below_drew1 | refine below_set ?_ GE463.out) | exact HB.out)))); have n2_ := Aside0.mk (blk_below (g := gb463) (o := .cells #[.string a0_0, .slice A0_1 l0_1.length c0_1, .string a0_2, .slice A0_3 l0_3.length c0_3, .slice A0_4 l0_4.length c0_4, .slice A0_5 l0_5.length c0_5] 26 (0, 0)) (by (with_reducible repeat (first | refine blk_drewN ?_ _ | refine blk_drew ?_ | refine blk_alloc ?_ _)); exact BK463.out) hb); have n3_ := Aside0.mk (below_step (by repeat (first | (with_reducible first | exact HB.out | apply below_alloc | apply pw_below_drewN | apply below_drew1 | refine below_set ?_ GE463.out) | exact HB.out)) hb); clear HO468; clear BK463; clear HB; have HO468 := n0_; have HO471 := n1_; have BK463 := n2_; have HB := n3_; clear n0_ n1_ n2_ n3_; (try clear hb); (try clear hb2); (try clear hk); (try clear hi); (try clear ho0); have hcz22_0 : w21.cell? ⟨gb463, 0, none⟩ = some (.string a0_0) := (blk_cell BK463.out 0).trans rfl; have hcz22_1 : w21.cell? ⟨gb463, 1, none⟩ = some (.slice A0_1 l0_1.length c0_1) := (blk_cell BK463.out 1).trans rfl; have hcz22_2 : w21.cell? ⟨gb463, 2, none⟩ = some (.string a0_2) := (blk_cell BK463.out 2).trans rfl; have hcz22_3 : w21.cell? ⟨gb463, 3, none⟩ = some (.slice A0_3 l0_3.length c0_3) := (blk_cell BK463.out 3).trans rfl; have hcz22_4 : w21.cell? ⟨gb463, 4, none⟩ = some (.slice A0_4 l0_4.length c0_4) := (blk_cell BK463.out 4).trans rfl; have hcz22_5 : w21.cell? ⟨gb463, 5, none⟩ = some (.slice A0_5 l0_5.length c0_5) := (blk_cell BK463.out 5).trans rfl; have hfz22_0 := blk_frozen BK463.out 0; have hfz22_1 := blk_frozen BK463.out 1; have hfz22_2 := blk_frozen BK463.out 2; have hfz22_3 := blk_frozen BK463.out 3; have hfz22_4 := blk_frozen BK463.out 4; have hfz22_5 := blk_frozen BK463.out 5) | (go_at_call 16; (with_reducible refine (flow_Ahead.calls k a0_0 _ _ l0_1 a0_2 _ _ l0_3 _ _ l0_4 _ _ l0_5 t472 _ ?side1 ?side2 ?side3 ?side4 ?side5 ?side6 ?side7 ?side8 A12.out).mono ?_); (case side1 => repeat (first | exact (Kd.C_below HR0_1.out HB.out) | (with_reducible refine Kd.C_alloc ?_ _) | (with_reducible refine Kd.C_drewN ?_ _) | (with_reducible refine Kd.C_drew ?_))); (case side2 => exact HC0_1.out); (case side3 => repeat (first | exact (Kd.C_below HR0_3.out HB.out) | (with_reducible refine Kd.C_alloc ?_ _) | (with_reducible refine Kd.C_drewN ?_ _) | (with_reducible refine Kd.C_drew ?_))); (case side4 => exact HC0_3.out); (case side5 => repeat (first | exact (Kd.C_below HR0_4.out HB.out) | (with_reducible refine Kd.C_alloc ?_ _) | (with_reducible refine Kd.C_drewN ?_ _) | (with_reducible refine Kd.C_drew ?_))); (case side6 => exact HC0_4.out); (case side7 => repeat (first | exact (Kd.C_below HR0_5.out HB.out) | (with_reducible refine Kd.C_alloc ?_ _) | (with_reducible refine Kd.C_drewN ?_ _) | (with_reducible refine Kd.C_drew ?_))); (case side8 => exact HC0_5.out); rintro e w23 ⟨v473, rfl, ho0, hb⟩; have n0_ := Aside0.mk (Kd.R_below (by (with_reducible repeat (first | apply Kd.R_alloc | apply Kd.R_drewN | apply Kd.R_drew)); exact HO468.out) hb); have n1_ := Aside0.mk (Kd.R_below (by (with_reducible repeat (first | apply Kd.R_alloc | apply Kd.R_drewN | apply Kd.R_drew)); exact HO471.out) hb); have n2_ := Aside0.mk (Kd.S_lower (Kd.S_new' ho0 (Kd.R_lt (by (with_reducible repeat (first | apply Kd.R_alloc | apply Kd.R_drewN | apply Kd.R_drew)); exact HO468.out))) (below_size (by repeat (first | (with_reducible first | exact HB.out | apply below_alloc | apply pw_below_drewN | apply below_drew1 | refine below_set ?_ GE463.out) | exact HB.out)))); have n3_ := Aside0.mk (blk_below (g := gb463) (o := .cells #[.string a0_0, .slice A0_1 l0_1.length c0_1, .string a0_2, .slice A0_3 l0_3.length c0_3, .slice A0_4 l0_4.length c0_4, .slice A0_5 l0_5.length c0_5] 26 (0, 0)) (by (with_reducible repeat (first | refine blk_drewN ?_ _ | refine blk_drew ?_ | refine blk_alloc ?_ _)); exact BK463.out) hb); have n4_ := Aside0.mk (below_step (by repeat (first | (with_reducible first | exact HB.out | apply below_alloc | apply pw_below_drewN | apply below_drew1 | refine below_set ?_ GE463.out) | exact HB.out)) hb); clear HO468; clear HO471; clear BK463; clear HB; have HO468 := n0_; have HO471 := n1_; have HO474 := n2_; have BK463 := n3_; have HB := n4_; clear n0_ n1_ n2_ n3_ n4_; (try clear hb); (try clear hb2); (try clear hk); (try clear hi); (try clear ho0); have hcz24_0 : w23.cell? ⟨gb463, 0, none⟩ = some (.string a0_0) := (blk_cell BK463.out 0).trans rfl; have hcz24_1 : w23.cell? ⟨gb463, 1, none⟩ = some (.slice A0_1 l0_1.length c0_1) := (blk_cell BK463.out 1).trans rfl; have hcz24_2 : w23.cell? ⟨gb463, 2, none⟩ = some (.string a0_2) := (blk_cell BK463.out 2).trans rfl; have hcz24_3 : w23.cell? ⟨gb463, 3, none⟩ = some (.slice A0_3 l0_3.length c0_3) := (blk_cell BK463.out 3).trans rfl; have hcz24_4 : w23.cell? ⟨gb463, 4, none⟩ = some (.slice A0_4 l0_4.length c0_4) := (blk_cell BK463.out 4).trans rfl; have hcz24_5 : w23.cell? ⟨gb463, 5, none⟩ = some (.slice A0_5 l0_5.length c0_5) := (blk_cell BK463.out 5).trans rfl; have hfz24_0 := blk_frozen BK463.out 0; have hfz24_1 := blk_frozen BK463.out 1; have hfz24_2 := blk_frozen BK463.out 2; have hfz24_3 := blk_frozen BK463.out 3; have hfz24_4 := blk_frozen BK463.out 4; have hfz24_5 := blk_frozen BK463.out 5; obtain ⟨Ao25, co25, eo25⟩ := Kd.R_slice HO468.out; subst eo25)); try go_wp2_with (first | ((with_reducible refine gate_dst (N := 1) rfl ?_); (try (refine gate_guard (by rfl) ?_; dsimp only)); refine box_event ?hg (N := 1) ?hd (cs := #[.string a0_0, .slice A0_1 l0_1.length c0_1, .string a0_2, .slice A0_3 l0_3.length c0_3, .slice A0_4 l0_4.length c0_4, .slice A0_5 l0_5.length c0_5]) (t := 26) ?hr ?_; (case hd => rfl); (case hg => rfl); (case hr => first | (go_simp; done) | (go_simp; rfl)); intro gb463 hg w14 hbox hb; have n0_ := Aside0.mk (below_step (by repeat (first | (with_reducible first | exact HB.out | apply below_alloc | apply pw_below_drewN | apply below_drew1) | exact HB.out)) hb); have n1_ := Aside0.mk (hbox); have n2_ := Aside0.mk ((by rw [hg]; exact (below_size (by repeat (first | (with_reducible first | exact HB.out | apply below_alloc | apply pw_below_drewN | apply below_drew1) | exact HB.out))) : w.heap.size ≤ gb463)); have n3_ := Aside0.mk ((by rw [hg]; exact (below_size (by repeat (first | (with_reducible first | exact HB.out | apply below_alloc | apply pw_below_drewN | apply below_drew1) | exact HB.out))) : w.heap.size ≤ gb463)); clear HB; have HB := n0_; have BK463 := n1_; have GW463 := n2_; have GE463 := n3_; clear n0_ n1_ n2_ n3_; clear hb hbox hg) | (go_at_call 14; (with_reducible refine (truantlaw09_awake.calls k  true _ A2.out).mono ?_); rintro e w15 ⟨rfl, hb⟩; have n0_ := Aside0.mk (blk_below (g := gb463) (o := .cells #[.string a0_0, .slice A0_1 l0_1.length c0_1, .string a0_2, .slice A0_3 l0_3.length c0_3, .slice A0_4 l0_4.length c0_4, .slice A0_5 l0_5.length c0_5] 26 (0, 0)) (by (with_reducible repeat (first | refine blk_drewN ?_ _ | refine blk_drew ?_ | refine blk_alloc ?_ _)); exact BK463.out) hb); have n1_ := Aside0.mk (below_step (by repeat (first | (with_reducible first | exact HB.out | apply below_alloc | apply pw_below_drewN | apply below_drew1 | refine below_set ?_ GE463.out) | exact HB.out)) hb); clear BK463; clear HB; have BK463 := n0_; have HB := n1_; clear n0_ n1_; (try clear hb); (try clear hb2); (try clear hk); (try clear hi); have hcz16_0 : w15.cell? ⟨gb463, 0, none⟩ = some (.string a0_0) := (blk_cell BK463.out 0).trans rfl; have hcz16_1 : w15.cell? ⟨gb463, 1, none⟩ = some (.slice A0_1 l0_1.length c0_1) := (blk_cell BK463.out 1).trans rfl; have hcz16_2 : w15.cell? ⟨gb463, 2, none⟩ = some (.string a0_2) := (blk_cell BK463.out 2).trans rfl; have hcz16_3 : w15.cell? ⟨gb463, 3, none⟩ = some (.slice A0_3 l0_3.length c0_3) := (blk_cell BK463.out 3).trans rfl; have hcz16_4 : w15.cell? ⟨gb463, 4, none⟩ = some (.slice A0_4 l0_4.length c0_4) := (blk_cell BK463.out 4).trans rfl; have hcz16_5 : w15.cell? ⟨gb463, 5, none⟩ = some (.slice A0_5 l0_5.length c0_5) := (blk_cell BK463.out 5).trans rfl; have hfz16_0 := blk_frozen BK463.out 0; have hfz16_1 := blk_frozen BK463.out 1; have hfz16_2 := blk_frozen BK463.out 2; have hfz16_3 := blk_frozen BK463.out 3; have hfz16_4 := blk_frozen BK463.out 4; have hfz16_5 := blk_frozen BK463.out 5) | (go_at_call 15; (with_reducible refine (truantlaw09_wide.calls k a0_0 _ _ l0_1 a0_2 _ _ l0_3 _ _ l0_4 _ _ l0_5 false _ ?side1 ?side2 ?side3 ?side4 ?side5 ?side6 ?side7 ?side8 A4.out).mono ?_); (case side1 => repeat (first | exact (Kd.C_below HR0_1.out HB.out) | (with_reducible refine Kd.C_alloc ?_ _) | (with_reducible refine Kd.C_drewN ?_ _) | (with_reducible refine Kd.C_drew ?_))); (case side2 => exact HC0_1.out); (case side3 => repeat (first | exact (Kd.C_below HR0_3.out HB.out) | (with_reducible refine Kd.C_alloc ?_ _) | (with_reducible refine Kd.C_drewN ?_ _) | (with_reducible refine Kd.C_drew ?_))); (case side4 => exact HC0_3.out); (case side5 => repeat (first | exact (Kd.C_below HR0_4.out HB.out) | (with_reducible refine Kd.C_alloc ?_ _) | (with_reducible refine Kd.C_drewN ?_ _) | (with_reducible refine Kd.C_drew ?_))); (case side6 => exact HC0_4.out); (case side7 => repeat (first | exact (Kd.C_below HR0_5.out HB.out) | (with_reducible refine Kd.C_alloc ?_ _) | (with_reducible refine Kd.C_drewN ?_ _) | (with_reducible refine Kd.C_drew ?_))); (case side8 => exact HC0_5.out); rintro e w17 ⟨rfl, hb⟩; have n0_ := Aside0.mk (blk_below (g := gb463) (o := .cells #[.string a0_0, .slice A0_1 l0_1.length c0_1, .string a0_2, .slice A0_3 l0_3.length c0_3, .slice A0_4 l0_4.length c0_4, .slice A0_5 l0_5.length c0_5] 26 (0, 0)) (by (with_reducible repeat (first | refine blk_drewN ?_ _ | refine blk_drew ?_ | refine blk_alloc ?_ _)); exact BK463.out) hb); have n1_ := Aside0.mk (below_step (by repeat (first | (with_reducible first | exact HB.out | apply below_alloc | apply pw_below_drewN | apply below_drew1 | refine below_set ?_ GE463.out) | exact HB.out)) hb); clear BK463; clear HB; have BK463 := n0_; have HB := n1_; clear n0_ n1_; (try clear hb); (try clear hb2); (try clear hk); (try clear hi); have hcz18_0 : w17.cell? ⟨gb463, 0, none⟩ = some (.string a0_0) := (blk_cell BK463.out 0).trans rfl; have hcz18_1 : w17.cell? ⟨gb463, 1, none⟩ = some (.slice A0_1 l0_1.length c0_1) := (blk_cell BK463.out 1).trans rfl; have hcz18_2 : w17.cell? ⟨gb463, 2, none⟩ = some (.string a0_2) := (blk_cell BK463.out 2).trans rfl; have hcz18_3 : w17.cell? ⟨gb463, 3, none⟩ = some (.slice A0_3 l0_3.length c0_3) := (blk_cell BK463.out 3).trans rfl; have hcz18_4 : w17.cell? ⟨gb463, 4, none⟩ = some (.slice A0_4 l0_4.length c0_4) := (blk_cell BK463.out 4).trans rfl; have hcz18_5 : w17.cell? ⟨gb463, 5, none⟩ = some (.slice A0_5 l0_5.length c0_5) := (blk_cell BK463.out 5).trans rfl; have hfz18_0 := blk_frozen BK463.out 0; have hfz18_1 := blk_frozen BK463.out 1; have hfz18_2 := blk_frozen BK463.out 2; have hfz18_3 := blk_frozen BK463.out 3; have hfz18_4 := blk_frozen BK463.out 4; have hfz18_5 := blk_frozen BK463.out 5) | (go_at_call 22; (with_reducible refine (flow_Order.calls a0_0 _ _ l0_1 a0_2 _ _ l0_3 _ _ l0_4 _ _ l0_5 t466 _ ?side1 ?side2 ?side3 ?side4 ?side5 ?side6 ?side7 ?side8 A10.out).mono ?_); (case side1 => repeat (first | exact (Kd.C_below HR0_1.out HB.out) | (with_reducible refine Kd.C_alloc ?_ _) | (with_reducible refine Kd.C_drewN ?_ _) | (with_reducible refine Kd.C_drew ?_))); (case side2 => exact HC0_1.out); (case side3 => repeat (first | exact (Kd.C_below HR0_3.out HB.out) | (with_reducible refine Kd.C_alloc ?_ _) | (with_reducible refine Kd.C_drewN ?_ _) | (with_reducible refine Kd.C_drew ?_))); (case side4 => exact HC0_3.out); (case side5 => repeat (first | exact (Kd.C_below HR0_4.out HB.out) | (with_reducible refine Kd.C_alloc ?_ _) | (with_reducible refine Kd.C_drewN ?_ _) | (with_reducible refine Kd.C_drew ?_))); (case side6 => exact HC0_4.out); (case side7 => repeat (first | exact (Kd.C_below HR0_5.out HB.out) | (with_reducible refine Kd.C_alloc ?_ _) | (with_reducible refine Kd.C_drewN ?_ _) | (with_reducible refine Kd.C_drew ?_))); (case side8 => exact HC0_5.out); rintro e w19 ⟨v467, rfl, ho0, hb⟩; have n0_ := Aside0.mk (Kd.R_lower ho0 (below_size (by repeat (first | (with_reducible first | exact HB.out | apply below_alloc | apply pw_below_drewN | apply below_drew1 | refine below_set ?_ GE463.out) | exact HB.out)))); have n1_ := Aside0.mk (blk_below (g := gb463) (o := .cells #[.string a0_0, .slice A0_1 l0_1.length c0_1, .string a0_2, .slice A0_3 l0_3.length c0_3, .slice A0_4 l0_4.length c0_4, .slice A0_5 l0_5.length c0_5] 26 (0, 0)) (by (with_reducible repeat (first | refine blk_drewN ?_ _ | refine blk_drew ?_ | refine blk_alloc ?_ _)); exact BK463.out) hb); have n2_ := Aside0.mk (below_step (by repeat (first | (with_reducible first | exact HB.out | apply below_alloc | apply pw_below_drewN | apply below_drew1 | refine below_set ?_ GE463.out) | exact HB.out)) hb); clear BK463; clear HB; have HO468 := n0_; have BK463 := n1_; have HB := n2_; clear n0_ n1_ n2_; (try clear hb); (try clear hb2); (try clear hk); (try clear hi); (try clear ho0); have hcz20_0 : w19.cell? ⟨gb463, 0, none⟩ = some (.string a0_0) := (blk_cell BK463.out 0).trans rfl; have hcz20_1 : w19.cell? ⟨gb463, 1, none⟩ = some (.slice A0_1 l0_1.length c0_1) := (blk_cell BK463.out 1).trans rfl; have hcz20_2 : w19.cell? ⟨gb463, 2, none⟩ = some (.string a0_2) := (blk_cell BK463.out 2).trans rfl; have hcz20_3 : w19.cell? ⟨gb463, 3, none⟩ = some (.slice A0_3 l0_3.length c0_3) := (blk_cell BK463.out 3).trans rfl; have hcz20_4 : w19.cell? ⟨gb463, 4, none⟩ = some (.slice A0_4 l0_4.length c0_4) := (blk_cell BK463.out 4).trans rfl; have hcz20_5 : w19.cell? ⟨gb463, 5, none⟩ = some (.slice A0_5 l0_5.length c0_5) := (blk_cell BK463.out 5).trans rfl; have hfz20_0 := blk_frozen BK463.out 0; have hfz20_1 := blk_frozen BK463.out 1; have hfz20_2 := blk_frozen BK463.out 2; have hfz20_3 := blk_frozen BK463.out 3; have hfz20_4 := blk_frozen BK463.out 4; have hfz20_5 := blk_frozen BK463.out 5) | (go_at_call 17; (with_reducible refine (flow_Reached.calls a0_0 _ _ l0_1 a0_2 _ _ l0_3 _ _ l0_4 _ _ l0_5 t469 _ ?side1 ?side2 ?side3 ?side4 ?side5 ?side6 ?side7 ?side8 A11.out).mono ?_); (case side1 => repeat (first | exact (Kd.C_below HR0_1.out HB.out) | (with_reducible refine Kd.C_alloc ?_ _) | (with_reducible refine Kd.C_drewN ?_ _) | (with_reducible refine Kd.C_drew ?_))); (case side2 => exact HC0_1.out); (case side3 => repeat (first | exact (Kd.C_below HR0_3.out HB.out) | (with_reducible refine Kd.C_alloc ?_ _) | (with_reducible refine Kd.C_drewN ?_ _) | (with_reducible refine Kd.C_drew ?_))); (case side4 => exact HC0_3.out); (case side5 => repeat (first | exact (Kd.C_below HR0_4.out HB.out) | (with_reducible refine Kd.C_alloc ?_ _) | (with_reducible refine Kd.C_drewN ?_ _) | (with_reducible refine Kd.C_drew ?_))); (case side6 => exact HC0_4.out); (case side7 => repeat (first | exact (Kd.C_below HR0_5.out HB.out) | (with_reducible refine Kd.C_alloc ?_ _) | (with_reducible refine Kd.C_drewN ?_ _) | (with_reducible refine Kd.C_drew ?_))); (case side8 => exact HC0_5.out); rintro e w21 ⟨v470, rfl, ho0, hb⟩; have n0_ := Aside0.mk (Kd.R_below (by (with_reducible repeat (first | apply Kd.R_alloc | apply Kd.R_drewN | apply Kd.R_drew)); exact HO468.out) hb); have n1_ := Aside0.mk (Kd.R_lower ho0 (below_size (by repeat (first | (with_reducible first | exact HB.out | apply below_alloc | apply pw_below_drewN | apply below_drew1 | refine below_set ?_ GE463.out) | exact HB.out)))); have n2_ := Aside0.mk (blk_below (g := gb463) (o := .cells #[.string a0_0, .slice A0_1 l0_1.length c0_1, .string a0_2, .slice A0_3 l0_3.length c0_3, .slice A0_4 l0_4.length c0_4, .slice A0_5 l0_5.length c0_5] 26 (0, 0)) (by (with_reducible repeat (first | refine blk_drewN ?_ _ | refine blk_drew ?_ | refine blk_alloc ?_ _)); exact BK463.out) hb); have n3_ := Aside0.mk (below_step (by repeat (first | (with_reducible first | exact HB.out | apply below_alloc | apply pw_below_drewN | apply below_drew1 | refine below_set ?_ GE463.out) | exact HB.out)) hb); clear HO468; clear BK463; clear HB; have HO468 := n0_; have HO471 := n1_; have BK463 := n2_; have HB := n3_; clear n0_ n1_ n2_ n3_; (try clear hb); (try clear hb2); (try clear hk); (try clear hi); (try clear ho0); have hcz22_0 : w21.cell? ⟨gb463, 0, none⟩ = some (.string a0_0) := (blk_cell BK463.out 0).trans rfl; have hcz22_1 : w21.cell? ⟨gb463, 1, none⟩ = some (.slice A0_1 l0_1.length c0_1) := (blk_cell BK463.out 1).trans rfl; have hcz22_2 : w21.cell? ⟨gb463, 2, none⟩ = some (.string a0_2) := (blk_cell BK463.out 2).trans rfl; have hcz22_3 : w21.cell? ⟨gb463, 3, none⟩ = some (.slice A0_3 l0_3.length c0_3) := (blk_cell BK463.out 3).trans rfl; have hcz22_4 : w21.cell? ⟨gb463, 4, none⟩ = some (.slice A0_4 l0_4.length c0_4) := (blk_cell BK463.out 4).trans rfl; have hcz22_5 : w21.cell? ⟨gb463, 5, none⟩ = some (.slice A0_5 l0_5.length c0_5) := (blk_cell BK463.out 5).trans rfl; have hfz22_0 := blk_frozen BK463.out 0; have hfz22_1 := blk_frozen BK463.out 1; have hfz22_2 := blk_frozen BK463.out 2; have hfz22_3 := blk_frozen BK463.out 3; have hfz22_4 := blk_frozen BK463.out 4; have hfz22_5 := blk_frozen BK463.out 5) | (go_at_call 16; (with_reducible refine (flow_Ahead.calls k a0_0 _ _ l0_1 a0_2 _ _ l0_3 _ _ l0_4 _ _ l0_5 t472 _ ?side1 ?side2 ?side3 ?side4 ?side5 ?side6 ?side7 ?side8 A12.out).mono ?_); (case side1 => repeat (first | exact (Kd.C_below HR0_1.out HB.out) | (with_reducible refine Kd.C_alloc ?_ _) | (with_reducible refine Kd.C_drewN ?_ _) | (with_reducible refine Kd.C_drew ?_))); (case side2 => exact HC0_1.out); (case side3 => repeat (first | exact (Kd.C_below HR0_3.out HB.out) | (with_reducible refine Kd.C_alloc ?_ _) | (with_reducible refine Kd.C_drewN ?_ _) | (with_reducible refine Kd.C_drew ?_))); (case side4 => exact HC0_3.out); (case side5 => repeat (first | exact (Kd.C_below HR0_4.out HB.out) | (with_reducible refine Kd.C_alloc ?_ _) | (with_reducible refine Kd.C_drewN ?_ _) | (with_reducible refine Kd.C_drew ?_))); (case side6 => exact HC0_4.out); (case side7 => repeat (first | exact (Kd.C_below HR0_5.out HB.out) | (with_reducible refine Kd.C_alloc ?_ _) | (with_reducible refine Kd.C_drewN ?_ _) | (with_reducible refine Kd.C_drew ?_))); (case side8 => exact HC0_5.out); rintro e w23 ⟨v473, rfl, ho0, hb⟩; have n0_ := Aside0.mk (Kd.R_below (by (with_reducible repeat (first | apply Kd.R_alloc | apply Kd.R_drewN | apply Kd.R_drew)); exact HO468.out) hb); have n1_ := Aside0.mk (Kd.R_below (by (with_reducible repeat (first | apply Kd.R_alloc | apply Kd.R_drewN | apply Kd.R_drew)); exact HO471.out) hb); have n2_ := Aside0.mk (Kd.S_lower (Kd.S_new' ho0 (Kd.R_lt (by (with_reducible repeat (first | apply Kd.R_alloc | apply Kd.R_drewN | apply Kd.R_drew)); exact HO468.out))) (below_size (by repeat (first | (with_reducible first | exact HB.out | apply below_alloc | apply pw_below_drewN | apply below_drew1 | refine below_set ?_ GE463.out) | exact HB.out)))); have n3_ := Aside0.mk (blk_below (g := gb463) (o := .cells #[.string a0_0, .slice A0_1 l0_1.length c0_1, .string a0_2, .slice A0_3 l0_3.length c0_3, .slice A0_4 l0_4.length c0_4, .slice A0_5 l0_5.length c0_5] 26 (0, 0)) (by (with_reducible repeat (first | refine blk_drewN ?_ _ | refine blk_drew ?_ | refine blk_alloc ?_ _)); exact BK463.out) hb); have n4_ := Aside0.mk (below_step (by repeat (first | (with_reducible first | exact HB.out | apply below_alloc | apply pw_below_drewN | apply below_drew1 | refine below_set ?_ GE463.out) | exact HB.out)) hb); clear HO468; clear HO471; clear BK463; clear HB; have HO468 := n0_; have HO471 := n1_; have HO474 := n2_; have BK463 := n3_; have HB := n4_; clear n0_ n1_ n2_ n3_ n4_; (try clear hb); (try clear hb2); (try clear hk); (try clear hi); (try clear ho0); have hcz24_0 : w23.cell? ⟨gb463, 0, none⟩ = some (.string a0_0) := (blk_cell BK463.out 0).trans rfl; have hcz24_1 : w23.cell? ⟨gb463, 1, none⟩ = some (.slice A0_1 l0_1.length c0_1) := (blk_cell BK463.out 1).trans rfl; have hcz24_2 : w23.cell? ⟨gb463, 2, none⟩ = some (.string a0_2) := (blk_cell BK463.out 2).trans rfl; have hcz24_3 : w23.cell? ⟨gb463, 3, none⟩ = some (.slice A0_3 l0_3.length c0_3) := (blk_cell BK463.out 3).trans rfl; have hcz24_4 : w23.cell? ⟨gb463, 4, none⟩ = some (.slice A0_4 l0_4.length c0_4) := (blk_cell BK463.out 4).trans rfl; have hcz24_5 : w23.cell? ⟨gb463, 5, none⟩ = some (.slice A0_5 l0_5.length c0_5) := (blk_cell BK463.out 5).trans rfl; have hfz24_0 := blk_frozen BK463.out 0; have hfz24_1 := blk_frozen BK463.out 1; have hfz24_2 := blk_frozen BK463.out 2; have hfz24_3 := blk_frozen BK463.out 3; have hfz24_4 := blk_frozen BK463.out 4; have hfz24_5 := blk_frozen BK463.out 5; obtain ⟨Ao25, co25, eo25⟩ := Kd.R_slice HO468.out; subst eo25)))
  go_ret
  exact ⟨by first | rfl | (simp [errW_none, errW_some] <;> rfl) | (simp [*, errW_none, errW_some] <;> rfl), by repeat (first | (with_reducible first | exact HB.out | apply below_alloc | apply pw_below_drewN | apply below_drew1 | refine below_set ?_ GE463.out) | exact HB.out)⟩
 rw [if_neg c13] at H
 have c13b0 : ((l0_5.length : Int) == 0) = false := beq_eq_false_iff_ne.mpr c13
 have c13b1 : ((l0_5.length : Int) != 0) = true := bne_iff_ne.mpr c13
 have c13b2 : ¬ (l0_5 = []) := fun h_ => c13 (by rw [h_]; rfl)
 have HC26 := Aside0.mk H
 clear H
 go_enter Try.func5, Try.ntmps5
 go_upto_region 10 with (first | ((with_reducible refine gate_dst (N := 1) rfl ?_); (try (refine gate_guard (by rfl) ?_; dsimp only)); refine box_event ?hg (N := 1) ?hd (cs := #[.string a0_0, .slice A0_1 l0_1.length c0_1, .string a0_2, .slice A0_3 l0_3.length c0_3, .slice A0_4 l0_4.length c0_4, .slice A0_5 l0_5.length c0_5]) (t := 26) ?hr ?_; (case hd => rfl); (case hg => rfl); (case hr => first | (go_simp; done) | (go_simp; rfl)); intro gb463 hg w27 hbox hb; have n0_ := Aside0.mk (below_step (by repeat (first | (with_reducible first | exact HB.out | apply below_alloc | apply pw_below_drewN | apply below_drew1) | exact HB.out)) hb); have n1_ := Aside0.mk (hbox); have n2_ := Aside0.mk ((by rw [hg]; exact (below_size (by repeat (first | (with_reducible first | exact HB.out | apply below_alloc | apply pw_below_drewN | apply below_drew1) | exact HB.out))) : w.heap.size ≤ gb463)); have n3_ := Aside0.mk ((by rw [hg]; exact (below_size (by repeat (first | (with_reducible first | exact HB.out | apply below_alloc | apply pw_below_drewN | apply below_drew1) | exact HB.out))) : w.heap.size ≤ gb463)); clear HB; have HB := n0_; have BK463 := n1_; have GW463 := n2_; have GE463 := n3_; clear n0_ n1_ n2_ n3_; clear hb hbox hg) | (go_at_call 14; (with_reducible refine (truantlaw09_awake.calls k  true _ A2.out).mono ?_); rintro e w28 ⟨rfl, hb⟩; have n0_ := Aside0.mk (blk_below (g := gb463) (o := .cells #[.string a0_0, .slice A0_1 l0_1.length c0_1, .string a0_2, .slice A0_3 l0_3.length c0_3, .slice A0_4 l0_4.length c0_4, .slice A0_5 l0_5.length c0_5] 26 (0, 0)) (by (with_reducible repeat (first | refine blk_drewN ?_ _ | refine blk_drew ?_ | refine blk_alloc ?_ _)); exact BK463.out) hb); have n1_ := Aside0.mk (below_step (by repeat (first | (with_reducible first | exact HB.out | apply below_alloc | apply pw_below_drewN | apply below_drew1 | refine below_set ?_ GE463.out) | exact HB.out)) hb); clear BK463; clear HB; have BK463 := n0_; have HB := n1_; clear n0_ n1_; (try clear hb); (try clear hb2); (try clear hk); (try clear hi); have hcz29_0 : w28.cell? ⟨gb463, 0, none⟩ = some (.string a0_0) := (blk_cell BK463.out 0).trans rfl; have hcz29_1 : w28.cell? ⟨gb463, 1, none⟩ = some (.slice A0_1 l0_1.length c0_1) := (blk_cell BK463.out 1).trans rfl; have hcz29_2 : w28.cell? ⟨gb463, 2, none⟩ = some (.string a0_2) := (blk_cell BK463.out 2).trans rfl; have hcz29_3 : w28.cell? ⟨gb463, 3, none⟩ = some (.slice A0_3 l0_3.length c0_3) := (blk_cell BK463.out 3).trans rfl; have hcz29_4 : w28.cell? ⟨gb463, 4, none⟩ = some (.slice A0_4 l0_4.length c0_4) := (blk_cell BK463.out 4).trans rfl; have hcz29_5 : w28.cell? ⟨gb463, 5, none⟩ = some (.slice A0_5 l0_5.length c0_5) := (blk_cell BK463.out 5).trans rfl; have hfz29_0 := blk_frozen BK463.out 0; have hfz29_1 := blk_frozen BK463.out 1; have hfz29_2 := blk_frozen BK463.out 2; have hfz29_3 := blk_frozen BK463.out 3; have hfz29_4 := blk_frozen BK463.out 4; have hfz29_5 := blk_frozen BK463.out 5) | (go_at_call 15; (with_reducible refine (truantlaw09_wide.calls k a0_0 _ _ l0_1 a0_2 _ _ l0_3 _ _ l0_4 _ _ l0_5 false _ ?side1 ?side2 ?side3 ?side4 ?side5 ?side6 ?side7 ?side8 A4.out).mono ?_); (case side1 => repeat (first | exact (Kd.C_below HR0_1.out HB.out) | (with_reducible refine Kd.C_alloc ?_ _) | (with_reducible refine Kd.C_drewN ?_ _) | (with_reducible refine Kd.C_drew ?_))); (case side2 => exact HC0_1.out); (case side3 => repeat (first | exact (Kd.C_below HR0_3.out HB.out) | (with_reducible refine Kd.C_alloc ?_ _) | (with_reducible refine Kd.C_drewN ?_ _) | (with_reducible refine Kd.C_drew ?_))); (case side4 => exact HC0_3.out); (case side5 => repeat (first | exact (Kd.C_below HR0_4.out HB.out) | (with_reducible refine Kd.C_alloc ?_ _) | (with_reducible refine Kd.C_drewN ?_ _) | (with_reducible refine Kd.C_drew ?_))); (case side6 => exact HC0_4.out); (case side7 => repeat (first | exact (Kd.C_below HR0_5.out HB.out) | (with_reducible refine Kd.C_alloc ?_ _) | (with_reducible refine Kd.C_drewN ?_ _) | (with_reducible refine Kd.C_drew ?_))); (case side8 => exact HC0_5.out); rintro e w30 ⟨rfl, hb⟩; have n0_ := Aside0.mk (blk_below (g := gb463) (o := .cells #[.string a0_0, .slice A0_1 l0_1.length c0_1, .string a0_2, .slice A0_3 l0_3.length c0_3, .slice A0_4 l0_4.length c0_4, .slice A0_5 l0_5.length c0_5] 26 (0, 0)) (by (with_reducible repeat (first | refine blk_drewN ?_ _ | refine blk_drew ?_ | refine blk_alloc ?_ _)); exact BK463.out) hb); have n1_ := Aside0.mk (below_step (by repeat (first | (with_reducible first | exact HB.out | apply below_alloc | apply pw_below_drewN | apply below_drew1 | refine below_set ?_ GE463.out) | exact HB.out)) hb); clear BK463; clear HB; have BK463 := n0_; have HB := n1_; clear n0_ n1_; (try clear hb); (try clear hb2); (try clear hk); (try clear hi); have hcz31_0 : w30.cell? ⟨gb463, 0, none⟩ = some (.string a0_0) := (blk_cell BK463.out 0).trans rfl; have hcz31_1 : w30.cell? ⟨gb463, 1, none⟩ = some (.slice A0_1 l0_1.length c0_1) := (blk_cell BK463.out 1).trans rfl; have hcz31_2 : w30.cell? ⟨gb463, 2, none⟩ = some (.string a0_2) := (blk_cell BK463.out 2).trans rfl; have hcz31_3 : w30.cell? ⟨gb463, 3, none⟩ = some (.slice A0_3 l0_3.length c0_3) := (blk_cell BK463.out 3).trans rfl; have hcz31_4 : w30.cell? ⟨gb463, 4, none⟩ = some (.slice A0_4 l0_4.length c0_4) := (blk_cell BK463.out 4).trans rfl; have hcz31_5 : w30.cell? ⟨gb463, 5, none⟩ = some (.slice A0_5 l0_5.length c0_5) := (blk_cell BK463.out 5).trans rfl; have hfz31_0 := blk_frozen BK463.out 0; have hfz31_1 := blk_frozen BK463.out 1; have hfz31_2 := blk_frozen BK463.out 2; have hfz31_3 := blk_frozen BK463.out 3; have hfz31_4 := blk_frozen BK463.out 4; have hfz31_5 := blk_frozen BK463.out 5) | (go_at_call 22; (with_reducible refine (flow_Order.calls a0_0 _ _ l0_1 a0_2 _ _ l0_3 _ _ l0_4 _ _ l0_5 t466 _ ?side1 ?side2 ?side3 ?side4 ?side5 ?side6 ?side7 ?side8 A10.out).mono ?_); (case side1 => repeat (first | exact (Kd.C_below HR0_1.out HB.out) | (with_reducible refine Kd.C_alloc ?_ _) | (with_reducible refine Kd.C_drewN ?_ _) | (with_reducible refine Kd.C_drew ?_))); (case side2 => exact HC0_1.out); (case side3 => repeat (first | exact (Kd.C_below HR0_3.out HB.out) | (with_reducible refine Kd.C_alloc ?_ _) | (with_reducible refine Kd.C_drewN ?_ _) | (with_reducible refine Kd.C_drew ?_))); (case side4 => exact HC0_3.out); (case side5 => repeat (first | exact (Kd.C_below HR0_4.out HB.out) | (with_reducible refine Kd.C_alloc ?_ _) | (with_reducible refine Kd.C_drewN ?_ _) | (with_reducible refine Kd.C_drew ?_))); (case side6 => exact HC0_4.out); (case side7 => repeat (first | exact (Kd.C_below HR0_5.out HB.out) | (with_reducible refine Kd.C_alloc ?_ _) | (with_reducible refine Kd.C_drewN ?_ _) | (with_reducible refine Kd.C_drew ?_))); (case side8 => exact HC0_5.out); rintro e w32 ⟨v467, rfl, ho0, hb⟩; have n0_ := Aside0.mk (Kd.R_lower ho0 (below_size (by repeat (first | (with_reducible first | exact HB.out | apply below_alloc | apply pw_below_drewN | apply below_drew1 | refine below_set ?_ GE463.out) | exact HB.out)))); have n1_ := Aside0.mk (blk_below (g := gb463) (o := .cells #[.string a0_0, .slice A0_1 l0_1.length c0_1, .string a0_2, .slice A0_3 l0_3.length c0_3, .slice A0_4 l0_4.length c0_4, .slice A0_5 l0_5.length c0_5] 26 (0, 0)) (by (with_reducible repeat (first | refine blk_drewN ?_ _ | refine blk_drew ?_ | refine blk_alloc ?_ _)); exact BK463.out) hb); have n2_ := Aside0.mk (below_step (by repeat (first | (with_reducible first | exact HB.out | apply below_alloc | apply pw_below_drewN | apply below_drew1 | refine below_set ?_ GE463.out) | exact HB.out)) hb); clear BK463; clear HB; have HO468 := n0_; have BK463 := n1_; have HB := n2_; clear n0_ n1_ n2_; (try clear hb); (try clear hb2); (try clear hk); (try clear hi); (try clear ho0); have hcz33_0 : w32.cell? ⟨gb463, 0, none⟩ = some (.string a0_0) := (blk_cell BK463.out 0).trans rfl; have hcz33_1 : w32.cell? ⟨gb463, 1, none⟩ = some (.slice A0_1 l0_1.length c0_1) := (blk_cell BK463.out 1).trans rfl; have hcz33_2 : w32.cell? ⟨gb463, 2, none⟩ = some (.string a0_2) := (blk_cell BK463.out 2).trans rfl; have hcz33_3 : w32.cell? ⟨gb463, 3, none⟩ = some (.slice A0_3 l0_3.length c0_3) := (blk_cell BK463.out 3).trans rfl; have hcz33_4 : w32.cell? ⟨gb463, 4, none⟩ = some (.slice A0_4 l0_4.length c0_4) := (blk_cell BK463.out 4).trans rfl; have hcz33_5 : w32.cell? ⟨gb463, 5, none⟩ = some (.slice A0_5 l0_5.length c0_5) := (blk_cell BK463.out 5).trans rfl; have hfz33_0 := blk_frozen BK463.out 0; have hfz33_1 := blk_frozen BK463.out 1; have hfz33_2 := blk_frozen BK463.out 2; have hfz33_3 := blk_frozen BK463.out 3; have hfz33_4 := blk_frozen BK463.out 4; have hfz33_5 := blk_frozen BK463.out 5) | (go_at_call 17; (with_reducible refine (flow_Reached.calls a0_0 _ _ l0_1 a0_2 _ _ l0_3 _ _ l0_4 _ _ l0_5 t469 _ ?side1 ?side2 ?side3 ?side4 ?side5 ?side6 ?side7 ?side8 A11.out).mono ?_); (case side1 => repeat (first | exact (Kd.C_below HR0_1.out HB.out) | (with_reducible refine Kd.C_alloc ?_ _) | (with_reducible refine Kd.C_drewN ?_ _) | (with_reducible refine Kd.C_drew ?_))); (case side2 => exact HC0_1.out); (case side3 => repeat (first | exact (Kd.C_below HR0_3.out HB.out) | (with_reducible refine Kd.C_alloc ?_ _) | (with_reducible refine Kd.C_drewN ?_ _) | (with_reducible refine Kd.C_drew ?_))); (case side4 => exact HC0_3.out); (case side5 => repeat (first | exact (Kd.C_below HR0_4.out HB.out) | (with_reducible refine Kd.C_alloc ?_ _) | (with_reducible refine Kd.C_drewN ?_ _) | (with_reducible refine Kd.C_drew ?_))); (case side6 => exact HC0_4.out); (case side7 => repeat (first | exact (Kd.C_below HR0_5.out HB.out) | (with_reducible refine Kd.C_alloc ?_ _) | (with_reducible refine Kd.C_drewN ?_ _) | (with_reducible refine Kd.C_drew ?_))); (case side8 => exact HC0_5.out); rintro e w34 ⟨v470, rfl, ho0, hb⟩; have n0_ := Aside0.mk (Kd.R_below (by (with_reducible repeat (first | apply Kd.R_alloc | apply Kd.R_drewN | apply Kd.R_drew)); exact HO468.out) hb); have n1_ := Aside0.mk (Kd.R_lower ho0 (below_size (by repeat (first | (with_reducible first | exact HB.out | apply below_alloc | apply pw_below_drewN | apply below_drew1 | refine below_set ?_ GE463.out) | exact HB.out)))); have n2_ := Aside0.mk (blk_below (g := gb463) (o := .cells #[.string a0_0, .slice A0_1 l0_1.length c0_1, .string a0_2, .slice A0_3 l0_3.length c0_3, .slice A0_4 l0_4.length c0_4, .slice A0_5 l0_5.length c0_5] 26 (0, 0)) (by (with_reducible repeat (first | refine blk_drewN ?_ _ | refine blk_drew ?_ | refine blk_alloc ?_ _)); exact BK463.out) hb); have n3_ := Aside0.mk (below_step (by repeat (first | (with_reducible first | exact HB.out | apply below_alloc | apply pw_below_drewN | apply below_drew1 | refine below_set ?_ GE463.out) | exact HB.out)) hb); clear HO468; clear BK463; clear HB; have HO468 := n0_; have HO471 := n1_; have BK463 := n2_; have HB := n3_; clear n0_ n1_ n2_ n3_; (try clear hb); (try clear hb2); (try clear hk); (try clear hi); (try clear ho0); have hcz35_0 : w34.cell? ⟨gb463, 0, none⟩ = some (.string a0_0) := (blk_cell BK463.out 0).trans rfl; have hcz35_1 : w34.cell? ⟨gb463, 1, none⟩ = some (.slice A0_1 l0_1.length c0_1) := (blk_cell BK463.out 1).trans rfl; have hcz35_2 : w34.cell? ⟨gb463, 2, none⟩ = some (.string a0_2) := (blk_cell BK463.out 2).trans rfl; have hcz35_3 : w34.cell? ⟨gb463, 3, none⟩ = some (.slice A0_3 l0_3.length c0_3) := (blk_cell BK463.out 3).trans rfl; have hcz35_4 : w34.cell? ⟨gb463, 4, none⟩ = some (.slice A0_4 l0_4.length c0_4) := (blk_cell BK463.out 4).trans rfl; have hcz35_5 : w34.cell? ⟨gb463, 5, none⟩ = some (.slice A0_5 l0_5.length c0_5) := (blk_cell BK463.out 5).trans rfl; have hfz35_0 := blk_frozen BK463.out 0; have hfz35_1 := blk_frozen BK463.out 1; have hfz35_2 := blk_frozen BK463.out 2; have hfz35_3 := blk_frozen BK463.out 3; have hfz35_4 := blk_frozen BK463.out 4; have hfz35_5 := blk_frozen BK463.out 5) | (go_at_call 16; (with_reducible refine (flow_Ahead.calls k a0_0 _ _ l0_1 a0_2 _ _ l0_3 _ _ l0_4 _ _ l0_5 t472 _ ?side1 ?side2 ?side3 ?side4 ?side5 ?side6 ?side7 ?side8 A12.out).mono ?_); (case side1 => repeat (first | exact (Kd.C_below HR0_1.out HB.out) | (with_reducible refine Kd.C_alloc ?_ _) | (with_reducible refine Kd.C_drewN ?_ _) | (with_reducible refine Kd.C_drew ?_))); (case side2 => exact HC0_1.out); (case side3 => repeat (first | exact (Kd.C_below HR0_3.out HB.out) | (with_reducible refine Kd.C_alloc ?_ _) | (with_reducible refine Kd.C_drewN ?_ _) | (with_reducible refine Kd.C_drew ?_))); (case side4 => exact HC0_3.out); (case side5 => repeat (first | exact (Kd.C_below HR0_4.out HB.out) | (with_reducible refine Kd.C_alloc ?_ _) | (with_reducible refine Kd.C_drewN ?_ _) | (with_reducible refine Kd.C_drew ?_))); (case side6 => exact HC0_4.out); (case side7 => repeat (first | exact (Kd.C_below HR0_5.out HB.out) | (with_reducible refine Kd.C_alloc ?_ _) | (with_reducible refine Kd.C_drewN ?_ _) | (with_reducible refine Kd.C_drew ?_))); (case side8 => exact HC0_5.out); rintro e w36 ⟨v473, rfl, ho0, hb⟩; have n0_ := Aside0.mk (Kd.R_below (by (with_reducible repeat (first | apply Kd.R_alloc | apply Kd.R_drewN | apply Kd.R_drew)); exact HO468.out) hb); have n1_ := Aside0.mk (Kd.R_below (by (with_reducible repeat (first | apply Kd.R_alloc | apply Kd.R_drewN | apply Kd.R_drew)); exact HO471.out) hb); have n2_ := Aside0.mk (Kd.S_lower (Kd.S_new' ho0 (Kd.R_lt (by (with_reducible repeat (first | apply Kd.R_alloc | apply Kd.R_drewN | apply Kd.R_drew)); exact HO468.out))) (below_size (by repeat (first | (with_reducible first | exact HB.out | apply below_alloc | apply pw_below_drewN | apply below_drew1 | refine below_set ?_ GE463.out) | exact HB.out)))); have n3_ := Aside0.mk (blk_below (g := gb463) (o := .cells #[.string a0_0, .slice A0_1 l0_1.length c0_1, .string a0_2, .slice A0_3 l0_3.length c0_3, .slice A0_4 l0_4.length c0_4, .slice A0_5 l0_5.length c0_5] 26 (0, 0)) (by (with_reducible repeat (first | refine blk_drewN ?_ _ | refine blk_drew ?_ | refine blk_alloc ?_ _)); exact BK463.out) hb); have n4_ := Aside0.mk (below_step (by repeat (first | (with_reducible first | exact HB.out | apply below_alloc | apply pw_below_drewN | apply below_drew1 | refine below_set ?_ GE463.out) | exact HB.out)) hb); clear HO468; clear HO471; clear BK463; clear HB; have HO468 := n0_; have HO471 := n1_; have HO474 := n2_; have BK463 := n3_; have HB := n4_; clear n0_ n1_ n2_ n3_ n4_; (try clear hb); (try clear hb2); (try clear hk); (try clear hi); (try clear ho0); have hcz37_0 : w36.cell? ⟨gb463, 0, none⟩ = some (.string a0_0) := (blk_cell BK463.out 0).trans rfl; have hcz37_1 : w36.cell? ⟨gb463, 1, none⟩ = some (.slice A0_1 l0_1.length c0_1) := (blk_cell BK463.out 1).trans rfl; have hcz37_2 : w36.cell? ⟨gb463, 2, none⟩ = some (.string a0_2) := (blk_cell BK463.out 2).trans rfl; have hcz37_3 : w36.cell? ⟨gb463, 3, none⟩ = some (.slice A0_3 l0_3.length c0_3) := (blk_cell BK463.out 3).trans rfl; have hcz37_4 : w36.cell? ⟨gb463, 4, none⟩ = some (.slice A0_4 l0_4.length c0_4) := (blk_cell BK463.out 4).trans rfl; have hcz37_5 : w36.cell? ⟨gb463, 5, none⟩ = some (.slice A0_5 l0_5.length c0_5) := (blk_cell BK463.out 5).trans rfl; have hfz37_0 := blk_frozen BK463.out 0; have hfz37_1 := blk_frozen BK463.out 1; have hfz37_2 := blk_frozen BK463.out 2; have hfz37_3 := blk_frozen BK463.out 3; have hfz37_4 := blk_frozen BK463.out 4; have hfz37_5 := blk_frozen BK463.out 5))
 repeat (go_quiet (first | ((with_reducible refine gate_dst (N := 1) rfl ?_); (try (refine gate_guard (by rfl) ?_; dsimp only)); refine box_event ?hg (N := 1) ?hd (cs := #[.string a0_0, .slice A0_1 l0_1.length c0_1, .string a0_2, .slice A0_3 l0_3.length c0_3, .slice A0_4 l0_4.length c0_4, .slice A0_5 l0_5.length c0_5]) (t := 26) ?hr ?_; (case hd => rfl); (case hg => rfl); (case hr => first | (go_simp; done) | (go_simp; rfl)); intro gb463 hg w27 hbox hb; have n0_ := Aside0.mk (below_step (by repeat (first | (with_reducible first | exact HB.out | apply below_alloc | apply pw_below_drewN | apply below_drew1) | exact HB.out)) hb); have n1_ := Aside0.mk (hbox); have n2_ := Aside0.mk ((by rw [hg]; exact (below_size (by repeat (first | (with_reducible first | exact HB.out | apply below_alloc | apply pw_below_drewN | apply below_drew1) | exact HB.out))) : w.heap.size ≤ gb463)); have n3_ := Aside0.mk ((by rw [hg]; exact (below_size (by repeat (first | (with_reducible first | exact HB.out | apply below_alloc | apply pw_below_drewN | apply below_drew1) | exact HB.out))) : w.heap.size ≤ gb463)); clear HB; have HB := n0_; have BK463 := n1_; have GW463 := n2_; have GE463 := n3_; clear n0_ n1_ n2_ n3_; clear hb hbox hg) | (go_at_call 14; (with_reducible refine (truantlaw09_awake.calls k  true _ A2.out).mono ?_); rintro e w28 ⟨rfl, hb⟩; have n0_ := Aside0.mk (blk_below (g := gb463) (o := .cells #[.string a0_0, .slice A0_1 l0_1.length c0_1, .string a0_2, .slice A0_3 l0_3.length c0_3, .slice A0_4 l0_4.length c0_4, .slice A0_5 l0_5.length c0_5] 26 (0, 0)) (by (with_reducible repeat (first | refine blk_drewN ?_ _ | refine blk_drew ?_ | refine blk_alloc ?_ _)); exact BK463.out) hb); have n1_ := Aside0.mk (below_step (by repeat (first | (with_reducible first | exact HB.out | apply below_alloc | apply pw_below_drewN | apply below_drew1 | refine below_set ?_ GE463.out) | exact HB.out)) hb); clear BK463; clear HB; have BK463 := n0_; have HB := n1_; clear n0_ n1_; (try clear hb); (try clear hb2); (try clear hk); (try clear hi); have hcz29_0 : w28.cell? ⟨gb463, 0, none⟩ = some (.string a0_0) := (blk_cell BK463.out 0).trans rfl; have hcz29_1 : w28.cell? ⟨gb463, 1, none⟩ = some (.slice A0_1 l0_1.length c0_1) := (blk_cell BK463.out 1).trans rfl; have hcz29_2 : w28.cell? ⟨gb463, 2, none⟩ = some (.string a0_2) := (blk_cell BK463.out 2).trans rfl; have hcz29_3 : w28.cell? ⟨gb463, 3, none⟩ = some (.slice A0_3 l0_3.length c0_3) := (blk_cell BK463.out 3).trans rfl; have hcz29_4 : w28.cell? ⟨gb463, 4, none⟩ = some (.slice A0_4 l0_4.length c0_4) := (blk_cell BK463.out 4).trans rfl; have hcz29_5 : w28.cell? ⟨gb463, 5, none⟩ = some (.slice A0_5 l0_5.length c0_5) := (blk_cell BK463.out 5).trans rfl; have hfz29_0 := blk_frozen BK463.out 0; have hfz29_1 := blk_frozen BK463.out 1; have hfz29_2 := blk_frozen BK463.out 2; have hfz29_3 := blk_frozen BK463.out 3; have hfz29_4 := blk_frozen BK463.out 4; have hfz29_5 := blk_frozen BK463.out 5) | (go_at_call 15; (with_reducible refine (truantlaw09_wide.calls k a0_0 _ _ l0_1 a0_2 _ _ l0_3 _ _ l0_4 _ _ l0_5 false _ ?side1 ?side2 ?side3 ?side4 ?side5 ?side6 ?side7 ?side8 A4.out).mono ?_); (case side1 => repeat (first | exact (Kd.C_below HR0_1.out HB.out) | (with_reducible refine Kd.C_alloc ?_ _) | (with_reducible refine Kd.C_drewN ?_ _) | (with_reducible refine Kd.C_drew ?_))); (case side2 => exact HC0_1.out); (case side3 => repeat (first | exact (Kd.C_below HR0_3.out HB.out) | (with_reducible refine Kd.C_alloc ?_ _) | (with_reducible refine Kd.C_drewN ?_ _) | (with_reducible refine Kd.C_drew ?_))); (case side4 => exact HC0_3.out); (case side5 => repeat (first | exact (Kd.C_below HR0_4.out HB.out) | (with_reducible refine Kd.C_alloc ?_ _) | (with_reducible refine Kd.C_drewN ?_ _) | (with_reducible refine Kd.C_drew ?_))); (case side6 => exact HC0_4.out); (case side7 => repeat (first | exact (Kd.C_below HR0_5.out HB.out) | (with_reducible refine Kd.C_alloc ?_ _) | (with_reducible refine Kd.C_drewN ?_ _) | (with_reducible refine Kd.C_drew ?_))); (case side8 => exact HC0_5.out); rintro e w30 ⟨rfl, hb⟩; have n0_ := Aside0.mk (blk_below (g := gb463) (o := .cells #[.string a0_0, .slice A0_1 l0_1.length c0_1, .string a0_2, .slice A0_3 l0_3.length c0_3, .slice A0_4 l0_4.length c0_4, .slice A0_5 l0_5.length c0_5] 26 (0, 0)) (by (with_reducible repeat (first | refine blk_drewN ?_ _ | refine blk_drew ?_ | refine blk_alloc ?_ _)); exact BK463.out) hb); have n1_ := Aside0.mk (below_step (by repeat (first | (with_reducible first | exact HB.out | apply below_alloc | apply pw_below_drewN | apply below_drew1 | refine below_set ?_ GE463.out) | exact HB.out)) hb); clear BK463; clear HB; have BK463 := n0_; have HB := n1_; clear n0_ n1_; (try clear hb); (try clear hb2); (try clear hk); (try clear hi); have hcz31_0 : w30.cell? ⟨gb463, 0, none⟩ = some (.string a0_0) := (blk_cell BK463.out 0).trans rfl; have hcz31_1 : w30.cell? ⟨gb463, 1, none⟩ = some (.slice A0_1 l0_1.length c0_1) := (blk_cell BK463.out 1).trans rfl; have hcz31_2 : w30.cell? ⟨gb463, 2, none⟩ = some (.string a0_2) := (blk_cell BK463.out 2).trans rfl; have hcz31_3 : w30.cell? ⟨gb463, 3, none⟩ = some (.slice A0_3 l0_3.length c0_3) := (blk_cell BK463.out 3).trans rfl; have hcz31_4 : w30.cell? ⟨gb463, 4, none⟩ = some (.slice A0_4 l0_4.length c0_4) := (blk_cell BK463.out 4).trans rfl; have hcz31_5 : w30.cell? ⟨gb463, 5, none⟩ = some (.slice A0_5 l0_5.length c0_5) := (blk_cell BK463.out 5).trans rfl; have hfz31_0 := blk_frozen BK463.out 0; have hfz31_1 := blk_frozen BK463.out 1; have hfz31_2 := blk_frozen BK463.out 2; have hfz31_3 := blk_frozen BK463.out 3; have hfz31_4 := blk_frozen BK463.out 4; have hfz31_5 := blk_frozen BK463.out 5) | (go_at_call 22; (with_reducible refine (flow_Order.calls a0_0 _ _ l0_1 a0_2 _ _ l0_3 _ _ l0_4 _ _ l0_5 t466 _ ?side1 ?side2 ?side3 ?side4 ?side5 ?side6 ?side7 ?side8 A10.out).mono ?_); (case side1 => repeat (first | exact (Kd.C_below HR0_1.out HB.out) | (with_reducible refine Kd.C_alloc ?_ _) | (with_reducible refine Kd.C_drewN ?_ _) | (with_reducible refine Kd.C_drew ?_))); (case side2 => exact HC0_1.out); (case side3 => repeat (first | exact (Kd.C_below HR0_3.out HB.out) | (with_reducible refine Kd.C_alloc ?_ _) | (with_reducible refine Kd.C_drewN ?_ _) | (with_reducible refine Kd.C_drew ?_))); (case side4 => exact HC0_3.out); (case side5 => repeat (first | exact (Kd.C_below HR0_4.out HB.out) | (with_reducible refine Kd.C_alloc ?_ _) | (with_reducible refine Kd.C_drewN ?_ _) | (with_reducible refine Kd.C_drew ?_))); (case side6 => exact HC0_4.out); (case side7 => repeat (first | exact (Kd.C_below HR0_5.out HB.out) | (with_reducible refine Kd.C_alloc ?_ _) | (with_reducible refine Kd.C_drewN ?_ _) | (with_reducible refine Kd.C_drew ?_))); (case side8 => exact HC0_5.out); rintro e w32 ⟨v467, rfl, ho0, hb⟩; have n0_ := Aside0.mk (Kd.R_lower ho0 (below_size (by repeat (first | (with_reducible first | exact HB.out | apply below_alloc | apply pw_below_drewN | apply below_drew1 | refine below_set ?_ GE463.out) | exact HB.out)))); have n1_ := Aside0.mk (blk_below (g := gb463) (o := .cells #[.string a0_0, .slice A0_1 l0_1.length c0_1, .string a0_2, .slice A0_3 l0_3.length c0_3, .slice A0_4 l0_4.length c0_4, .slice A0_5 l0_5.length c0_5] 26 (0, 0)) (by (with_reducible repeat (first | refine blk_drewN ?_ _ | refine blk_drew ?_ | refine blk_alloc ?_ _)); exact BK463.out) hb); have n2_ := Aside0.mk (below_step (by repeat (first | (with_reducible first | exact HB.out | apply below_alloc | apply pw_below_drewN | apply below_drew1 | refine below_set ?_ GE463.out) | exact HB.out)) hb); clear BK463; clear HB; have HO468 := n0_; have BK463 := n1_; have HB := n2_; clear n0_ n1_ n2_; (try clear hb); (try clear hb2); (try clear hk); (try clear hi); (try clear ho0); have hcz33_0 : w32.cell? ⟨gb463, 0, none⟩ = some (.string a0_0) := (blk_cell BK463.out 0).trans rfl; have hcz33_1 : w32.cell? ⟨gb463, 1, none⟩ = some (.slice A0_1 l0_1.length c0_1) := (blk_cell BK463.out 1).trans rfl; have hcz33_2 : w32.cell? ⟨gb463, 2, none⟩ = some (.string a0_2) := (blk_cell BK463.out 2).trans rfl; have hcz33_3 : w32.cell? ⟨gb463, 3, none⟩ = some (.slice A0_3 l0_3.length c0_3) := (blk_cell BK463.out 3).trans rfl; have hcz33_4 : w32.cell? ⟨gb463, 4, none⟩ = some (.slice A0_4 l0_4.length c0_4) := (blk_cell BK463.out 4).trans rfl; have hcz33_5 : w32.cell? ⟨gb463, 5, none⟩ = some (.slice A0_5 l0_5.length c0_5) := (blk_cell BK463.out 5).trans rfl; have hfz33_0 := blk_frozen BK463.out 0; have hfz33_1 := blk_frozen BK463.out 1; have hfz33_2 := blk_frozen BK463.out 2; have hfz33_3 := blk_frozen BK463.out 3; have hfz33_4 := blk_frozen BK463.out 4; have hfz33_5 := blk_frozen BK463.out 5) | (go_at_call 17; (with_reducible refine (flow_Reached.calls a0_0 _ _ l0_1 a0_2 _ _ l0_3 _ _ l0_4 _ _ l0_5 t469 _ ?side1 ?side2 ?side3 ?side4 ?side5 ?side6 ?side7 ?side8 A11.out).mono ?_); (case side1 => repeat (first | exact (Kd.C_below HR0_1.out HB.out) | (with_reducible refine Kd.C_alloc ?_ _) | (with_reducible refine Kd.C_drewN ?_ _) | (with_reducible refine Kd.C_drew ?_))); (case side2 => exact HC0_1.out); (case side3 => repeat (first | exact (Kd.C_below HR0_3.out HB.out) | (with_reducible refine Kd.C_alloc ?_ _) | (with_reducible refine Kd.C_drewN ?_ _) | (with_reducible refine Kd.C_drew ?_))); (case side4 => exact HC0_3.out); (case side5 => repeat (first | exact (Kd.C_below HR0_4.out HB.out) | (with_reducible refine Kd.C_alloc ?_ _) | (with_reducible refine Kd.C_drewN ?_ _) | (with_reducible refine Kd.C_drew ?_))); (case side6 => exact HC0_4.out); (case side7 => repeat (first | exact (Kd.C_below HR0_5.out HB.out) | (with_reducible refine Kd.C_alloc ?_ _) | (with_reducible refine Kd.C_drewN ?_ _) | (with_reducible refine Kd.C_drew ?_))); (case side8 => exact HC0_5.out); rintro e w34 ⟨v470, rfl, ho0, hb⟩; have n0_ := Aside0.mk (Kd.R_below (by (with_reducible repeat (first | apply Kd.R_alloc | apply Kd.R_drewN | apply Kd.R_drew)); exact HO468.out) hb); have n1_ := Aside0.mk (Kd.R_lower ho0 (below_size (by repeat (first | (with_reducible first | exact HB.out | apply below_alloc | apply pw_below_drewN | apply below_drew1 | refine below_set ?_ GE463.out) | exact HB.out)))); have n2_ := Aside0.mk (blk_below (g := gb463) (o := .cells #[.string a0_0, .slice A0_1 l0_1.length c0_1, .string a0_2, .slice A0_3 l0_3.length c0_3, .slice A0_4 l0_4.length c0_4, .slice A0_5 l0_5.length c0_5] 26 (0, 0)) (by (with_reducible repeat (first | refine blk_drewN ?_ _ | refine blk_drew ?_ | refine blk_alloc ?_ _)); exact BK463.out) hb); have n3_ := Aside0.mk (below_step (by repeat (first | (with_reducible first | exact HB.out | apply below_alloc | apply pw_below_drewN | apply below_drew1 | refine below_set ?_ GE463.out) | exact HB.out)) hb); clear HO468; clear BK463; clear HB; have HO468 := n0_; have HO471 := n1_; have BK463 := n2_; have HB := n3_; clear n0_ n1_ n2_ n3_; (try clear hb); (try clear hb2); (try clear hk); (try clear hi); (try clear ho0); have hcz35_0 : w34.cell? ⟨gb463, 0, none⟩ = some (.string a0_0) := (blk_cell BK463.out 0).trans rfl; have hcz35_1 : w34.cell? ⟨gb463, 1, none⟩ = some (.slice A0_1 l0_1.length c0_1) := (blk_cell BK463.out 1).trans rfl; have hcz35_2 : w34.cell? ⟨gb463, 2, none⟩ = some (.string a0_2) := (blk_cell BK463.out 2).trans rfl; have hcz35_3 : w34.cell? ⟨gb463, 3, none⟩ = some (.slice A0_3 l0_3.length c0_3) := (blk_cell BK463.out 3).trans rfl; have hcz35_4 : w34.cell? ⟨gb463, 4, none⟩ = some (.slice A0_4 l0_4.length c0_4) := (blk_cell BK463.out 4).trans rfl; have hcz35_5 : w34.cell? ⟨gb463, 5, none⟩ = some (.slice A0_5 l0_5.length c0_5) := (blk_cell BK463.out 5).trans rfl; have hfz35_0 := blk_frozen BK463.out 0; have hfz35_1 := blk_frozen BK463.out 1; have hfz35_2 := blk_frozen BK463.out 2; have hfz35_3 := blk_frozen BK463.out 3; have hfz35_4 := blk_frozen BK463.out 4; have hfz35_5 := blk_frozen BK463.out 5) | (go_at_call 16; (with_reducible refine (flow_Ahead.calls k a0_0 _ _ l0_1 a0_2 _ _ l0_3 _ _ l0_4 _ _ l0_5 t472 _ ?side1 ?side2 ?side3 ?side4 ?side5 ?side6 ?side7 ?side8 A12.out).mono ?_); (case side1 => repeat (first | exact (Kd.C_below HR0_1.out HB.out) | (with_reducible refine Kd.C_alloc ?_ _) | (with_reducible refine Kd.C_drewN ?_ _) | (with_reducible refine Kd.C_drew ?_))); (case side2 => exact HC0_1.out); (case side3 => repeat (first | exact (Kd.C_below HR0_3.out HB.out) | (with_reducible refine Kd.C_alloc ?_ _) | (with_reducible refine Kd.C_drewN ?_ _) | (with_reducible refine Kd.C_drew ?_))); (case side4 => exact HC0_3.out); (case side5 => repeat (first | exact (Kd.C_below HR0_4.out HB.out) | (with_reducible refine Kd.C_alloc ?_ _) | (with_reducible refine Kd.C_drewN ?_ _) | (with_reducible refine Kd.C_drew ?_))); (case side6 => exact HC0_4.out); (case side7 => repeat (first | exact (Kd.C_below HR0_5.out HB.out) | (with_reducible refine Kd.C_alloc ?_ _) | (with_reducible refine Kd.C_drewN ?_ _) | (with_reducible refine Kd.C_drew ?_))); (case side8 => exact HC0_5.out); rintro e w36 ⟨v473, rfl, ho0, hb⟩; have n0_ := Aside0.mk (Kd.R_below (by (with_reducible repeat (first | apply Kd.R_alloc | apply Kd.R_drewN | apply Kd.R_drew)); exact HO468.out) hb); have n1_ := Aside0.mk (Kd.R_below (by (with_reducible repeat (first | apply Kd.R_alloc | apply Kd.R_drewN | apply Kd.R_drew)); exact HO471.out) hb); have n2_ := Aside0.mk (Kd.S_lower (Kd.S_new' ho0 (Kd.R_lt (by (with_reducible repeat (first | apply Kd.R_alloc | apply Kd.R_drewN | apply Kd.R_drew)); exact HO468.out))) (below_size (by repeat (first | (with_reducible first | exact HB.out | apply below_alloc | apply pw_below_drewN | apply below_drew1 | refine below_set ?_ GE463.out) | exact HB.out)))); have n3_ := Aside0.mk (blk_below (g := gb463) (o := .cells #[.string a0_0, .slice A0_1 l0_1.length c0_1, .string a0_2, .slice A0_3 l0_3.length c0_3, .slice A0_4 l0_4.length c0_4, .slice A0_5 l0_5.length c0_5] 26 (0, 0)) (by (with_reducible repeat (first | refine blk_drewN ?_ _ | refine blk_drew ?_ | refine blk_alloc ?_ _)); exact BK463.out) hb); have n4_ := Aside0.mk (below_step (by repeat (first | (with_reducible first | exact HB.out | apply below_alloc | apply pw_below_drewN | apply below_drew1 | refine below_set ?_ GE463.out) | exact HB.out)) hb); clear HO468; clear HO471; clear BK463; clear HB; have HO468 := n0_; have HO471 := n1_; have HO474 := n2_; have BK463 := n3_; have HB := n4_; clear n0_ n1_ n2_ n3_ n4_; (try clear hb); (try clear hb2); (try clear hk); (try clear hi); (try clear ho0); have hcz37_0 : w36.cell? ⟨gb463, 0, none⟩ = some (.string a0_0) := (blk_cell BK463.out 0).trans rfl; have hcz37_1 : w36.cell? ⟨gb463, 1, none⟩ = some (.slice A0_1 l0_1.length c0_1) := (blk_cell BK463.out 1).trans rfl; have hcz37_2 : w36.cell? ⟨gb463, 2, none⟩ = some (.string a0_2) := (blk_cell BK463.out 2).trans rfl; have hcz37_3 : w36.cell? ⟨gb463, 3, none⟩ = some (.slice A0_3 l0_3.length c0_3) := (blk_cell BK463.out 3).trans rfl; have hcz37_4 : w36.cell? ⟨gb463, 4, none⟩ = some (.slice A0_4 l0_4.length c0_4) := (blk_cell BK463.out 4).trans rfl; have hcz37_5 : w36.cell? ⟨gb463, 5, none⟩ = some (.slice A0_5 l0_5.length c0_5) := (blk_cell BK463.out 5).trans rfl; have hfz37_0 := blk_frozen BK463.out 0; have hfz37_1 := blk_frozen BK463.out 1; have hfz37_2 := blk_frozen BK463.out 2; have hfz37_3 := blk_frozen BK463.out 3; have hfz37_4 := blk_frozen BK463.out 4; have hfz37_5 := blk_frozen BK463.out 5)); go_upto_region 10 with (first | ((with_reducible refine gate_dst (N := 1) rfl ?_); (try (refine gate_guard (by rfl) ?_; dsimp only)); refine box_event ?hg (N := 1) ?hd (cs := #[.string a0_0, .slice A0_1 l0_1.length c0_1, .string a0_2, .slice A0_3 l0_3.length c0_3, .slice A0_4 l0_4.length c0_4, .slice A0_5 l0_5.length c0_5]) (t := 26) ?hr ?_; (case hd => rfl); (case hg => rfl); (case hr => first | (go_simp; done) | (go_simp; rfl)); intro gb463 hg w27 hbox hb; have n0_ := Aside0.mk (below_step (by repeat (first | (with_reducible first | exact HB.out | apply below_alloc | apply pw_below_drewN | apply below_drew1) | exact HB.out)) hb); have n1_ := Aside0.mk (hbox); have n2_ := Aside0.mk ((by rw [hg]; exact (below_size (by repeat (first | (with_reducible first | exact HB.out | apply below_alloc | apply pw_below_drewN | apply below_drew1) | exact HB.out))) : w.heap.size ≤ gb463)); have n3_ := Aside0.mk ((by rw [hg]; exact (below_size (by repeat (first | (with_reducible first | exact HB.out | apply below_alloc | apply pw_below_drewN | apply below_drew1) | exact HB.out))) : w.heap.size ≤ gb463)); clear HB; have HB := n0_; have BK463 := n1_; have GW463 := n2_; have GE463 := n3_; clear n0_ n1_ n2_ n3_; clear hb hbox hg) | (go_at_call 14; (with_reducible refine (truantlaw09_awake.calls k  true _ A2.out).mono ?_); rintro e w28 ⟨rfl, hb⟩; have n0_ := Aside0.mk (blk_below (g := gb463) (o := .cells #[.string a0_0, .slice A0_1 l0_1.length c0_1, .string a0_2, .slice A0_3 l0_3.length c0_3, .slice A0_4 l0_4.length c0_4, .slice A0_5 l0_5.length c0_5] 26 (0, 0)) (by (with_reducible repeat (first | refine blk_drewN ?_ _ | refine blk_drew ?_ | refine blk_alloc ?_ _)); exact BK463.out) hb); have n1_ := Aside0.mk (below_step (by repeat (first | (with_reducible first | exact HB.out | apply below_alloc | apply pw_below_drewN | apply below_drew1 | refine below_set ?_ GE463.out) | exact HB.out)) hb); clear BK463; clear HB; have BK463 := n0_; have HB := n1_; clear n0_ n1_; (try clear hb); (try clear hb2); (try clear hk); (try clear hi); have hcz29_0 : w28.cell? ⟨gb463, 0, none⟩ = some (.string a0_0) := (blk_cell BK463.out 0).trans rfl; have hcz29_1 : w28.cell? ⟨gb463, 1, none⟩ = some (.slice A0_1 l0_1.length c0_1) := (blk_cell BK463.out 1).trans rfl; have hcz29_2 : w28.cell? ⟨gb463, 2, none⟩ = some (.string a0_2) := (blk_cell BK463.out 2).trans rfl; have hcz29_3 : w28.cell? ⟨gb463, 3, none⟩ = some (.slice A0_3 l0_3.length c0_3) := (blk_cell BK463.out 3).trans rfl; have hcz29_4 : w28.cell? ⟨gb463, 4, none⟩ = some (.slice A0_4 l0_4.length c0_4) := (blk_cell BK463.out 4).trans rfl; have hcz29_5 : w28.cell? ⟨gb463, 5, none⟩ = some (.slice A0_5 l0_5.length c0_5) := (blk_cell BK463.out 5).trans rfl; have hfz29_0 := blk_frozen BK463.out 0; have hfz29_1 := blk_frozen BK463.out 1; have hfz29_2 := blk_frozen BK463.out 2; have hfz29_3 := blk_frozen BK463.out 3; have hfz29_4 := blk_frozen BK463.out 4; have hfz29_5 := blk_frozen BK463.out 5) | (go_at_call 15; (with_reducible refine (truantlaw09_wide.calls k a0_0 _ _ l0_1 a0_2 _ _ l0_3 _ _ l0_4 _ _ l0_5 false _ ?side1 ?side2 ?side3 ?side4 ?side5 ?side6 ?side7 ?side8 A4.out).mono ?_); (case side1 => repeat (first | exact (Kd.C_below HR0_1.out HB.out) | (with_reducible refine Kd.C_alloc ?_ _) | (with_reducible refine Kd.C_drewN ?_ _) | (with_reducible refine Kd.C_drew ?_))); (case side2 => exact HC0_1.out); (case side3 => repeat (first | exact (Kd.C_below HR0_3.out HB.out) | (with_reducible refine Kd.C_alloc ?_ _) | (with_reducible refine Kd.C_drewN ?_ _) | (with_reducible refine Kd.C_drew ?_))); (case side4 => exact HC0_3.out); (case side5 => repeat (first | exact (Kd.C_below HR0_4.out HB.out) | (with_reducible refine Kd.C_alloc ?_ _) | (with_reducible refine Kd.C_drewN ?_ _) | (with_reducible refine Kd.C_drew ?_))); (case side6 => exact HC0_4.out); (case side7 => repeat (first | exact (Kd.C_below HR0_5.out HB.out) | (with_reducible refine Kd.C_alloc ?_ _) | (with_reducible refine Kd.C_drewN ?_ _) | (with_reducible refine Kd.C_drew ?_))); (case side8 => exact HC0_5.out); rintro e w30 ⟨rfl, hb⟩; have n0_ := Aside0.mk (blk_below (g := gb463) (o := .cells #[.string a0_0, .slice A0_1 l0_1.length c0_1, .string a0_2, .slice A0_3 l0_3.length c0_3, .slice A0_4 l0_4.length c0_4, .slice A0_5 l0_5.length c0_5] 26 (0, 0)) (by (with_reducible repeat (first | refine blk_drewN ?_ _ | refine blk_drew ?_ | refine blk_alloc ?_ _)); exact BK463.out) hb); have n1_ := Aside0.mk (below_step (by repeat (first | (with_reducible first | exact HB.out | apply below_alloc | apply pw_below_drewN | apply below_drew1 | refine below_set ?_ GE463.out) | exact HB.out)) hb); clear BK463; clear HB; have BK463 := n0_; have HB := n1_; clear n0_ n1_; (try clear hb); (try clear hb2); (try clear hk); (try clear hi); have hcz31_0 : w30.cell? ⟨gb463, 0, none⟩ = some (.string a0_0) := (blk_cell BK463.out 0).trans rfl; have hcz31_1 : w30.cell? ⟨gb463, 1, none⟩ = some (.slice A0_1 l0_1.length c0_1) := (blk_cell BK463.out 1).trans rfl; have hcz31_2 : w30.cell? ⟨gb463, 2, none⟩ = some (.string a0_2) := (blk_cell BK463.out 2).trans rfl; have hcz31_3 : w30.cell? ⟨gb463, 3, none⟩ = some (.slice A0_3 l0_3.length c0_3) := (blk_cell BK463.out 3).trans rfl; have hcz31_4 : w30.cell? ⟨gb463, 4, none⟩ = some (.slice A0_4 l0_4.length c0_4) := (blk_cell BK463.out 4).trans rfl; have hcz31_5 : w30.cell? ⟨gb463, 5, none⟩ = some (.slice A0_5 l0_5.length c0_5) := (blk_cell BK463.out 5).trans rfl; have hfz31_0 := blk_frozen BK463.out 0; have hfz31_1 := blk_frozen BK463.out 1; have hfz31_2 := blk_frozen BK463.out 2; have hfz31_3 := blk_frozen BK463.out 3; have hfz31_4 := blk_frozen BK463.out 4; have hfz31_5 := blk_frozen BK463.out 5) | (go_at_call 22; (with_reducible refine (flow_Order.calls a0_0 _ _ l0_1 a0_2 _ _ l0_3 _ _ l0_4 _ _ l0_5 t466 _ ?side1 ?side2 ?side3 ?side4 ?side5 ?side6 ?side7 ?side8 A10.out).mono ?_); (case side1 => repeat (first | exact (Kd.C_below HR0_1.out HB.out) | (with_reducible refine Kd.C_alloc ?_ _) | (with_reducible refine Kd.C_drewN ?_ _) | (with_reducible refine Kd.C_drew ?_))); (case side2 => exact HC0_1.out); (case side3 => repeat (first | exact (Kd.C_below HR0_3.out HB.out) | (with_reducible refine Kd.C_alloc ?_ _) | (with_reducible refine Kd.C_drewN ?_ _) | (with_reducible refine Kd.C_drew ?_))); (case side4 => exact HC0_3.out); (case side5 => repeat (first | exact (Kd.C_below HR0_4.out HB.out) | (with_reducible refine Kd.C_alloc ?_ _) | (with_reducible refine Kd.C_drewN ?_ _) | (with_reducible refine Kd.C_drew ?_))); (case side6 => exact HC0_4.out); (case side7 => repeat (first | exact (Kd.C_below HR0_5.out HB.out) | (with_reducible refine Kd.C_alloc ?_ _) | (with_reducible refine Kd.C_drewN ?_ _) | (with_reducible refine Kd.C_drew ?_))); (case side8 => exact HC0_5.out); rintro e w32 ⟨v467, rfl, ho0, hb⟩; have n0_ := Aside0.mk (Kd.R_lower ho0 (below_size (by repeat (first | (with_reducible first | exact HB.out | apply below_alloc | apply pw_below_drewN | apply below_drew1 | refine below_set ?_ GE463.out) | exact HB.out)))); have n1_ := Aside0.mk (blk_below (g := gb463) (o := .cells #[.string a0_0, .slice A0_1 l0_1.length c0_1, .string a0_2, .slice A0_3 l0_3.length c0_3, .slice A0_4 l0_4.length c0_4, .slice A0_5 l0_5.length c0_5] 26 (0, 0)) (by (with_reducible repeat (first | refine blk_drewN ?_ _ | refine blk_drew ?_ | refine blk_alloc ?_ _)); exact BK463.out) hb); have n2_ := Aside0.mk (below_step (by repeat (first | (with_reducible first | exact HB.out | apply below_alloc | apply pw_below_drewN | apply below_drew1 | refine below_set ?_ GE463.out) | exact HB.out)) hb); clear BK463; clear HB; have HO468 := n0_; have BK463 := n1_; have HB := n2_; clear n0_ n1_ n2_; (try clear hb); (try clear hb2); (try clear hk); (try clear hi); (try clear ho0); have hcz33_0 : w32.cell? ⟨gb463, 0, none⟩ = some (.string a0_0) := (blk_cell BK463.out 0).trans rfl; have hcz33_1 : w32.cell? ⟨gb463, 1, none⟩ = some (.slice A0_1 l0_1.length c0_1) := (blk_cell BK463.out 1).trans rfl; have hcz33_2 : w32.cell? ⟨gb463, 2, none⟩ = some (.string a0_2) := (blk_cell BK463.out 2).trans rfl; have hcz33_3 : w32.cell? ⟨gb463, 3, none⟩ = some (.slice A0_3 l0_3.length c0_3) := (blk_cell BK463.out 3).trans rfl; have hcz33_4 : w32.cell? ⟨gb463, 4, none⟩ = some (.slice A0_4 l0_4.length c0_4) := (blk_cell BK463.out 4).trans rfl; have hcz33_5 : w32.cell? ⟨gb463, 5, none⟩ = some (.slice A0_5 l0_5.length c0_5) := (blk_cell BK463.out 5).trans rfl; have hfz33_0 := blk_frozen BK463.out 0; have hfz33_1 := blk_frozen BK463.out 1; have hfz33_2 := blk_frozen BK463.out 2; have hfz33_3 := blk_frozen BK463.out 3; have hfz33_4 := blk_frozen BK463.out 4; have hfz33_5 := blk_frozen BK463.out 5) | (go_at_call 17; (with_reducible refine (flow_Reached.calls a0_0 _ _ l0_1 a0_2 _ _ l0_3 _ _ l0_4 _ _ l0_5 t469 _ ?side1 ?side2 ?side3 ?side4 ?side5 ?side6 ?side7 ?side8 A11.out).mono ?_); (case side1 => repeat (first | exact (Kd.C_below HR0_1.out HB.out) | (with_reducible refine Kd.C_alloc ?_ _) | (with_reducible refine Kd.C_drewN ?_ _) | (with_reducible refine Kd.C_drew ?_))); (case side2 => exact HC0_1.out); (case side3 => repeat (first | exact (Kd.C_below HR0_3.out HB.out) | (with_reducible refine Kd.C_alloc ?_ _) | (with_reducible refine Kd.C_drewN ?_ _) | (with_reducible refine Kd.C_drew ?_))); (case side4 => exact HC0_3.out); (case side5 => repeat (first | exact (Kd.C_below HR0_4.out HB.out) | (with_reducible refine Kd.C_alloc ?_ _) | (with_reducible refine Kd.C_drewN ?_ _) | (with_reducible refine Kd.C_drew ?_))); (case side6 => exact HC0_4.out); (case side7 => repeat (first | exact (Kd.C_below HR0_5.out HB.out) | (with_reducible refine Kd.C_alloc ?_ _) | (with_reducible refine Kd.C_drewN ?_ _) | (with_reducible refine Kd.C_drew ?_))); (case side8 => exact HC0_5.out); rintro e w34 ⟨v470, rfl, ho0, hb⟩; have n0_ := Aside0.mk (Kd.R_below (by (with_reducible repeat (first | apply Kd.R_alloc | apply Kd.R_drewN | apply Kd.R_drew)); exact HO468.out) hb); have n1_ := Aside0.mk (Kd.R_lower ho0 (below_size (by repeat (first | (with_reducible first | exact HB.out | apply below_alloc | apply pw_below_drewN | apply below_drew1 | refine below_set ?_ GE463.out) | exact HB.out)))); have n2_ := Aside0.mk (blk_below (g := gb463) (o := .cells #[.string a0_0, .slice A0_1 l0_1.length c0_1, .string a0_2, .slice A0_3 l0_3.length c0_3, .slice A0_4 l0_4.length c0_4, .slice A0_5 l0_5.length c0_5] 26 (0, 0)) (by (with_reducible repeat (first | refine blk_drewN ?_ _ | refine blk_drew ?_ | refine blk_alloc ?_ _)); exact BK463.out) hb); have n3_ := Aside0.mk (below_step (by repeat (first | (with_reducible first | exact HB.out | apply below_alloc | apply pw_below_drewN | apply below_drew1 | refine below_set ?_ GE463.out) | exact HB.out)) hb); clear HO468; clear BK463; clear HB; have HO468 := n0_; have HO471 := n1_; have BK463 := n2_; have HB := n3_; clear n0_ n1_ n2_ n3_; (try clear hb); (try clear hb2); (try clear hk); (try clear hi); (try clear ho0); have hcz35_0 : w34.cell? ⟨gb463, 0, none⟩ = some (.string a0_0) := (blk_cell BK463.out 0).trans rfl; have hcz35_1 : w34.cell? ⟨gb463, 1, none⟩ = some (.slice A0_1 l0_1.length c0_1) := (blk_cell BK463.out 1).trans rfl; have hcz35_2 : w34.cell? ⟨gb463, 2, none⟩ = some (.string a0_2) := (blk_cell BK463.out 2).trans rfl; have hcz35_3 : w34.cell? ⟨gb463, 3, none⟩ = some (.slice A0_3 l0_3.length c0_3) := (blk_cell BK463.out 3).trans rfl; have hcz35_4 : w34.cell? ⟨gb463, 4, none⟩ = some (.slice A0_4 l0_4.length c0_4) := (blk_cell BK463.out 4).trans rfl; have hcz35_5 : w34.cell? ⟨gb463, 5, none⟩ = some (.slice A0_5 l0_5.length c0_5) := (blk_cell BK463.out 5).trans rfl; have hfz35_0 := blk_frozen BK463.out 0; have hfz35_1 := blk_frozen BK463.out 1; have hfz35_2 := blk_frozen BK463.out 2; have hfz35_3 := blk_frozen BK463.out 3; have hfz35_4 := blk_frozen BK463.out 4; have hfz35_5 := blk_frozen BK463.out 5) | (go_at_call 16; (with_reducible refine (flow_Ahead.calls k a0_0 _ _ l0_1 a0_2 _ _ l0_3 _ _ l0_4 _ _ l0_5 t472 _ ?side1 ?side2 ?side3 ?side4 ?side5 ?side6 ?side7 ?side8 A12.out).mono ?_); (case side1 => repeat (first | exact (Kd.C_below HR0_1.out HB.out) | (with_reducible refine Kd.C_alloc ?_ _) | (with_reducible refine Kd.C_drewN ?_ _) | (with_reducible refine Kd.C_drew ?_))); (case side2 => exact HC0_1.out); (case side3 => repeat (first | exact (Kd.C_below HR0_3.out HB.out) | (with_reducible refine Kd.C_alloc ?_ _) | (with_reducible refine Kd.C_drewN ?_ _) | (with_reducible refine Kd.C_drew ?_))); (case side4 => exact HC0_3.out); (case side5 => repeat (first | exact (Kd.C_below HR0_4.out HB.out) | (with_reducible refine Kd.C_alloc ?_ _) | (with_reducible refine Kd.C_drewN ?_ _) | (with_reducible refine Kd.C_drew ?_))); (case side6 => exact HC0_4.out); (case side7 => repeat (first | exact (Kd.C_below HR0_5.out HB.out) | (with_reducible refine Kd.C_alloc ?_ _) | (with_reducible refine Kd.C_drewN ?_ _) | (with_reducible refine Kd.C_drew ?_))); (case side8 => exact HC0_5.out); rintro e w36 ⟨v473, rfl, ho0, hb⟩; have n0_ := Aside0.mk (Kd.R_below (by (with_reducible repeat (first | apply Kd.R_alloc | apply Kd.R_drewN | apply Kd.R_drew)); exact HO468.out) hb); have n1_ := Aside0.mk (Kd.R_below (by (with_reducible repeat (first | apply Kd.R_alloc | apply Kd.R_drewN | apply Kd.R_drew)); exact HO471.out) hb); have n2_ := Aside0.mk (Kd.S_lower (Kd.S_new' ho0 (Kd.R_lt (by (with_reducible repeat (first | apply Kd.R_alloc | apply Kd.R_drewN | apply Kd.R_drew)); exact HO468.out))) (below_size (by repeat (first | (with_reducible first | exact HB.out | apply below_alloc | apply pw_below_drewN | apply below_drew1 | refine below_set ?_ GE463.out) | exact HB.out)))); have n3_ := Aside0.mk (blk_below (g := gb463) (o := .cells #[.string a0_0, .slice A0_1 l0_1.length c0_1, .string a0_2, .slice A0_3 l0_3.length c0_3, .slice A0_4 l0_4.length c0_4, .slice A0_5 l0_5.length c0_5] 26 (0, 0)) (by (with_reducible repeat (first | refine blk_drewN ?_ _ | refine blk_drew ?_ | refine blk_alloc ?_ _)); exact BK463.out) hb); have n4_ := Aside0.mk (below_step (by repeat (first | (with_reducible first | exact HB.out | apply below_alloc | apply pw_below_drewN | apply below_drew1 | refine below_set ?_ GE463.out) | exact HB.out)) hb); clear HO468; clear HO471; clear BK463; clear HB; have HO468 := n0_; have HO471 := n1_; have HO474 := n2_; have BK463 := n3_; have HB := n4_; clear n0_ n1_ n2_ n3_ n4_; (try clear hb); (try clear hb2); (try clear hk); (try clear hi); (try clear ho0); have hcz37_0 : w36.cell? ⟨gb463, 0, none⟩ = some (.string a0_0) := (blk_cell BK463.out 0).trans rfl; have hcz37_1 : w36.cell? ⟨gb463, 1, none⟩ = some (.slice A0_1 l0_1.length c0_1) := (blk_cell BK463.out 1).trans rfl; have hcz37_2 : w36.cell? ⟨gb463, 2, none⟩ = some (.string a0_2) := (blk_cell BK463.out 2).trans rfl; have hcz37_3 : w36.cell? ⟨gb463, 3, none⟩ = some (.slice A0_3 l0_3.length c0_3) := (blk_cell BK463.out 3).trans rfl; have hcz37_4 : w36.cell? ⟨gb463, 4, none⟩ = some (.slice A0_4 l0_4.length c0_4) := (blk_cell BK463.out 4).trans rfl; have hcz37_5 : w36.cell? ⟨gb463, 5, none⟩ = some (.slice A0_5 l0_5.length c0_5) := (blk_cell BK463.out 5).trans rfl; have hfz37_0 := blk_frozen BK463.out 0; have hfz37_1 := blk_frozen BK463.out 1; have hfz37_2 := blk_frozen BK463.out 2; have hfz37_3 := blk_frozen BK463.out 3; have hfz37_4 := blk_frozen BK463.out 4; have hfz37_5 := blk_frozen BK463.out 5)))
 (try simp only [Act.put, List.setIfInBounds_toArray, List.set_cons_zero, List.set_cons_succ])
 go_cut [38] (fun v38 wc => ∃ (kq : Nat) (x38_25 : Bool), v38 = .bool x38_25 ∧ Aside0 (truantlaw09_FlowOrder.j0 kq t466 t469 t472 x38_25 a0_0 l0_1 a0_2 l0_3 l0_4 l0_5 = some r) ∧ Aside0 (kq ≤ k) ∧ Aside0 (Kd.R (Kd.int .i64) 3 wc w.heap.size (fun _ => True) v467 t466) ∧ Aside0 (Kd.R Kd.bool 4 wc w.heap.size (fun _ => True) v470 t469) ∧ Aside0 (Kd.S (Kd.slice 3 (Kd.int .i64)) 34 wc w.heap.size (fun k_ => some k_ ≠ (v467 : Value).ownBlock) v473 t472) ∧ Aside0 (wc.heap[gb463]? = some (.cells #[.string a0_0, (.slice A0_1 l0_1.length c0_1), .string a0_2, (.slice A0_3 l0_3.length c0_3), (.slice A0_4 l0_4.length c0_4), (.slice A0_5 l0_5.length c0_5)] 26 (0, 0))) ∧ Aside0 (Below w.heap.size w wc))
 case first =>
  have H := HC26.out
  clear HC26
  by_cases c38 : (t466.length : Int) = 0
  ·rw [if_pos c38] at H
   have c38b0 : ((t466.length : Int) == 0) = true := beq_iff_eq.mpr c38
   have c38b1 : ((t466.length : Int) != 0) = false := bne_eq_false_iff_eq.mpr c38
   clear c38
   (first | rw [c38b0] | (simp only [i64_w, i32_w]; rw [c38b0]) | skip)
   have H' := Aside0.mk H
   clear H
   obtain ⟨Ao39, co39, eo39⟩ := Kd.R_slice HO468.out
   subst eo39
   go_wp2
   repeat (go_quiet (fail); try go_wp2)
   go_meet
   case rel => exact ⟨_, (true), (by first | rfl | (simp; done) | (simp [*]; done)), H', ⟨by first | omega | exact Nat.le_refl _⟩, ⟨by (with_reducible repeat (first | apply Kd.R_alloc | apply Kd.R_drewN | apply Kd.R_drew)); exact HO468.out⟩, ⟨by (with_reducible repeat (first | apply Kd.R_alloc | apply Kd.R_drewN | apply Kd.R_drew)); exact HO471.out⟩, ⟨by (with_reducible repeat (first | apply Kd.S_alloc | apply Kd.S_drewN | apply Kd.S_drew)); exact Kd.S_mono HO474.out (fun _ hk => hk.2)⟩, ⟨by (with_reducible repeat (first | refine blk_drewN ?_ _ | refine blk_drew ?_ | refine blk_alloc ?_ _)); exact BK463.out⟩, ⟨by repeat (first | (with_reducible first | exact HB.out | apply below_alloc | apply pw_below_drewN | apply below_drew1 | refine below_set ?_ GE463.out) | exact HB.out)⟩⟩
  rw [if_neg c38] at H
  have c38b0 : ((t466.length : Int) == 0) = false := beq_eq_false_iff_ne.mpr c38
  have c38b1 : ((t466.length : Int) != 0) = true := bne_iff_ne.mpr c38
  have c38b2 : ¬ (t466 = []) := fun h_ => c38 (by rw [h_]; rfl)
  (first | rw [c38b0] | (simp only [i64_w, i32_w]; rw [c38b0]) | skip)
  by_cases c40 : 0 < (t466.length : Int)
  rotate_left
  ·rw [if_neg c40] at H
   exact absurd H (by simp)
  rw [if_pos c40] at H
  have c40b0 : decide (0 < (t466.length : Int)) = true := decide_eq_true c40
  have c40b1 : decide (0 < t466.length) = true := decide_eq_true (by omega)
  clear c40
  have H' := Aside0.mk H
  clear H
  obtain ⟨Ao41, co41, eo41⟩ := Kd.R_slice HO468.out
  subst eo41
  have p475 : 0 ≤ (0 : Int) := (by omega)
  have q475 : 0 < (t466.length : Int) := of_decide_eq_true (by first | (with_reducible assumption) | assumption)
  obtain ⟨ad475, e475, hx475_0⟩ := Kd.at_int (Kd.R_reads' HO468.out).2.2 0 p475 q475
  cases e475
  have qi475 : (0 < t466.length) = True := eq_true (by omega)
  (try rw [show ((0 : Int)).toNat = 0 from rfl] at hx475_0)
  (try rw [Addr.add_zero'] at hx475_0)
  replace p475 := eq_true p475
  replace q475 := eq_true q475
  go_wp2
  repeat (go_quiet (fail); try go_wp2)
  go_meet
  case rel => exact ⟨_, (((rd t466 0) != 0)), (by first | rfl | (simp; done) | (simp [*]; done)), H', ⟨by first | omega | exact Nat.le_refl _⟩, ⟨by (with_reducible repeat (first | apply Kd.R_alloc | apply Kd.R_drewN | apply Kd.R_drew)); exact HO468.out⟩, ⟨by (with_reducible repeat (first | apply Kd.R_alloc | apply Kd.R_drewN | apply Kd.R_drew)); exact HO471.out⟩, ⟨by (with_reducible repeat (first | apply Kd.S_alloc | apply Kd.S_drewN | apply Kd.S_drew)); exact Kd.S_mono HO474.out (fun _ hk => hk.2)⟩, ⟨by (with_reducible repeat (first | refine blk_drewN ?_ _ | refine blk_drew ?_ | refine blk_alloc ?_ _)); exact BK463.out⟩, ⟨by repeat (first | (with_reducible first | exact HB.out | apply below_alloc | apply pw_below_drewN | apply below_drew1 | refine below_set ?_ GE463.out) | exact HB.out)⟩⟩
 case rest =>
  clear HC26
  try clear c1
  try clear p2
  try clear c3
  try clear c4
  try clear p4
  try clear q4
  try clear hx4
  try clear qi4
  try clear c5
  try clear c13
  try clear c13b0
  try clear c13b1
  try clear c13b2
  try clear c38
  try clear c38b0
  try clear c38b1
  try clear c38b2
  try clear c40
  try clear c40b0
  try clear c40b1
  try clear hcz16_0
  try clear hcz16_1
  try clear hcz16_2
  try clear hcz16_3
  try clear hcz16_4
  try clear hcz16_5
  try clear hcz18_0
  try clear hcz18_1
  try clear hcz18_2
  try clear hcz18_3
  try clear hcz18_4
  try clear hcz18_5
  try clear hcz20_0
  try clear hcz20_1
  try clear hcz20_2
  try clear hcz20_3
  try clear hcz20_4
  try clear hcz20_5
  try clear hcz22_0
  try clear hcz22_1
  try clear hcz22_2
  try clear hcz22_3
  try clear hcz22_4
  try clear hcz22_5
  try clear hcz24_0
  try clear hcz24_1
  try clear hcz24_2
  try clear hcz24_3
  try clear hcz24_4
  try clear hcz24_5
  try clear hcz29_0
  try clear hcz29_1
  try clear hcz29_2
  try clear hcz29_3
  try clear hcz29_4
  try clear hcz29_5
  try clear hcz31_0
  try clear hcz31_1
  try clear hcz31_2
  try clear hcz31_3
  try clear hcz31_4
  try clear hcz31_5
  try clear hcz33_0
  try clear hcz33_1
  try clear hcz33_2
  try clear hcz33_3
  try clear hcz33_4
  try clear hcz33_5
  try clear hcz35_0
  try clear hcz35_1
  try clear hcz35_2
  try clear hcz35_3
  try clear hcz35_4
  try clear hcz35_5
  try clear hcz37_0
  try clear hcz37_1
  try clear hcz37_2
  try clear hcz37_3
  try clear hcz37_4
  try clear hcz37_5
  try clear hcz8_0
  try clear hcz8_1
  try clear hcz8_2
  try clear hcz8_3
  try clear hcz8_4
  try clear hcz8_5
  try clear hfz16_0
  try clear hfz16_1
  try clear hfz16_2
  try clear hfz16_3
  try clear hfz16_4
  try clear hfz16_5
  try clear hfz18_0
  try clear hfz18_1
  try clear hfz18_2
  try clear hfz18_3
  try clear hfz18_4
  try clear hfz18_5
  try clear hfz20_0
  try clear hfz20_1
  try clear hfz20_2
  try clear hfz20_3
  try clear hfz20_4
  try clear hfz20_5
  try clear hfz22_0
  try clear hfz22_1
  try clear hfz22_2
  try clear hfz22_3
  try clear hfz22_4
  try clear hfz22_5
  try clear hfz24_0
  try clear hfz24_1
  try clear hfz24_2
  try clear hfz24_3
  try clear hfz24_4
  try clear hfz24_5
  try clear hfz29_0
  try clear hfz29_1
  try clear hfz29_2
  try clear hfz29_3
  try clear hfz29_4
  try clear hfz29_5
  try clear hfz31_0
  try clear hfz31_1
  try clear hfz31_2
  try clear hfz31_3
  try clear hfz31_4
  try clear hfz31_5
  try clear hfz33_0
  try clear hfz33_1
  try clear hfz33_2
  try clear hfz33_3
  try clear hfz33_4
  try clear hfz33_5
  try clear hfz35_0
  try clear hfz35_1
  try clear hfz35_2
  try clear hfz35_3
  try clear hfz35_4
  try clear hfz35_5
  try clear hfz37_0
  try clear hfz37_1
  try clear hfz37_2
  try clear hfz37_3
  try clear hfz37_4
  try clear hfz37_5
  try clear hfz8_0
  try clear hfz8_1
  try clear hfz8_2
  try clear hfz8_3
  try clear hfz8_4
  try clear hfz8_5
  try clear hx475_0
  try clear p475
  try clear q475
  obtain ⟨kq, x38_25, rfl, HA, HJ25, HO_3, HO_4, HO_5, BK463, HB⟩ := hcut
  cases kq with
  | zero => exact absurd HA.out (by simp [truantlaw09_FlowOrder.j0])
  | succ kj25 =>
   have H := HA.out
   clear HA
   simp only [truantlaw09_FlowOrder.j0] at H
   by_cases c42 : x38_25 = true
   ·subst c42
    have H1 : (none) = some r := by rw [if_pos rfl] at H; exact H
    clear H
    have H := H1
    clear H1
    exact absurd H (by simp)
   replace c42 := Bool.eq_false_iff.mpr c42
   subst c42
   have H1 : (if 0 ≤ (l0_5.length : Int) then (if ((l0_5.length : Int) : Int).toNat ≤ 35184372088832 then (truantlaw09_FlowOrder.l0 kj25 t466 t469 t472 (List.replicate ((l0_5.length : Int) : Int).toNat 0) 0 a0_0 l0_1 a0_2 l0_3 l0_4 l0_5) else (none)) else (none)) = some r := by rw [if_neg (show ¬ (false = true) by decide)] at H; exact H
   clear H
   have H := H1
   clear H1
   by_cases c43 : 0 ≤ (l0_5.length : Int)
   rotate_left
   ·rw [if_neg c43] at H
    exact absurd H (by simp)
   rw [if_pos c43] at H
   have c43b0 := eq_true c43
   have c43b1 : decide (0 ≤ (l0_5.length : Int)) = true := decide_eq_true c43
   clear c43
   by_cases c44 : ((l0_5.length : Int) : Int).toNat ≤ 35184372088832
   rotate_left
   ·rw [if_neg c44] at H
    exact absurd H (by simp)
   rw [if_pos c44] at H
   have c44b0 := eq_true c44
   have c44b1 : decide (((l0_5.length : Int) : Int).toNat ≤ 35184372088832) = true := decide_eq_true c44
   clear c44
   obtain ⟨y476, hy476⟩ : ∃ y_ : List Int, y_ = (List.replicate ((l0_5.length : Int) : Int).toNat 0) := ⟨_, rfl⟩
   replace H : (truantlaw09_FlowOrder.l0 kj25 t466 t469 t472 y476 0 a0_0 l0_1 a0_2 l0_3 l0_4 l0_5) = some r := by first | (rw [hy476]; with_reducible exact H) | (have H2_ := (Option.bind_some _ _).symm.trans H; rw [hy476]; with_reducible exact H2_) | (have H2_ := (Option.bind_some _ _).symm.trans H; with_reducible exact H2_) | with_reducible exact H | (rw [hy476]; exact H) | exact H
   have Ny476 := Aside0.mk hy476
   clear hy476
   have H' := Aside0.mk H
   clear H
   have hcz45_0 : wc.cell? ⟨gb463, 0, none⟩ = some (.string a0_0) := (blk_cell BK463.out 0).trans rfl
   have hcz45_1 : wc.cell? ⟨gb463, 1, none⟩ = some (.slice A0_1 l0_1.length c0_1) := (blk_cell BK463.out 1).trans rfl
   have hcz45_2 : wc.cell? ⟨gb463, 2, none⟩ = some (.string a0_2) := (blk_cell BK463.out 2).trans rfl
   have hcz45_3 : wc.cell? ⟨gb463, 3, none⟩ = some (.slice A0_3 l0_3.length c0_3) := (blk_cell BK463.out 3).trans rfl
   have hcz45_4 : wc.cell? ⟨gb463, 4, none⟩ = some (.slice A0_4 l0_4.length c0_4) := (blk_cell BK463.out 4).trans rfl
   have hcz45_5 : wc.cell? ⟨gb463, 5, none⟩ = some (.slice A0_5 l0_5.length c0_5) := (blk_cell BK463.out 5).trans rfl
   have hfz45_0 := blk_frozen BK463.out 0
   have hfz45_1 := blk_frozen BK463.out 1
   have hfz45_2 := blk_frozen BK463.out 2
   have hfz45_3 := blk_frozen BK463.out 3
   have hfz45_4 := blk_frozen BK463.out 4
   have hfz45_5 := blk_frozen BK463.out 5
   go_wp2_with (first | ((with_reducible refine gate_dst (N := 42) rfl ?_); (try (refine gate_guard (by rfl) ?_; dsimp only)); refine Kd.R_make (Kd.int .i64) _ 3 rfl (N := 42) rfl 34 _ _ rfl (l0_5.length : Int) rfl rfl Try.underlying34 (.int .i64 0) 8 info3 rfl (by decide) (by omega) 0 (ok := fun _ => True) (okp := fun _ => True) rfl (fun _ hk => hk) trivial (of_decide_eq_true (by first | (with_reducible assumption) | assumption)) (Nat.le_trans (Nat.mul_le_mul_right _ (of_decide_eq_true (by first | (with_reducible assumption) | assumption) : (l0_5.length : Int).toNat ≤ 35184372088832)) (by omega)) (Below.refl _ _) (Nat.le_refl _) ?_; intro v477 w46 ho47 hb hg_ hnew_; clear hg_ hnew_; (first | rw [← Ny476.out] at ho47 | (simp only [Int.reduceToNat] at ho47; rw [← Ny476.out] at ho47)); have n0_ := Aside0.mk (Kd.R_elder' (by (with_reducible repeat (first | apply Kd.R_alloc | apply Kd.R_drewN | apply Kd.R_drew)); exact HO_3.out) (Kd.R_base ho47) hb); have n1_ := Aside0.mk (Kd.R_below (by (with_reducible repeat (first | apply Kd.R_alloc | apply Kd.R_drewN | apply Kd.R_drew)); exact HO_4.out) hb); have n2_ := Aside0.mk (Kd.S_elder' (by (with_reducible repeat (first | apply Kd.S_alloc | apply Kd.S_drewN | apply Kd.S_drew)); exact HO_5.out) (Kd.R_base ho47) hb); have n3_ := Aside0.mk (Kd.R_lower (Kd.R_new' ho47 (Kd.R_lt (by (with_reducible repeat (first | apply Kd.R_alloc | apply Kd.R_drewN | apply Kd.R_drew)); exact HO_3.out))) (below_size (by repeat (first | (with_reducible first | exact HB.out | apply below_alloc | apply pw_below_drewN | apply below_drew1 | refine below_set ?_ GE463.out) | exact HB.out)))); have n4_ := Aside0.mk (blk_below (g := gb463) (o := .cells #[.string a0_0, .slice A0_1 l0_1.length c0_1, .string a0_2, .slice A0_3 l0_3.length c0_3, .slice A0_4 l0_4.length c0_4, .slice A0_5 l0_5.length c0_5] 26 (0, 0)) (by (with_reducible repeat (first | refine blk_drewN ?_ _ | refine blk_drew ?_ | refine blk_alloc ?_ _)); exact BK463.out) hb); have n5_ := Aside0.mk (below_step (by repeat (first | (with_reducible first | exact HB.out | apply below_alloc | apply pw_below_drewN | apply below_drew1 | refine below_set ?_ GE463.out) | exact HB.out)) hb); clear HO_3; clear HO_4; clear HO_5; clear BK463; clear HB; have HO_3 := n0_; have HO_4 := n1_; have HO_5 := n2_; have HO478 := n3_; have BK463 := n4_; have HB := n5_; clear n0_ n1_ n2_ n3_ n4_ n5_; clear hb ho47))
   repeat (go_quiet (first | ((with_reducible refine gate_dst (N := 42) rfl ?_); (try (refine gate_guard (by rfl) ?_; dsimp only)); refine Kd.R_make (Kd.int .i64) _ 3 rfl (N := 42) rfl 34 _ _ rfl (l0_5.length : Int) rfl rfl Try.underlying34 (.int .i64 0) 8 info3 rfl (by decide) (by omega) 0 (ok := fun _ => True) (okp := fun _ => True) rfl (fun _ hk => hk) trivial (of_decide_eq_true (by first | (with_reducible assumption) | assumption)) (Nat.le_trans (Nat.mul_le_mul_right _ (of_decide_eq_true (by first | (with_reducible assumption) | assumption) : (l0_5.length : Int).toNat ≤ 35184372088832)) (by omega)) (Below.refl _ _) (Nat.le_refl _) ?_; intro v477 w46 ho47 hb hg_ hnew_; clear hg_ hnew_; (first | rw [← Ny476.out] at ho47 | (simp only [Int.reduceToNat] at ho47; rw [← Ny476.out] at ho47)); have n0_ := Aside0.mk (Kd.R_elder' (by (with_reducible repeat (first | apply Kd.R_alloc | apply Kd.R_drewN | apply Kd.R_drew)); exact HO_3.out) (Kd.R_base ho47) hb); have n1_ := Aside0.mk (Kd.R_below (by (with_reducible repeat (first | apply Kd.R_alloc | apply Kd.R_drewN | apply Kd.R_drew)); exact HO_4.out) hb); have n2_ := Aside0.mk (Kd.S_elder' (by (with_reducible repeat (first | apply Kd.S_alloc | apply Kd.S_drewN | apply Kd.S_drew)); exact HO_5.out) (Kd.R_base ho47) hb); have n3_ := Aside0.mk (Kd.R_lower (Kd.R_new' ho47 (Kd.R_lt (by (with_reducible repeat (first | apply Kd.R_alloc | apply Kd.R_drewN | apply Kd.R_drew)); exact HO_3.out))) (below_size (by repeat (first | (with_reducible first | exact HB.out | apply below_alloc | apply pw_below_drewN | apply below_drew1 | refine below_set ?_ GE463.out) | exact HB.out)))); have n4_ := Aside0.mk (blk_below (g := gb463) (o := .cells #[.string a0_0, .slice A0_1 l0_1.length c0_1, .string a0_2, .slice A0_3 l0_3.length c0_3, .slice A0_4 l0_4.length c0_4, .slice A0_5 l0_5.length c0_5] 26 (0, 0)) (by (with_reducible repeat (first | refine blk_drewN ?_ _ | refine blk_drew ?_ | refine blk_alloc ?_ _)); exact BK463.out) hb); have n5_ := Aside0.mk (below_step (by repeat (first | (with_reducible first | exact HB.out | apply below_alloc | apply pw_below_drewN | apply below_drew1 | refine below_set ?_ GE463.out) | exact HB.out)) hb); clear HO_3; clear HO_4; clear HO_5; clear BK463; clear HB; have HO_3 := n0_; have HO_4 := n1_; have HO_5 := n2_; have HO478 := n3_; have BK463 := n4_; have HB := n5_; clear n0_ n1_ n2_ n3_ n4_ n5_; clear hb ho47)); try go_wp2_with (first | ((with_reducible refine gate_dst (N := 42) rfl ?_); (try (refine gate_guard (by rfl) ?_; dsimp only)); refine Kd.R_make (Kd.int .i64) _ 3 rfl (N := 42) rfl 34 _ _ rfl (l0_5.length : Int) rfl rfl Try.underlying34 (.int .i64 0) 8 info3 rfl (by decide) (by omega) 0 (ok := fun _ => True) (okp := fun _ => True) rfl (fun _ hk => hk) trivial (of_decide_eq_true (by first | (with_reducible assumption) | assumption)) (Nat.le_trans (Nat.mul_le_mul_right _ (of_decide_eq_true (by first | (with_reducible assumption) | assumption) : (l0_5.length : Int).toNat ≤ 35184372088832)) (by omega)) (Below.refl _ _) (Nat.le_refl _) ?_; intro v477 w46 ho47 hb hg_ hnew_; clear hg_ hnew_; (first | rw [← Ny476.out] at ho47 | (simp only [Int.reduceToNat] at ho47; rw [← Ny476.out] at ho47)); have n0_ := Aside0.mk (Kd.R_elder' (by (with_reducible repeat (first | apply Kd.R_alloc | apply Kd.R_drewN | apply Kd.R_drew)); exact HO_3.out) (Kd.R_base ho47) hb); have n1_ := Aside0.mk (Kd.R_below (by (with_reducible repeat (first | apply Kd.R_alloc | apply Kd.R_drewN | apply Kd.R_drew)); exact HO_4.out) hb); have n2_ := Aside0.mk (Kd.S_elder' (by (with_reducible repeat (first | apply Kd.S_alloc | apply Kd.S_drewN | apply Kd.S_drew)); exact HO_5.out) (Kd.R_base ho47) hb); have n3_ := Aside0.mk (Kd.R_lower (Kd.R_new' ho47 (Kd.R_lt (by (with_reducible repeat (first | apply Kd.R_alloc | apply Kd.R_drewN | apply Kd.R_drew)); exact HO_3.out))) (below_size (by repeat (first | (with_reducible first | exact HB.out | apply below_alloc | apply pw_below_drewN | apply below_drew1 | refine below_set ?_ GE463.out) | exact HB.out)))); have n4_ := Aside0.mk (blk_below (g := gb463) (o := .cells #[.string a0_0, .slice A0_1 l0_1.length c0_1, .string a0_2, .slice A0_3 l0_3.length c0_3, .slice A0_4 l0_4.length c0_4, .slice A0_5 l0_5.length c0_5] 26 (0, 0)) (by (with_reducible repeat (first | refine blk_drewN ?_ _ | refine blk_drew ?_ | refine blk_alloc ?_ _)); exact BK463.out) hb); have n5_ := Aside0.mk (below_step (by repeat (first | (with_reducible first | exact HB.out | apply below_alloc | apply pw_below_drewN | apply below_drew1 | refine below_set ?_ GE463.out) | exact HB.out)) hb); clear HO_3; clear HO_4; clear HO_5; clear BK463; clear HB; have HO_3 := n0_; have HO_4 := n1_; have HO_5 := n2_; have HO478 := n3_; have BK463 := n4_; have HB := n5_; clear n0_ n1_ n2_ n3_ n4_ n5_; clear hb ho47)))
   go_loopg [7] kj25 (fun kq v7 w' => ∃ (x6_2 : List Int) (x7_2 : Int), v7 = .int .i64 x7_2 ∧ Aside0 (truantlaw09_FlowOrder.l0 kq t466 t469 t472 x6_2 x7_2 a0_0 l0_1 a0_2 l0_3 l0_4 l0_5 = some r) ∧ Aside0 (kq ≤ kj25) ∧ Aside0 (Kd.R (Kd.int .i64) 3 w' w.heap.size (fun k_ => some k_ ≠ (v477 : Value).ownBlock) v467 t466) ∧ Aside0 (Kd.R Kd.bool 4 w' w.heap.size (fun _ => True) v470 t469) ∧ Aside0 (Kd.S (Kd.slice 3 (Kd.int .i64)) 34 w' w.heap.size (fun k_ => some k_ ≠ (v467 : Value).ownBlock ∧ some k_ ≠ (v477 : Value).ownBlock) v473 t472) ∧ Aside0 (Kd.R (Kd.int .i64) 3 w' w.heap.size (fun k_ => some k_ ≠ (v467 : Value).ownBlock) v477 x6_2) ∧ Aside0 (w'.heap[gb463]? = some (.cells #[.string a0_0, (.slice A0_1 l0_1.length c0_1), .string a0_2, (.slice A0_3 l0_3.length c0_3), (.slice A0_4 l0_4.length c0_4), (.slice A0_5 l0_5.length c0_5)] 26 (0, 0))) ∧ Aside0 (Below w.heap.size w w'))
   case atStart => exact ⟨(y476), (0), (by first | rfl | (simp; done) | (simp [*]; done)), H', ⟨Nat.le_refl _⟩, ⟨by (with_reducible repeat (first | apply Kd.R_alloc | apply Kd.R_drewN | apply Kd.R_drew)); exact Kd.R_mono HO_3.out (fun _ hk => hk.2)⟩, ⟨by (with_reducible repeat (first | apply Kd.R_alloc | apply Kd.R_drewN | apply Kd.R_drew)); exact HO_4.out⟩, ⟨by (with_reducible repeat (first | apply Kd.S_alloc | apply Kd.S_drewN | apply Kd.S_drew)); exact HO_5.out⟩, ⟨by (with_reducible repeat (first | apply Kd.R_alloc | apply Kd.R_drewN | apply Kd.R_drew)); exact Kd.R_mono HO478.out (fun _ hk => hk.2)⟩, ⟨by (with_reducible repeat (first | refine blk_drewN ?_ _ | refine blk_drew ?_ | refine blk_alloc ?_ _)); exact BK463.out⟩, ⟨by repeat (first | (with_reducible first | exact HB.out | apply below_alloc | apply pw_below_drewN | apply below_drew1 | refine below_set ?_ GE463.out) | exact HB.out)⟩⟩
   case round =>
    clear H'
    try clear c1
    try clear p2
    try clear c3
    try clear c4
    try clear p4
    try clear q4
    try clear hx4
    try clear qi4
    try clear c5
    try clear c13
    try clear c13b0
    try clear c13b1
    try clear c13b2
    try clear c38
    try clear c38b0
    try clear c38b1
    try clear c38b2
    try clear c40
    try clear c40b0
    try clear c40b1
    try clear c42
    try clear c43
    try clear c43b0
    try clear c43b1
    try clear c44
    try clear c44b0
    try clear c44b1
    try clear p47
    try clear q47
    try clear hx47
    try clear qi47
    try clear hcz16_0
    try clear hcz16_1
    try clear hcz16_2
    try clear hcz16_3
    try clear hcz16_4
    try clear hcz16_5
    try clear hcz18_0
    try clear hcz18_1
    try clear hcz18_2
    try clear hcz18_3
    try clear hcz18_4
    try clear hcz18_5
    try clear hcz20_0
    try clear hcz20_1
    try clear hcz20_2
    try clear hcz20_3
    try clear hcz20_4
    try clear hcz20_5
    try clear hcz22_0
    try clear hcz22_1
    try clear hcz22_2
    try clear hcz22_3
    try clear hcz22_4
    try clear hcz22_5
    try clear hcz24_0
    try clear hcz24_1
    try clear hcz24_2
    try clear hcz24_3
    try clear hcz24_4
    try clear hcz24_5
    try clear hcz29_0
    try clear hcz29_1
    try clear hcz29_2
    try clear hcz29_3
    try clear hcz29_4
    try clear hcz29_5
    try clear hcz31_0
    try clear hcz31_1
    try clear hcz31_2
    try clear hcz31_3
    try clear hcz31_4
    try clear hcz31_5
    try clear hcz33_0
    try clear hcz33_1
    try clear hcz33_2
    try clear hcz33_3
    try clear hcz33_4
    try clear hcz33_5
    try clear hcz35_0
    try clear hcz35_1
    try clear hcz35_2
    try clear hcz35_3
    try clear hcz35_4
    try clear hcz35_5
    try clear hcz37_0
    try clear hcz37_1
    try clear hcz37_2
    try clear hcz37_3
    try clear hcz37_4
    try clear hcz37_5
    try clear hcz45_0
    try clear hcz45_1
    try clear hcz45_2
    try clear hcz45_3
    try clear hcz45_4
    try clear hcz45_5
    try clear hcz8_0
    try clear hcz8_1
    try clear hcz8_2
    try clear hcz8_3
    try clear hcz8_4
    try clear hcz8_5
    try clear hfz16_0
    try clear hfz16_1
    try clear hfz16_2
    try clear hfz16_3
    try clear hfz16_4
    try clear hfz16_5
    try clear hfz18_0
    try clear hfz18_1
    try clear hfz18_2
    try clear hfz18_3
    try clear hfz18_4
    try clear hfz18_5
    try clear hfz20_0
    try clear hfz20_1
    try clear hfz20_2
    try clear hfz20_3
    try clear hfz20_4
    try clear hfz20_5
    try clear hfz22_0
    try clear hfz22_1
    try clear hfz22_2
    try clear hfz22_3
    try clear hfz22_4
    try clear hfz22_5
    try clear hfz24_0
    try clear hfz24_1
    try clear hfz24_2
    try clear hfz24_3
    try clear hfz24_4
    try clear hfz24_5
    try clear hfz29_0
    try clear hfz29_1
    try clear hfz29_2
    try clear hfz29_3
    try clear hfz29_4
    try clear hfz29_5
    try clear hfz31_0
    try clear hfz31_1
    try clear hfz31_2
    try clear hfz31_3
    try clear hfz31_4
    try clear hfz31_5
    try clear hfz33_0
    try clear hfz33_1
    try clear hfz33_2
    try clear hfz33_3
    try clear hfz33_4
    try clear hfz33_5
    try clear hfz35_0
    try clear hfz35_1
    try clear hfz35_2
    try clear hfz35_3
    try clear hfz35_4
    try clear hfz35_5
    try clear hfz37_0
    try clear hfz37_1
    try clear hfz37_2
    try clear hfz37_3
    try clear hfz37_4
    try clear hfz37_5
    try clear hfz45_0
    try clear hfz45_1
    try clear hfz45_2
    try clear hfz45_3
    try clear hfz45_4
    try clear hfz45_5
    try clear hfz8_0
    try clear hfz8_1
    try clear hfz8_2
    try clear hfz8_3
    try clear hfz8_4
    try clear hfz8_5
    try clear hx475_0
    try clear p2
    try clear p4
    try clear p475
    try clear q4
    try clear q475
    obtain ⟨x6_2, x7_2, rfl, HA, HK2, HO_3, HO_4, HO_5, HO_6, BK463, HB⟩ := hrel
    cases gk with
    | zero => exact absurd HA.out (by simp [truantlaw09_FlowOrder.l0])
    | succ k2 =>
     have H := HA.out
     clear HA
     simp only [truantlaw09_FlowOrder.l0] at H
     by_cases c48 : x7_2 < (t466.length : Int)
     ·rw [if_pos c48] at H
      have c48b0 : decide (x7_2 < (t466.length : Int)) = true := decide_eq_true c48
      clear c48
      by_cases c49 : 0 ≤ x7_2
      rotate_left
      ·rw [if_neg c49] at H
       exact absurd H (by simp)
      rw [if_pos c49] at H
      have c49b0 : decide (0 ≤ x7_2) = true := decide_eq_true c49
      clear c49
      by_cases c50 : (rd t466 x7_2) < 0
      ·rw [if_pos c50] at H
       exact absurd H (by simp)
      rw [if_neg c50] at H
      have c50b0 : decide ((rd t466 x7_2) < 0) = false := decide_eq_false c50
      clear c50
      by_cases c51 : (rd t466 x7_2) ≥ (x6_2.length : Int)
      ·rw [if_pos c51] at H
       exact absurd H (by simp)
      rw [if_neg c51] at H
      have c51b0 : decide ((x6_2.length : Int) ≤ (rd t466 x7_2)) = false := decide_eq_false c51
      clear c51
      by_cases c52 : 0 ≤ (rd t466 x7_2)
      rotate_left
      ·rw [if_neg c52] at H
       exact absurd H (by simp)
      rw [if_pos c52] at H
      have c52b0 : decide (0 ≤ (rd t466 x7_2)) = true := decide_eq_true c52
      clear c52
      by_cases c53 : (rd t466 x7_2) < (x6_2.length : Int)
      rotate_left
      ·rw [if_neg c53] at H
       exact absurd H (by simp)
      rw [if_pos c53] at H
      have c53b0 : decide ((rd t466 x7_2) < (x6_2.length : Int)) = true := decide_eq_true c53
      clear c53
      by_cases c54 : (rd x6_2 (rd t466 x7_2)) = 0
      rotate_left
      ·rw [if_neg c54] at H
       exact absurd H (by simp)
      rw [if_pos c54] at H
      have c54b0 : ((rd x6_2 (rd t466 x7_2)) == 0) = true := beq_iff_eq.mpr c54
      have c54b1 : ((rd x6_2 (rd t466 x7_2)) != 0) = false := bne_eq_false_iff_eq.mpr c54
      clear c54
      by_cases c55 : (rd t466 x7_2) < (t469.length : Int)
      rotate_left
      ·rw [if_neg c55] at H
       exact absurd H (by simp)
      rw [if_pos c55] at H
      have c55b0 : decide ((rd t466 x7_2) < (t469.length : Int)) = true := decide_eq_true c55
      clear c55
      obtain ⟨bq56, hbq56⟩ : ∃ b_ : Bool, b_ = (rdOf false t469 (rd t466 x7_2)) := ⟨_, rfl⟩
      replace H : (if (bq56 = true) then (truantlaw09_FlowOrder.l0 k2 t466 t469 t472 (x6_2.set ((rd t466 x7_2) : Int).toNat (wrap64 (x7_2 + 1))) (wrap64 (x7_2 + 1)) a0_0 l0_1 a0_2 l0_3 l0_4 l0_5) else (none)) = some r := by rw [← hbq56] at H; exact H
      have Nbq56 := Aside0.mk hbq56
      clear hbq56
      by_cases c57 : (bq56 = true)
      rotate_left
      ·replace c57 := Bool.eq_false_iff.mpr c57
       subst c57
       have H1 : (none) = some r := by rw [if_neg (show ¬ (false = true) by decide)] at H; exact H
       clear H
       have H := H1
       clear H1
       exact absurd H (by simp)
      subst c57
      have H1 : (truantlaw09_FlowOrder.l0 k2 t466 t469 t472 (x6_2.set ((rd t466 x7_2) : Int).toNat (wrap64 (x7_2 + 1))) (wrap64 (x7_2 + 1)) a0_0 l0_1 a0_2 l0_3 l0_4 l0_5) = some r := by rw [if_pos rfl] at H; exact H
      clear H
      have H := H1
      clear H1
      obtain ⟨y486, hy486⟩ : ∃ y_ : List Int, y_ = (x6_2.set ((rd t466 x7_2) : Int).toNat (wrap64 (x7_2 + 1))) := ⟨_, rfl⟩
      replace H : (truantlaw09_FlowOrder.l0 k2 t466 t469 t472 y486 (wrap64 (x7_2 + 1)) a0_0 l0_1 a0_2 l0_3 l0_4 l0_5) = some r := by first | (rw [hy486]; with_reducible exact H) | (have H2_ := (Option.bind_some _ _).symm.trans H; rw [hy486]; with_reducible exact H2_) | (have H2_ := (Option.bind_some _ _).symm.trans H; with_reducible exact H2_) | with_reducible exact H | (rw [hy486]; exact H) | exact H
      have Ny486 := Aside0.mk hy486
      clear hy486
      have H' := Aside0.mk H
      clear H
      obtain ⟨Ao59, co59, eo59⟩ := Kd.R_slice HO_3.out
      subst eo59
      have p479 : 0 ≤ (x7_2 : Int) := of_decide_eq_true (by first | (with_reducible assumption) | assumption)
      have q479 : x7_2 < (t466.length : Int) := of_decide_eq_true (by first | (with_reducible assumption) | assumption)
      obtain ⟨ad479, e479, hx479_0⟩ := Kd.at_int (Kd.R_reads' HO_3.out).2.2 x7_2 p479 q479
      cases e479
      replace p479 := eq_true p479
      replace q479 := eq_true q479
      have p480 : 0 ≤ (x7_2 : Int) := of_decide_eq_true (by first | (with_reducible assumption) | assumption)
      have q480 : x7_2 < (t466.length : Int) := of_decide_eq_true (by first | (with_reducible assumption) | assumption)
      obtain ⟨ad480, e480, hx480_0⟩ := Kd.at_int (Kd.R_reads' HO_3.out).2.2 x7_2 p480 q480
      obtain rfl : ad479 = ad480 := (by injection e480)
      replace p480 := eq_true p480
      replace q480 := eq_true q480
      obtain ⟨Ao60, co60, eo60⟩ := Kd.R_slice HO_6.out
      subst eo60
      have p481 : 0 ≤ (x7_2 : Int) := of_decide_eq_true (by first | (with_reducible assumption) | assumption)
      have q481 : x7_2 < (t466.length : Int) := of_decide_eq_true (by first | (with_reducible assumption) | assumption)
      obtain ⟨ad481, e481, hx481_0⟩ := Kd.at_int (Kd.R_reads' HO_3.out).2.2 x7_2 p481 q481
      obtain rfl : ad479 = ad481 := (by injection e481)
      replace p481 := eq_true p481
      replace q481 := eq_true q481
      have p482 : 0 ≤ ((rd t466 x7_2) : Int) := of_decide_eq_true (by first | (with_reducible assumption) | assumption)
      have q482 : (rd t466 x7_2) < (x6_2.length : Int) := of_decide_eq_true (by first | (with_reducible assumption) | assumption)
      obtain ⟨ad482, e482, hx482_0⟩ := Kd.at_int (Kd.R_reads' HO_6.out).2.2 (rd t466 x7_2) p482 q482
      cases e482
      replace p482 := eq_true p482
      replace q482 := eq_true q482
      have p483 : 0 ≤ (x7_2 : Int) := of_decide_eq_true (by first | (with_reducible assumption) | assumption)
      have q483 : x7_2 < (t466.length : Int) := of_decide_eq_true (by first | (with_reducible assumption) | assumption)
      obtain ⟨ad483, e483, hx483_0⟩ := Kd.at_int (Kd.R_reads' HO_3.out).2.2 x7_2 p483 q483
      obtain rfl : ad479 = ad483 := (by injection e483)
      replace p483 := eq_true p483
      replace q483 := eq_true q483
      obtain ⟨Ao61, co61, eo61⟩ := Kd.R_slice HO_4.out
      subst eo61
      have p484 : 0 ≤ ((rd t466 x7_2) : Int) := of_decide_eq_true (by first | (with_reducible assumption) | assumption)
      have q484 : (rd t466 x7_2) < (t469.length : Int) := of_decide_eq_true (by first | (with_reducible assumption) | assumption)
      obtain ⟨ad484, e484, hx484_0⟩ := Kd.at_bool (Kd.R_reads' HO_4.out).2.2 (rd t466 x7_2) p484 q484
      (try rw [← Nbq56.out] at hx484_0)
      cases e484
      replace p484 := eq_true p484
      replace q484 := eq_true q484
      have p485 : 0 ≤ (x7_2 : Int) := of_decide_eq_true (by first | (with_reducible assumption) | assumption)
      have q485 : x7_2 < (t466.length : Int) := of_decide_eq_true (by first | (with_reducible assumption) | assumption)
      obtain ⟨ad485, e485, hx485_0⟩ := Kd.at_int (Kd.R_reads' HO_3.out).2.2 x7_2 p485 q485
      obtain rfl : ad479 = ad485 := (by injection e485)
      replace p485 := eq_true p485
      replace q485 := eq_true q485
      have p58 : 0 ≤ ((rd t466 x7_2) : Int) := of_decide_eq_true (by first | (with_reducible assumption) | assumption)
      have q58 : ((rd t466 x7_2) : Int) < ((x6_2.length : Int) : Int) := of_decide_eq_true (by first | (with_reducible assumption) | assumption)
      obtain ⟨go58, co58, eo58, gb58, gl58, cl58, HG58⟩ := Kd.R_form HO_6.out (by omega)
      (first | cases eo58 | (injection eo58 with ea_ en_ ec_; (first | subst ea_ | (injection ea_ with ea_; subst ea_)); subst ec_; clear en_))
      have GB58 := Aside0.mk gb58
      have GG58 := Aside0.mk HG58
      clear gb58 gl58 HG58
      (first | simp only [add_plain] at hx482_0 | skip)
      obtain ⟨hx58_0, hf58_0⟩ := Kd.R_celln 0 HO_6.out ((rd t466 x7_2) : Int) p58 q58
      replace p58 := eq_true p58
      replace q58 := eq_true q58
      have HP62 := Kd.R_putg HO_6.out ((rd t466 x7_2) : Int) (wrap64 (x7_2 + 1))
      go_wp2_with (first | ((with_reducible refine gate_store (t := 3) (p := 90) rfl ?_); (try (rw [drewN_self wr]; generalize hq_ : World.drewN wr _ = wr; have n0_ := Aside0.mk (Kd.R_at hq_ HO_3.out); have n1_ := Aside0.mk (Kd.R_at hq_ HO_4.out); have n2_ := Aside0.mk (Kd.S_at hq_ HO_5.out); have n3_ := Aside0.mk (Kd.R_at hq_ HO_6.out); have n4_ := Aside0.mk (blk_at hq_ BK463.out); have n5_ := Aside0.mk (below_at hq_ HB.out); clear hq_ HO_3 HO_4 HO_5 HO_6 BK463 HB; have HO_3 := n0_; have HO_4 := n1_; have HO_5 := n2_; have HO_6 := n3_; have BK463 := n4_; have HB := n5_; clear n0_ n1_ n2_ n3_ n4_ n5_; (try (have HP62 := Kd.R_putg HO_6.out ((rd t466 x7_2) : Int) (wrap64 (x7_2 + 1)))))); refine store_event (t := 3) (p := 90) (v := ?vo_w63) (w1 := (wr.setCell ⟨go58, ((rd t466 x7_2) : Int).toNat, none⟩ (.int .i64 (wrap64 (x7_2 + 1))))) ?hg ?ho ?hn ?hr ?_; (case ho => rfl); (case hg => rfl); (case hn => rfl); (case hr => first | (go_simp; done) | (go_simp; rfl)); intro w63 hw; have hg : wr.grownBy w63 (some go58) := (by rw [hw]; exact HP62.2); have hp_ : Kd.R (Kd.int .i64) 3 w63 w.heap.size (fun k_ => some k_ ≠ (.slice (some ad479) t466.length co59 : Value).ownBlock) (.slice (some ⟨go58, 0, none⟩) x6_2.length co60) y486 := (by rw [hw, Ny486.out]; exact HP62.1); clear HP62; have n0_ := Aside0.mk (Kd.R_after (v := (.slice (some ⟨go58, 0, none⟩) x6_2.length co60)) (v1 := (.slice (some ⟨go58, 0, none⟩) x6_2.length co60)) (ok := (fun _ => True)) (by (with_reducible repeat (first | apply Kd.R_alloc | apply Kd.R_drewN | apply Kd.R_drew)); exact Kd.R_mono HO_3.out (fun _ hk => ⟨trivial, hk⟩)) hg (.inl rfl)); have n1_ := Aside0.mk (Kd.R_over' (v := (.slice (some ⟨go58, 0, none⟩) x6_2.length co60)) (by (with_reducible repeat (first | apply Kd.R_alloc | apply Kd.R_drewN | apply Kd.R_drew)); exact HO_4.out) (Kd.R_typed HO_6.out) (by decide) hg); have n2_ := Aside0.mk (Kd.S_after (v := (.slice (some ⟨go58, 0, none⟩) x6_2.length co60)) (v1 := (.slice (some ⟨go58, 0, none⟩) x6_2.length co60)) (ok := (fun k_ => some k_ ≠ (.slice (some ad479) t466.length co59 : Value).ownBlock)) (by (with_reducible repeat (first | apply Kd.S_alloc | apply Kd.S_drewN | apply Kd.S_drew)); exact HO_5.out) hg (.inl rfl)); have n3_ := Aside0.mk (hp_); have n4_ := Aside0.mk (blk_grown (g := gb463) (o := .cells #[.string a0_0, .slice A0_1 l0_1.length c0_1, .string a0_2, .slice A0_3 l0_3.length c0_3, .slice A0_4 l0_4.length c0_4, .slice A0_5 l0_5.length c0_5] 26 (0, 0)) (by (with_reducible repeat (first | refine blk_drewN ?_ _ | refine blk_drew ?_ | refine blk_alloc ?_ _)); exact BK463.out) hg (Kd.R_ne HO_6.out BK463.out (by decide))); have n5_ := Aside0.mk ((by rw [hw]; exact below_set (HB.out) GB58.out : Below w.heap.size w w63)); clear HO_3; clear HO_4; clear HO_5; clear HO_6; clear BK463; clear HB; have HO_3 := n0_; have HO_4 := n1_; have HO_5 := n2_; have HO_6 := n3_; have BK463 := n4_; have HB := n5_; clear n0_ n1_ n2_ n3_ n4_ n5_; clear hg hw hp_))
      repeat (go_quiet (first | ((with_reducible refine gate_store (t := 3) (p := 90) rfl ?_); (try (rw [drewN_self wr]; generalize hq_ : World.drewN wr _ = wr; have n0_ := Aside0.mk (Kd.R_at hq_ HO_3.out); have n1_ := Aside0.mk (Kd.R_at hq_ HO_4.out); have n2_ := Aside0.mk (Kd.S_at hq_ HO_5.out); have n3_ := Aside0.mk (Kd.R_at hq_ HO_6.out); have n4_ := Aside0.mk (blk_at hq_ BK463.out); have n5_ := Aside0.mk (below_at hq_ HB.out); clear hq_ HO_3 HO_4 HO_5 HO_6 BK463 HB; have HO_3 := n0_; have HO_4 := n1_; have HO_5 := n2_; have HO_6 := n3_; have BK463 := n4_; have HB := n5_; clear n0_ n1_ n2_ n3_ n4_ n5_; (try (have HP62 := Kd.R_putg HO_6.out ((rd t466 x7_2) : Int) (wrap64 (x7_2 + 1)))))); refine store_event (t := 3) (p := 90) (v := ?vo_w63) (w1 := (wr.setCell ⟨go58, ((rd t466 x7_2) : Int).toNat, none⟩ (.int .i64 (wrap64 (x7_2 + 1))))) ?hg ?ho ?hn ?hr ?_; (case ho => rfl); (case hg => rfl); (case hn => rfl); (case hr => first | (go_simp; done) | (go_simp; rfl)); intro w63 hw; have hg : wr.grownBy w63 (some go58) := (by rw [hw]; exact HP62.2); have hp_ : Kd.R (Kd.int .i64) 3 w63 w.heap.size (fun k_ => some k_ ≠ (.slice (some ad479) t466.length co59 : Value).ownBlock) (.slice (some ⟨go58, 0, none⟩) x6_2.length co60) y486 := (by rw [hw, Ny486.out]; exact HP62.1); clear HP62; have n0_ := Aside0.mk (Kd.R_after (v := (.slice (some ⟨go58, 0, none⟩) x6_2.length co60)) (v1 := (.slice (some ⟨go58, 0, none⟩) x6_2.length co60)) (ok := (fun _ => True)) (by (with_reducible repeat (first | apply Kd.R_alloc | apply Kd.R_drewN | apply Kd.R_drew)); exact Kd.R_mono HO_3.out (fun _ hk => ⟨trivial, hk⟩)) hg (.inl rfl)); have n1_ := Aside0.mk (Kd.R_over' (v := (.slice (some ⟨go58, 0, none⟩) x6_2.length co60)) (by (with_reducible repeat (first | apply Kd.R_alloc | apply Kd.R_drewN | apply Kd.R_drew)); exact HO_4.out) (Kd.R_typed HO_6.out) (by decide) hg); have n2_ := Aside0.mk (Kd.S_after (v := (.slice (some ⟨go58, 0, none⟩) x6_2.length co60)) (v1 := (.slice (some ⟨go58, 0, none⟩) x6_2.length co60)) (ok := (fun k_ => some k_ ≠ (.slice (some ad479) t466.length co59 : Value).ownBlock)) (by (with_reducible repeat (first | apply Kd.S_alloc | apply Kd.S_drewN | apply Kd.S_drew)); exact HO_5.out) hg (.inl rfl)); have n3_ := Aside0.mk (hp_); have n4_ := Aside0.mk (blk_grown (g := gb463) (o := .cells #[.string a0_0, .slice A0_1 l0_1.length c0_1, .string a0_2, .slice A0_3 l0_3.length c0_3, .slice A0_4 l0_4.length c0_4, .slice A0_5 l0_5.length c0_5] 26 (0, 0)) (by (with_reducible repeat (first | refine blk_drewN ?_ _ | refine blk_drew ?_ | refine blk_alloc ?_ _)); exact BK463.out) hg (Kd.R_ne HO_6.out BK463.out (by decide))); have n5_ := Aside0.mk ((by rw [hw]; exact below_set (HB.out) GB58.out : Below w.heap.size w w63)); clear HO_3; clear HO_4; clear HO_5; clear HO_6; clear BK463; clear HB; have HO_3 := n0_; have HO_4 := n1_; have HO_5 := n2_; have HO_6 := n3_; have BK463 := n4_; have HB := n5_; clear n0_ n1_ n2_ n3_ n4_ n5_; clear hg hw hp_)); try go_wp2_with (first | ((with_reducible refine gate_store (t := 3) (p := 90) rfl ?_); (try (rw [drewN_self wr]; generalize hq_ : World.drewN wr _ = wr; have n0_ := Aside0.mk (Kd.R_at hq_ HO_3.out); have n1_ := Aside0.mk (Kd.R_at hq_ HO_4.out); have n2_ := Aside0.mk (Kd.S_at hq_ HO_5.out); have n3_ := Aside0.mk (Kd.R_at hq_ HO_6.out); have n4_ := Aside0.mk (blk_at hq_ BK463.out); have n5_ := Aside0.mk (below_at hq_ HB.out); clear hq_ HO_3 HO_4 HO_5 HO_6 BK463 HB; have HO_3 := n0_; have HO_4 := n1_; have HO_5 := n2_; have HO_6 := n3_; have BK463 := n4_; have HB := n5_; clear n0_ n1_ n2_ n3_ n4_ n5_; (try (have HP62 := Kd.R_putg HO_6.out ((rd t466 x7_2) : Int) (wrap64 (x7_2 + 1)))))); refine store_event (t := 3) (p := 90) (v := ?vo_w63) (w1 := (wr.setCell ⟨go58, ((rd t466 x7_2) : Int).toNat, none⟩ (.int .i64 (wrap64 (x7_2 + 1))))) ?hg ?ho ?hn ?hr ?_; (case ho => rfl); (case hg => rfl); (case hn => rfl); (case hr => first | (go_simp; done) | (go_simp; rfl)); intro w63 hw; have hg : wr.grownBy w63 (some go58) := (by rw [hw]; exact HP62.2); have hp_ : Kd.R (Kd.int .i64) 3 w63 w.heap.size (fun k_ => some k_ ≠ (.slice (some ad479) t466.length co59 : Value).ownBlock) (.slice (some ⟨go58, 0, none⟩) x6_2.length co60) y486 := (by rw [hw, Ny486.out]; exact HP62.1); clear HP62; have n0_ := Aside0.mk (Kd.R_after (v := (.slice (some ⟨go58, 0, none⟩) x6_2.length co60)) (v1 := (.slice (some ⟨go58, 0, none⟩) x6_2.length co60)) (ok := (fun _ => True)) (by (with_reducible repeat (first | apply Kd.R_alloc | apply Kd.R_drewN | apply Kd.R_drew)); exact Kd.R_mono HO_3.out (fun _ hk => ⟨trivial, hk⟩)) hg (.inl rfl)); have n1_ := Aside0.mk (Kd.R_over' (v := (.slice (some ⟨go58, 0, none⟩) x6_2.length co60)) (by (with_reducible repeat (first | apply Kd.R_alloc | apply Kd.R_drewN | apply Kd.R_drew)); exact HO_4.out) (Kd.R_typed HO_6.out) (by decide) hg); have n2_ := Aside0.mk (Kd.S_after (v := (.slice (some ⟨go58, 0, none⟩) x6_2.length co60)) (v1 := (.slice (some ⟨go58, 0, none⟩) x6_2.length co60)) (ok := (fun k_ => some k_ ≠ (.slice (some ad479) t466.length co59 : Value).ownBlock)) (by (with_reducible repeat (first | apply Kd.S_alloc | apply Kd.S_drewN | apply Kd.S_drew)); exact HO_5.out) hg (.inl rfl)); have n3_ := Aside0.mk (hp_); have n4_ := Aside0.mk (blk_grown (g := gb463) (o := .cells #[.string a0_0, .slice A0_1 l0_1.length c0_1, .string a0_2, .slice A0_3 l0_3.length c0_3, .slice A0_4 l0_4.length c0_4, .slice A0_5 l0_5.length c0_5] 26 (0, 0)) (by (with_reducible repeat (first | refine blk_drewN ?_ _ | refine blk_drew ?_ | refine blk_alloc ?_ _)); exact BK463.out) hg (Kd.R_ne HO_6.out BK463.out (by decide))); have n5_ := Aside0.mk ((by rw [hw]; exact below_set (HB.out) GB58.out : Below w.heap.size w w63)); clear HO_3; clear HO_4; clear HO_5; clear HO_6; clear BK463; clear HB; have HO_3 := n0_; have HO_4 := n1_; have HO_5 := n2_; have HO_6 := n3_; have BK463 := n4_; have HB := n5_; clear n0_ n1_ n2_ n3_ n4_ n5_; clear hg hw hp_)))
      go_roundg k2
      case measure => have := HJ25.out; have := HK2.out; omega
      case rel => exact ⟨(y486), (wrap64 (x7_2 + 1)), (by first | rfl | (simp; done) | (simp [*]; done)), H', ⟨by have := HJ25.out; have := HK2.out; omega⟩, ⟨by (with_reducible repeat (first | apply Kd.R_alloc | apply Kd.R_drewN | apply Kd.R_drew)); exact Kd.R_mono HO_3.out (fun _ hk => hk.2)⟩, ⟨by (with_reducible repeat (first | apply Kd.R_alloc | apply Kd.R_drewN | apply Kd.R_drew)); exact HO_4.out⟩, ⟨by (with_reducible repeat (first | apply Kd.S_alloc | apply Kd.S_drewN | apply Kd.S_drew)); exact HO_5.out⟩, ⟨by (with_reducible repeat (first | apply Kd.R_alloc | apply Kd.R_drewN | apply Kd.R_drew)); exact HO_6.out⟩, ⟨by (with_reducible repeat (first | refine blk_drewN ?_ _ | refine blk_drew ?_ | refine blk_alloc ?_ _)); exact BK463.out⟩, ⟨by repeat (first | (with_reducible first | exact HB.out | apply below_alloc | apply pw_below_drewN | apply below_drew1 | refine below_set ?_ GE463.out) | exact HB.out)⟩⟩
     rw [if_neg c48] at H
     have c48b0 : decide (x7_2 < (t466.length : Int)) = false := decide_eq_false c48
     clear c48
     replace H := Option.bind_eq_some_iff.mp H
     obtain ⟨t487, A640, H⟩ := H
     replace H : (truantlaw09_FlowOrder.l1 k2 t469 t472 x6_2 (decide ((t487.length : Int) > 0)) 0) = some r := H
     obtain ⟨bx8, hbx8⟩ : ∃ b_ : Bool, (decide ((t487.length : Int) > 0)) = b_ := ⟨_, rfl⟩
     rw [hbx8] at H
     have hbx8n : decide (0 < t487.length) = bx8 := by rw [← hbx8]; simp
     clear hbx8
     have A64 := Aside0.mk A640
     clear A640
     have H' := Aside0.mk H
     clear H
     obtain ⟨Ao65, co65, eo65⟩ := Kd.R_slice HO_3.out
     subst eo65
     have hcz66_0 : wr.cell? ⟨gb463, 0, none⟩ = some (.string a0_0) := (blk_cell BK463.out 0).trans rfl
     have hcz66_1 : wr.cell? ⟨gb463, 1, none⟩ = some (.slice A0_1 l0_1.length c0_1) := (blk_cell BK463.out 1).trans rfl
     have hcz66_2 : wr.cell? ⟨gb463, 2, none⟩ = some (.string a0_2) := (blk_cell BK463.out 2).trans rfl
     have hcz66_3 : wr.cell? ⟨gb463, 3, none⟩ = some (.slice A0_3 l0_3.length c0_3) := (blk_cell BK463.out 3).trans rfl
     have hcz66_4 : wr.cell? ⟨gb463, 4, none⟩ = some (.slice A0_4 l0_4.length c0_4) := (blk_cell BK463.out 4).trans rfl
     have hcz66_5 : wr.cell? ⟨gb463, 5, none⟩ = some (.slice A0_5 l0_5.length c0_5) := (blk_cell BK463.out 5).trans rfl
     have hfz66_0 := blk_frozen BK463.out 0
     have hfz66_1 := blk_frozen BK463.out 1
     have hfz66_2 := blk_frozen BK463.out 2
     have hfz66_3 := blk_frozen BK463.out 3
     have hfz66_4 := blk_frozen BK463.out 4
     have hfz66_5 := blk_frozen BK463.out 5
     go_wp2_with (first | (go_at_call 26; (with_reducible refine (flow_Back.calls a0_0 _ _ l0_1 a0_2 _ _ l0_3 _ _ l0_4 _ _ l0_5 t487 _ ?side1 ?side2 ?side3 ?side4 ?side5 ?side6 ?side7 ?side8 A64.out).mono ?_); (case side1 => repeat (first | exact (Kd.C_below HR0_1.out HB.out) | (with_reducible refine Kd.C_alloc ?_ _) | (with_reducible refine Kd.C_drewN ?_ _) | (with_reducible refine Kd.C_drew ?_))); (case side2 => exact HC0_1.out); (case side3 => repeat (first | exact (Kd.C_below HR0_3.out HB.out) | (with_reducible refine Kd.C_alloc ?_ _) | (with_reducible refine Kd.C_drewN ?_ _) | (with_reducible refine Kd.C_drew ?_))); (case side4 => exact HC0_3.out); (case side5 => repeat (first | exact (Kd.C_below HR0_4.out HB.out) | (with_reducible refine Kd.C_alloc ?_ _) | (with_reducible refine Kd.C_drewN ?_ _) | (with_reducible refine Kd.C_drew ?_))); (case side6 => exact HC0_4.out); (case side7 => repeat (first | exact (Kd.C_below HR0_5.out HB.out) | (with_reducible refine Kd.C_alloc ?_ _) | (with_reducible refine Kd.C_drewN ?_ _) | (with_reducible refine Kd.C_drew ?_))); (case side8 => exact HC0_5.out); rintro e w67 ⟨v488, rfl, ho0, hb⟩; have n0_ := Aside0.mk (Kd.R_below (by (with_reducible repeat (first | apply Kd.R_alloc | apply Kd.R_drewN | apply Kd.R_drew)); exact HO_3.out) hb); have n1_ := Aside0.mk (Kd.R_below (by (with_reducible repeat (first | apply Kd.R_alloc | apply Kd.R_drewN | apply Kd.R_drew)); exact HO_4.out) hb); have n2_ := Aside0.mk (Kd.S_below (by (with_reducible repeat (first | apply Kd.S_alloc | apply Kd.S_drewN | apply Kd.S_drew)); exact HO_5.out) hb); have n3_ := Aside0.mk (Kd.R_below (by (with_reducible repeat (first | apply Kd.R_alloc | apply Kd.R_drewN | apply Kd.R_drew)); exact HO_6.out) hb); have n4_ := Aside0.mk (Kd.R_lower ho0 (below_size (by repeat (first | (with_reducible first | exact HB.out | apply below_alloc | apply pw_below_drewN | apply below_drew1 | refine below_set ?_ GE463.out) | exact HB.out)))); have n5_ := Aside0.mk (blk_below (g := gb463) (o := .cells #[.string a0_0, .slice A0_1 l0_1.length c0_1, .string a0_2, .slice A0_3 l0_3.length c0_3, .slice A0_4 l0_4.length c0_4, .slice A0_5 l0_5.length c0_5] 26 (0, 0)) (by (with_reducible repeat (first | refine blk_drewN ?_ _ | refine blk_drew ?_ | refine blk_alloc ?_ _)); exact BK463.out) hb); have n6_ := Aside0.mk (below_step (by repeat (first | (with_reducible first | exact HB.out | apply below_alloc | apply pw_below_drewN | apply below_drew1 | refine below_set ?_ GE463.out) | exact HB.out)) hb); clear HO_3; clear HO_4; clear HO_5; clear HO_6; clear BK463; clear HB; have HO_3 := n0_; have HO_4 := n1_; have HO_5 := n2_; have HO_6 := n3_; have HO489 := n4_; have BK463 := n5_; have HB := n6_; clear n0_ n1_ n2_ n3_ n4_ n5_ n6_; (try clear hb); (try clear hb2); (try clear hk); (try clear hi); (try clear ho0); obtain ⟨Ao68, co68, eo68⟩ := Kd.R_slice HO489.out; subst eo68))
     repeat (go_quiet (first | (go_at_call 26; (with_reducible refine (flow_Back.calls a0_0 _ _ l0_1 a0_2 _ _ l0_3 _ _ l0_4 _ _ l0_5 t487 _ ?side1 ?side2 ?side3 ?side4 ?side5 ?side6 ?side7 ?side8 A64.out).mono ?_); (case side1 => repeat (first | exact (Kd.C_below HR0_1.out HB.out) | (with_reducible refine Kd.C_alloc ?_ _) | (with_reducible refine Kd.C_drewN ?_ _) | (with_reducible refine Kd.C_drew ?_))); (case side2 => exact HC0_1.out); (case side3 => repeat (first | exact (Kd.C_below HR0_3.out HB.out) | (with_reducible refine Kd.C_alloc ?_ _) | (with_reducible refine Kd.C_drewN ?_ _) | (with_reducible refine Kd.C_drew ?_))); (case side4 => exact HC0_3.out); (case side5 => repeat (first | exact (Kd.C_below HR0_4.out HB.out) | (with_reducible refine Kd.C_alloc ?_ _) | (with_reducible refine Kd.C_drewN ?_ _) | (with_reducible refine Kd.C_drew ?_))); (case side6 => exact HC0_4.out); (case side7 => repeat (first | exact (Kd.C_below HR0_5.out HB.out) | (with_reducible refine Kd.C_alloc ?_ _) | (with_reducible refine Kd.C_drewN ?_ _) | (with_reducible refine Kd.C_drew ?_))); (case side8 => exact HC0_5.out); rintro e w67 ⟨v488, rfl, ho0, hb⟩; have n0_ := Aside0.mk (Kd.R_below (by (with_reducible repeat (first | apply Kd.R_alloc | apply Kd.R_drewN | apply Kd.R_drew)); exact HO_3.out) hb); have n1_ := Aside0.mk (Kd.R_below (by (with_reducible repeat (first | apply Kd.R_alloc | apply Kd.R_drewN | apply Kd.R_drew)); exact HO_4.out) hb); have n2_ := Aside0.mk (Kd.S_below (by (with_reducible repeat (first | apply Kd.S_alloc | apply Kd.S_drewN | apply Kd.S_drew)); exact HO_5.out) hb); have n3_ := Aside0.mk (Kd.R_below (by (with_reducible repeat (first | apply Kd.R_alloc | apply Kd.R_drewN | apply Kd.R_drew)); exact HO_6.out) hb); have n4_ := Aside0.mk (Kd.R_lower ho0 (below_size (by repeat (first | (with_reducible first | exact HB.out | apply below_alloc | apply pw_below_drewN | apply below_drew1 | refine below_set ?_ GE463.out) | exact HB.out)))); have n5_ := Aside0.mk (blk_below (g := gb463) (o := .cells #[.string a0_0, .slice A0_1 l0_1.length c0_1, .string a0_2, .slice A0_3 l0_3.length c0_3, .slice A0_4 l0_4.length c0_4, .slice A0_5 l0_5.length c0_5] 26 (0, 0)) (by (with_reducible repeat (first | refine blk_drewN ?_ _ | refine blk_drew ?_ | refine blk_alloc ?_ _)); exact BK463.out) hb); have n6_ := Aside0.mk (below_step (by repeat (first | (with_reducible first | exact HB.out | apply below_alloc | apply pw_below_drewN | apply below_drew1 | refine below_set ?_ GE463.out) | exact HB.out)) hb); clear HO_3; clear HO_4; clear HO_5; clear HO_6; clear BK463; clear HB; have HO_3 := n0_; have HO_4 := n1_; have HO_5 := n2_; have HO_6 := n3_; have HO489 := n4_; have BK463 := n5_; have HB := n6_; clear n0_ n1_ n2_ n3_ n4_ n5_ n6_; (try clear hb); (try clear hb2); (try clear hk); (try clear hi); (try clear ho0); obtain ⟨Ao68, co68, eo68⟩ := Kd.R_slice HO489.out; subst eo68)); try go_wp2_with (first | (go_at_call 26; (with_reducible refine (flow_Back.calls a0_0 _ _ l0_1 a0_2 _ _ l0_3 _ _ l0_4 _ _ l0_5 t487 _ ?side1 ?side2 ?side3 ?side4 ?side5 ?side6 ?side7 ?side8 A64.out).mono ?_); (case side1 => repeat (first | exact (Kd.C_below HR0_1.out HB.out) | (with_reducible refine Kd.C_alloc ?_ _) | (with_reducible refine Kd.C_drewN ?_ _) | (with_reducible refine Kd.C_drew ?_))); (case side2 => exact HC0_1.out); (case side3 => repeat (first | exact (Kd.C_below HR0_3.out HB.out) | (with_reducible refine Kd.C_alloc ?_ _) | (with_reducible refine Kd.C_drewN ?_ _) | (with_reducible refine Kd.C_drew ?_))); (case side4 => exact HC0_3.out); (case side5 => repeat (first | exact (Kd.C_below HR0_4.out HB.out) | (with_reducible refine Kd.C_alloc ?_ _) | (with_reducible refine Kd.C_drewN ?_ _) | (with_reducible refine Kd.C_drew ?_))); (case side6 => exact HC0_4.out); (case side7 => repeat (first | exact (Kd.C_below HR0_5.out HB.out) | (with_reducible refine Kd.C_alloc ?_ _) | (with_reducible refine Kd.C_drewN ?_ _) | (with_reducible refine Kd.C_drew ?_))); (case side8 => exact HC0_5.out); rintro e w67 ⟨v488, rfl, ho0, hb⟩; have n0_ := Aside0.mk (Kd.R_below (by (with_reducible repeat (first | apply Kd.R_alloc | apply Kd.R_drewN | apply Kd.R_drew)); exact HO_3.out) hb); have n1_ := Aside0.mk (Kd.R_below (by (with_reducible repeat (first | apply Kd.R_alloc | apply Kd.R_drewN | apply Kd.R_drew)); exact HO_4.out) hb); have n2_ := Aside0.mk (Kd.S_below (by (with_reducible repeat (first | apply Kd.S_alloc | apply Kd.S_drewN | apply Kd.S_drew)); exact HO_5.out) hb); have n3_ := Aside0.mk (Kd.R_below (by (with_reducible repeat (first | apply Kd.R_alloc | apply Kd.R_drewN | apply Kd.R_drew)); exact HO_6.out) hb); have n4_ := Aside0.mk (Kd.R_lower ho0 (below_size (by repeat (first | (with_reducible first | exact HB.out | apply below_alloc | apply pw_below_drewN | apply below_drew1 | refine below_set ?_ GE463.out) | exact HB.out)))); have n5_ := Aside0.mk (blk_below (g := gb463) (o := .cells #[.string a0_0, .slice A0_1 l0_1.length c0_1, .string a0_2, .slice A0_3 l0_3.length c0_3, .slice A0_4 l0_4.length c0_4, .slice A0_5 l0_5.length c0_5] 26 (0, 0)) (by (with_reducible repeat (first | refine blk_drewN ?_ _ | refine blk_drew ?_ | refine blk_alloc ?_ _)); exact BK463.out) hb); have n6_ := Aside0.mk (below_step (by repeat (first | (with_reducible first | exact HB.out | apply below_alloc | apply pw_below_drewN | apply below_drew1 | refine below_set ?_ GE463.out) | exact HB.out)) hb); clear HO_3; clear HO_4; clear HO_5; clear HO_6; clear BK463; clear HB; have HO_3 := n0_; have HO_4 := n1_; have HO_5 := n2_; have HO_6 := n3_; have HO489 := n4_; have BK463 := n5_; have HB := n6_; clear n0_ n1_ n2_ n3_ n4_ n5_ n6_; (try clear hb); (try clear hb2); (try clear hk); (try clear hi); (try clear ho0); obtain ⟨Ao68, co68, eo68⟩ := Kd.R_slice HO489.out; subst eo68)))
     (try rw [hbx8n])
     clear hbx8n
     go_loopg [9] k2 (fun kq v9 w' => ∃ (x9_3 : Int), v9 = .int .i64 x9_3 ∧ Aside0 (truantlaw09_FlowOrder.l1 kq t469 t472 x6_2 bx8 x9_3 = some r) ∧ Aside0 (kq ≤ k2) ∧ Aside0 (Kd.R Kd.bool 4 w' w.heap.size (fun _ => True) v470 t469) ∧ Aside0 (Kd.S (Kd.slice 3 (Kd.int .i64)) 34 w' w.heap.size (fun k_ => some k_ ≠ (v477 : Value).ownBlock) v473 t472) ∧ Aside0 (Kd.R (Kd.int .i64) 3 w' w.heap.size (fun _ => True) v477 x6_2) ∧ Aside0 (w'.heap[gb463]? = some (.cells #[.string a0_0, (.slice A0_1 l0_1.length c0_1), .string a0_2, (.slice A0_3 l0_3.length c0_3), (.slice A0_4 l0_4.length c0_4), (.slice A0_5 l0_5.length c0_5)] 26 (0, 0))) ∧ Aside0 (Below w.heap.size w w'))
     case atStart => exact ⟨(0), (by first | rfl | (simp; done) | (simp [*]; done)), H', ⟨Nat.le_refl _⟩, ⟨by (with_reducible repeat (first | apply Kd.R_alloc | apply Kd.R_drewN | apply Kd.R_drew)); exact HO_4.out⟩, ⟨by (with_reducible repeat (first | apply Kd.S_alloc | apply Kd.S_drewN | apply Kd.S_drew)); exact Kd.S_mono HO_5.out (fun _ hk => hk.2)⟩, ⟨by (with_reducible repeat (first | apply Kd.R_alloc | apply Kd.R_drewN | apply Kd.R_drew)); exact Kd.R_mono HO_6.out (fun _ hk => trivial)⟩, ⟨by (with_reducible repeat (first | refine blk_drewN ?_ _ | refine blk_drew ?_ | refine blk_alloc ?_ _)); exact BK463.out⟩, ⟨by repeat (first | (with_reducible first | exact HB.out | apply below_alloc | apply pw_below_drewN | apply below_drew1 | refine below_set ?_ GE463.out) | exact HB.out)⟩⟩
     case round =>
      clear H'
      try clear c1
      try clear p2
      try clear c3
      try clear c4
      try clear p4
      try clear q4
      try clear hx4
      try clear qi4
      try clear c5
      try clear p5
      try clear q5
      try clear hx5
      try clear hf5
      try clear p6
      try clear c13
      try clear c13b0
      try clear c13b1
      try clear c13b2
      try clear c38
      try clear c38b0
      try clear c38b1
      try clear c38b2
      try clear c40
      try clear c40b0
      try clear c40b1
      try clear c42
      try clear c43
      try clear c43b0
      try clear c43b1
      try clear c44
      try clear c44b0
      try clear c44b1
      try clear p47
      try clear q47
      try clear hx47
      try clear qi47
      try clear c48
      try clear c48b0
      try clear p48
      try clear q48
      try clear hx48
      try clear c49
      try clear c49b0
      try clear c50
      try clear c50b0
      try clear c51
      try clear c51b0
      try clear c52
      try clear c52b0
      try clear c53
      try clear c53b0
      try clear c54
      try clear c54b0
      try clear c54b1
      try clear c55
      try clear c55b0
      try clear q56
      try clear c57
      try clear p58
      try clear q58
      try clear hx58
      try clear hf58
      try clear p64
      try clear hcz16_0
      try clear hcz16_1
      try clear hcz16_2
      try clear hcz16_3
      try clear hcz16_4
      try clear hcz16_5
      try clear hcz18_0
      try clear hcz18_1
      try clear hcz18_2
      try clear hcz18_3
      try clear hcz18_4
      try clear hcz18_5
      try clear hcz20_0
      try clear hcz20_1
      try clear hcz20_2
      try clear hcz20_3
      try clear hcz20_4
      try clear hcz20_5
      try clear hcz22_0
      try clear hcz22_1
      try clear hcz22_2
      try clear hcz22_3
      try clear hcz22_4
      try clear hcz22_5
      try clear hcz24_0
      try clear hcz24_1
      try clear hcz24_2
      try clear hcz24_3
      try clear hcz24_4
      try clear hcz24_5
      try clear hcz29_0
      try clear hcz29_1
      try clear hcz29_2
      try clear hcz29_3
      try clear hcz29_4
      try clear hcz29_5
      try clear hcz31_0
      try clear hcz31_1
      try clear hcz31_2
      try clear hcz31_3
      try clear hcz31_4
      try clear hcz31_5
      try clear hcz33_0
      try clear hcz33_1
      try clear hcz33_2
      try clear hcz33_3
      try clear hcz33_4
      try clear hcz33_5
      try clear hcz35_0
      try clear hcz35_1
      try clear hcz35_2
      try clear hcz35_3
      try clear hcz35_4
      try clear hcz35_5
      try clear hcz37_0
      try clear hcz37_1
      try clear hcz37_2
      try clear hcz37_3
      try clear hcz37_4
      try clear hcz37_5
      try clear hcz45_0
      try clear hcz45_1
      try clear hcz45_2
      try clear hcz45_3
      try clear hcz45_4
      try clear hcz45_5
      try clear hcz66_0
      try clear hcz66_1
      try clear hcz66_2
      try clear hcz66_3
      try clear hcz66_4
      try clear hcz66_5
      try clear hcz8_0
      try clear hcz8_1
      try clear hcz8_2
      try clear hcz8_3
      try clear hcz8_4
      try clear hcz8_5
      try clear hfz16_0
      try clear hfz16_1
      try clear hfz16_2
      try clear hfz16_3
      try clear hfz16_4
      try clear hfz16_5
      try clear hfz18_0
      try clear hfz18_1
      try clear hfz18_2
      try clear hfz18_3
      try clear hfz18_4
      try clear hfz18_5
      try clear hfz20_0
      try clear hfz20_1
      try clear hfz20_2
      try clear hfz20_3
      try clear hfz20_4
      try clear hfz20_5
      try clear hfz22_0
      try clear hfz22_1
      try clear hfz22_2
      try clear hfz22_3
      try clear hfz22_4
      try clear hfz22_5
      try clear hfz24_0
      try clear hfz24_1
      try clear hfz24_2
      try clear hfz24_3
      try clear hfz24_4
      try clear hfz24_5
      try clear hfz29_0
      try clear hfz29_1
      try clear hfz29_2
      try clear hfz29_3
      try clear hfz29_4
      try clear hfz29_5
      try clear hfz31_0
      try clear hfz31_1
      try clear hfz31_2
      try clear hfz31_3
      try clear hfz31_4
      try clear hfz31_5
      try clear hfz33_0
      try clear hfz33_1
      try clear hfz33_2
      try clear hfz33_3
      try clear hfz33_4
      try clear hfz33_5
      try clear hfz35_0
      try clear hfz35_1
      try clear hfz35_2
      try clear hfz35_3
      try clear hfz35_4
      try clear hfz35_5
      try clear hfz37_0
      try clear hfz37_1
      try clear hfz37_2
      try clear hfz37_3
      try clear hfz37_4
      try clear hfz37_5
      try clear hfz45_0
      try clear hfz45_1
      try clear hfz45_2
      try clear hfz45_3
      try clear hfz45_4
      try clear hfz45_5
      try clear hfz66_0
      try clear hfz66_1
      try clear hfz66_2
      try clear hfz66_3
      try clear hfz66_4
      try clear hfz66_5
      try clear hfz8_0
      try clear hfz8_1
      try clear hfz8_2
      try clear hfz8_3
      try clear hfz8_4
      try clear hfz8_5
      try clear hx475_0
      try clear hx479_0
      try clear hx480_0
      try clear hx481_0
      try clear hx482_0
      try clear hx483_0
      try clear hx484_0
      try clear hx485_0
      try clear hx58_0
      try clear p2
      try clear p4
      try clear p47
      try clear p475
      try clear p479
      try clear p480
      try clear p481
      try clear p482
      try clear p483
      try clear p484
      try clear p485
      try clear p58
      try clear q4
      try clear q47
      try clear q475
      try clear q479
      try clear q480
      try clear q481
      try clear q482
      try clear q483
      try clear q484
      try clear q485
      try clear q58
      obtain ⟨x9_3, rfl, HA, HK3, HO_4, HO_5, HO_6, BK463, HB⟩ := hrel
      cases gk with
      | zero => exact absurd HA.out (by simp [truantlaw09_FlowOrder.l1])
      | succ k3 =>
       have H := HA.out
       clear HA
       simp only [truantlaw09_FlowOrder.l1] at H
       by_cases c69 : x9_3 < (x6_2.length : Int)
       rotate_left
       ·rw [if_neg c69] at H
        have c69b0 : decide (x9_3 < (x6_2.length : Int)) = false := decide_eq_false c69
        clear c69
        obtain rfl := Option.some.inj H
        obtain ⟨Ao118, co118, eo118⟩ := Kd.R_slice HO_6.out
        subst eo118
        go_wp2
        repeat (go_quiet (fail); try go_wp2)
        go_ret
        exact ⟨by first | rfl | (simp [errW_none, errW_some] <;> rfl) | (simp [*, errW_none, errW_some] <;> rfl), by repeat (first | (with_reducible first | exact HB.out | apply below_alloc | apply pw_below_drewN | apply below_drew1 | refine below_set ?_ GE463.out) | exact HB.out)⟩
       rw [if_pos c69] at H
       have c69b0 : decide (x9_3 < (x6_2.length : Int)) = true := decide_eq_true c69
       clear c69
       by_cases c70 : 0 ≤ x9_3
       rotate_left
       ·rw [if_neg c70] at H
        exact absurd H (by simp)
       rw [if_pos c70] at H
       have c70b0 : decide (0 ≤ x9_3) = true := decide_eq_true c70
       clear c70
       by_cases c71 : x9_3 < (t469.length : Int)
       rotate_left
       ·rw [if_neg c71] at H
        exact absurd H (by simp)
       rw [if_pos c71] at H
       have c71b0 : decide (x9_3 < (t469.length : Int)) = true := decide_eq_true c71
       clear c71
       by_cases c72 : ((rdOf false t469 x9_3) != (decide ((rd x6_2 x9_3) > 0))) = true
       ·rw [if_pos c72] at H
        exact absurd H (by simp)
       rw [if_neg c72] at H
       have c72b0 : ((rdOf false t469 x9_3) != (decide ((rd x6_2 x9_3) > 0))) = false := by simpa using c72
       (try (have c72b1 : decide ((rdOf false t469 x9_3) = (decide ((rd x6_2 x9_3) > 0))) = true := by simpa using c72))
       (try (have c72b2 : ((rdOf false t469 x9_3) == (decide ((rd x6_2 x9_3) > 0))) = true := by simpa using c72))
       clear c72
       have HC73 := Aside0.mk H
       clear H
       obtain ⟨Ao74, co74, eo74⟩ := Kd.R_slice HO_6.out
       subst eo74
       obtain ⟨Ao75, co75, eo75⟩ := Kd.R_slice HO_4.out
       subst eo75
       have p490 : 0 ≤ (x9_3 : Int) := of_decide_eq_true (by first | (with_reducible assumption) | assumption)
       have q490 : x9_3 < (t469.length : Int) := of_decide_eq_true (by first | (with_reducible assumption) | assumption)
       obtain ⟨ad490, e490, hx490_0⟩ := Kd.at_bool (Kd.R_reads' HO_4.out).2.2 x9_3 p490 q490
       cases e490
       replace p490 := eq_true p490
       replace q490 := eq_true q490
       have p491 : 0 ≤ (x9_3 : Int) := of_decide_eq_true (by first | (with_reducible assumption) | assumption)
       have q491 : x9_3 < (x6_2.length : Int) := of_decide_eq_true (by first | (with_reducible assumption) | assumption)
       obtain ⟨ad491, e491, hx491_0⟩ := Kd.at_int (Kd.R_reads' HO_6.out).2.2 x9_3 p491 q491
       cases e491
       replace p491 := eq_true p491
       replace q491 := eq_true q491
       go_upto_region 25 with (fail)
       repeat (go_quiet (fail); go_upto_region 25 with (fail))
       go_cut [10] (fun v10 wc => ∃ (kq : Nat) (x10_72 : Bool), v10 = .bool x10_72 ∧ Aside0 (truantlaw09_FlowOrder.j3 kq t469 t472 x6_2 bx8 x9_3 x10_72 = some r) ∧ Aside0 (kq ≤ k3) ∧ Aside0 (Kd.R Kd.bool 4 wc w.heap.size (fun _ => True) (.slice (some ad490) t469.length co75) t469) ∧ Aside0 (Kd.S (Kd.slice 3 (Kd.int .i64)) 34 wc w.heap.size (fun k_ => some k_ ≠ ((.slice (some ad491) x6_2.length co74) : Value).ownBlock) v473 t472) ∧ Aside0 (Kd.R (Kd.int .i64) 3 wc w.heap.size (fun _ => True) (.slice (some ad491) x6_2.length co74) x6_2) ∧ Aside0 (wc.heap[gb463]? = some (.cells #[.string a0_0, (.slice A0_1 l0_1.length c0_1), .string a0_2, (.slice A0_3 l0_3.length c0_3), (.slice A0_4 l0_4.length c0_4), (.slice A0_5 l0_5.length c0_5)] 26 (0, 0))) ∧ Aside0 (Below w.heap.size w wc))
       case first =>
        have H := HC73.out
        clear HC73
        by_cases c76 : x9_3 = 0
        ·rw [if_pos c76] at H
         have c76b0 : (x9_3 == 0) = true := beq_iff_eq.mpr c76
         have c76b1 : (x9_3 != 0) = false := bne_eq_false_iff_eq.mpr c76
         clear c76
         (first | rw [c76b0] | (simp only [i64_w, i32_w]; rw [c76b0]) | skip)
         have H' := Aside0.mk H
         clear H
         go_wp2
         repeat (go_quiet (fail); try go_wp2)
         go_meet
         case rel => exact ⟨_, (true), (by first | rfl | (simp; done) | (simp [*]; done)), H', ⟨by have := HJ25.out; have := HK2.out; have := HK3.out; first | omega | exact Nat.le_refl _⟩, ⟨by (with_reducible repeat (first | apply Kd.R_alloc | apply Kd.R_drewN | apply Kd.R_drew)); exact HO_4.out⟩, ⟨by (with_reducible repeat (first | apply Kd.S_alloc | apply Kd.S_drewN | apply Kd.S_drew)); exact HO_5.out⟩, ⟨by (with_reducible repeat (first | apply Kd.R_alloc | apply Kd.R_drewN | apply Kd.R_drew)); exact HO_6.out⟩, ⟨by (with_reducible repeat (first | refine blk_drewN ?_ _ | refine blk_drew ?_ | refine blk_alloc ?_ _)); exact BK463.out⟩, ⟨by repeat (first | (with_reducible first | exact HB.out | apply below_alloc | apply pw_below_drewN | apply below_drew1 | refine below_set ?_ GE463.out) | exact HB.out)⟩⟩
        rw [if_neg c76] at H
        have c76b0 : (x9_3 == 0) = false := beq_eq_false_iff_ne.mpr c76
        have c76b1 : (x9_3 != 0) = true := bne_iff_ne.mpr c76
        (first | rw [c76b0] | (simp only [i64_w, i32_w]; rw [c76b0]) | skip)
        have H' := Aside0.mk H
        clear H
        have p492 : 0 ≤ (x9_3 : Int) := of_decide_eq_true (by first | (with_reducible assumption) | assumption)
        have q492 : x9_3 < (t469.length : Int) := of_decide_eq_true (by first | (with_reducible assumption) | assumption)
        obtain ⟨ad492, e492, hx492_0⟩ := Kd.at_bool (Kd.R_reads' HO_4.out).2.2 x9_3 p492 q492
        obtain rfl : ad490 = ad492 := (by injection e492)
        replace p492 := eq_true p492
        replace q492 := eq_true q492
        go_wp2
        repeat (go_quiet (fail); try go_wp2)
        go_meet
        case rel => exact ⟨_, (!(rdOf false t469 x9_3)), (by first | rfl | (simp; done) | (simp [*]; done)), H', ⟨by have := HJ25.out; have := HK2.out; have := HK3.out; first | omega | exact Nat.le_refl _⟩, ⟨by (with_reducible repeat (first | apply Kd.R_alloc | apply Kd.R_drewN | apply Kd.R_drew)); exact HO_4.out⟩, ⟨by (with_reducible repeat (first | apply Kd.S_alloc | apply Kd.S_drewN | apply Kd.S_drew)); exact HO_5.out⟩, ⟨by (with_reducible repeat (first | apply Kd.R_alloc | apply Kd.R_drewN | apply Kd.R_drew)); exact HO_6.out⟩, ⟨by (with_reducible repeat (first | refine blk_drewN ?_ _ | refine blk_drew ?_ | refine blk_alloc ?_ _)); exact BK463.out⟩, ⟨by repeat (first | (with_reducible first | exact HB.out | apply below_alloc | apply pw_below_drewN | apply below_drew1 | refine below_set ?_ GE463.out) | exact HB.out)⟩⟩
       case rest =>
        clear HC73
        try clear c1
        try clear p2
        try clear c3
        try clear c4
        try clear p4
        try clear q4
        try clear hx4
        try clear qi4
        try clear c5
        try clear p5
        try clear q5
        try clear hx5
        try clear hf5
        try clear c6
        try clear p6
        try clear c7
        try clear c13
        try clear c13b0
        try clear c13b1
        try clear c13b2
        try clear c38
        try clear c38b0
        try clear c38b1
        try clear c38b2
        try clear c40
        try clear c40b0
        try clear c40b1
        try clear c42
        try clear c43
        try clear c43b0
        try clear c43b1
        try clear c44
        try clear c44b0
        try clear c44b1
        try clear p47
        try clear q47
        try clear hx47
        try clear qi47
        try clear c48
        try clear c48b0
        try clear p48
        try clear q48
        try clear hx48
        try clear c49
        try clear c49b0
        try clear p49
        try clear q49
        try clear hx49
        try clear c50
        try clear c50b0
        try clear c51
        try clear c51b0
        try clear c52
        try clear c52b0
        try clear c53
        try clear c53b0
        try clear c54
        try clear c54b0
        try clear c54b1
        try clear c55
        try clear c55b0
        try clear q56
        try clear c57
        try clear p58
        try clear q58
        try clear hx58
        try clear hf58
        try clear p64
        try clear c69
        try clear c69b0
        try clear c70
        try clear c70b0
        try clear c71
        try clear c71b0
        try clear c72
        try clear c72b0
        try clear c72b1
        try clear c72b2
        try clear c76
        try clear c76b0
        try clear c76b1
        try clear hcz16_0
        try clear hcz16_1
        try clear hcz16_2
        try clear hcz16_3
        try clear hcz16_4
        try clear hcz16_5
        try clear hcz18_0
        try clear hcz18_1
        try clear hcz18_2
        try clear hcz18_3
        try clear hcz18_4
        try clear hcz18_5
        try clear hcz20_0
        try clear hcz20_1
        try clear hcz20_2
        try clear hcz20_3
        try clear hcz20_4
        try clear hcz20_5
        try clear hcz22_0
        try clear hcz22_1
        try clear hcz22_2
        try clear hcz22_3
        try clear hcz22_4
        try clear hcz22_5
        try clear hcz24_0
        try clear hcz24_1
        try clear hcz24_2
        try clear hcz24_3
        try clear hcz24_4
        try clear hcz24_5
        try clear hcz29_0
        try clear hcz29_1
        try clear hcz29_2
        try clear hcz29_3
        try clear hcz29_4
        try clear hcz29_5
        try clear hcz31_0
        try clear hcz31_1
        try clear hcz31_2
        try clear hcz31_3
        try clear hcz31_4
        try clear hcz31_5
        try clear hcz33_0
        try clear hcz33_1
        try clear hcz33_2
        try clear hcz33_3
        try clear hcz33_4
        try clear hcz33_5
        try clear hcz35_0
        try clear hcz35_1
        try clear hcz35_2
        try clear hcz35_3
        try clear hcz35_4
        try clear hcz35_5
        try clear hcz37_0
        try clear hcz37_1
        try clear hcz37_2
        try clear hcz37_3
        try clear hcz37_4
        try clear hcz37_5
        try clear hcz45_0
        try clear hcz45_1
        try clear hcz45_2
        try clear hcz45_3
        try clear hcz45_4
        try clear hcz45_5
        try clear hcz66_0
        try clear hcz66_1
        try clear hcz66_2
        try clear hcz66_3
        try clear hcz66_4
        try clear hcz66_5
        try clear hcz8_0
        try clear hcz8_1
        try clear hcz8_2
        try clear hcz8_3
        try clear hcz8_4
        try clear hcz8_5
        try clear hfz16_0
        try clear hfz16_1
        try clear hfz16_2
        try clear hfz16_3
        try clear hfz16_4
        try clear hfz16_5
        try clear hfz18_0
        try clear hfz18_1
        try clear hfz18_2
        try clear hfz18_3
        try clear hfz18_4
        try clear hfz18_5
        try clear hfz20_0
        try clear hfz20_1
        try clear hfz20_2
        try clear hfz20_3
        try clear hfz20_4
        try clear hfz20_5
        try clear hfz22_0
        try clear hfz22_1
        try clear hfz22_2
        try clear hfz22_3
        try clear hfz22_4
        try clear hfz22_5
        try clear hfz24_0
        try clear hfz24_1
        try clear hfz24_2
        try clear hfz24_3
        try clear hfz24_4
        try clear hfz24_5
        try clear hfz29_0
        try clear hfz29_1
        try clear hfz29_2
        try clear hfz29_3
        try clear hfz29_4
        try clear hfz29_5
        try clear hfz31_0
        try clear hfz31_1
        try clear hfz31_2
        try clear hfz31_3
        try clear hfz31_4
        try clear hfz31_5
        try clear hfz33_0
        try clear hfz33_1
        try clear hfz33_2
        try clear hfz33_3
        try clear hfz33_4
        try clear hfz33_5
        try clear hfz35_0
        try clear hfz35_1
        try clear hfz35_2
        try clear hfz35_3
        try clear hfz35_4
        try clear hfz35_5
        try clear hfz37_0
        try clear hfz37_1
        try clear hfz37_2
        try clear hfz37_3
        try clear hfz37_4
        try clear hfz37_5
        try clear hfz45_0
        try clear hfz45_1
        try clear hfz45_2
        try clear hfz45_3
        try clear hfz45_4
        try clear hfz45_5
        try clear hfz66_0
        try clear hfz66_1
        try clear hfz66_2
        try clear hfz66_3
        try clear hfz66_4
        try clear hfz66_5
        try clear hfz8_0
        try clear hfz8_1
        try clear hfz8_2
        try clear hfz8_3
        try clear hfz8_4
        try clear hfz8_5
        try clear hx475_0
        try clear hx479_0
        try clear hx480_0
        try clear hx481_0
        try clear hx482_0
        try clear hx483_0
        try clear hx484_0
        try clear hx485_0
        try clear hx490_0
        try clear hx491_0
        try clear hx492_0
        try clear hx58_0
        try clear p2
        try clear p4
        try clear p47
        try clear p475
        try clear p479
        try clear p48
        try clear p480
        try clear p481
        try clear p482
        try clear p483
        try clear p484
        try clear p485
        try clear p490
        try clear p491
        try clear p492
        try clear p5
        try clear p58
        try clear p6
        try clear p64
        try clear q4
        try clear q47
        try clear q475
        try clear q479
        try clear q48
        try clear q480
        try clear q481
        try clear q482
        try clear q483
        try clear q484
        try clear q485
        try clear q490
        try clear q491
        try clear q492
        try clear q5
        try clear q56
        try clear q58
        obtain ⟨kq, x10_72, rfl, HA, HJ72, HO_4, HO_5, HO_6, BK463, HB⟩ := hcut
        cases kq with
        | zero => exact absurd HA.out (by simp [truantlaw09_FlowOrder.j3])
        | succ kj72 =>
         have H := HA.out
         clear HA
         simp only [truantlaw09_FlowOrder.j3] at H
         have H' := Aside0.mk H
         clear H
         go_wp2
         repeat (go_quiet (fail); try go_wp2)
         go_loopg [10, 11] kj72 (fun kq v10 v11 w' => ∃ (x10_5 : Bool) (x11_5 : Int), v10 = .bool x10_5 ∧ v11 = .int .i64 x11_5 ∧ Aside0 (truantlaw09_FlowOrder.l2 kq t469 t472 x6_2 bx8 x9_3 x10_5 x11_5 = some r) ∧ Aside0 (kq ≤ kj72) ∧ Aside0 (Kd.R Kd.bool 4 w' w.heap.size (fun _ => True) (.slice (some ad490) t469.length co75) t469) ∧ Aside0 (Kd.S (Kd.slice 3 (Kd.int .i64)) 34 w' w.heap.size (fun k_ => some k_ ≠ ((.slice (some ad491) x6_2.length co74) : Value).ownBlock) v473 t472) ∧ Aside0 (Kd.R (Kd.int .i64) 3 w' w.heap.size (fun _ => True) (.slice (some ad491) x6_2.length co74) x6_2) ∧ Aside0 (w'.heap[gb463]? = some (.cells #[.string a0_0, (.slice A0_1 l0_1.length c0_1), .string a0_2, (.slice A0_3 l0_3.length c0_3), (.slice A0_4 l0_4.length c0_4), (.slice A0_5 l0_5.length c0_5)] 26 (0, 0))) ∧ Aside0 (Below w.heap.size w w'))
         case atStart => exact ⟨(x10_72), (0), (by first | rfl | (simp; done) | (simp [*]; done)), (by first | rfl | (simp; done) | (simp [*]; done)), H', ⟨Nat.le_refl _⟩, ⟨by (with_reducible repeat (first | apply Kd.R_alloc | apply Kd.R_drewN | apply Kd.R_drew)); exact HO_4.out⟩, ⟨by (with_reducible repeat (first | apply Kd.S_alloc | apply Kd.S_drewN | apply Kd.S_drew)); exact HO_5.out⟩, ⟨by (with_reducible repeat (first | apply Kd.R_alloc | apply Kd.R_drewN | apply Kd.R_drew)); exact HO_6.out⟩, ⟨by (with_reducible repeat (first | refine blk_drewN ?_ _ | refine blk_drew ?_ | refine blk_alloc ?_ _)); exact BK463.out⟩, ⟨by repeat (first | (with_reducible first | exact HB.out | apply below_alloc | apply pw_below_drewN | apply below_drew1 | refine below_set ?_ GE463.out) | exact HB.out)⟩⟩
         case round =>
          clear H'
          try clear c1
          try clear p2
          try clear c3
          try clear c4
          try clear p4
          try clear q4
          try clear hx4
          try clear qi4
          try clear c5
          try clear p5
          try clear q5
          try clear hx5
          try clear hf5
          try clear c6
          try clear p6
          try clear c7
          try clear c13
          try clear c13b0
          try clear c13b1
          try clear c13b2
          try clear c38
          try clear c38b0
          try clear c38b1
          try clear c38b2
          try clear c40
          try clear c40b0
          try clear c40b1
          try clear c42
          try clear c43
          try clear c43b0
          try clear c43b1
          try clear c44
          try clear c44b0
          try clear c44b1
          try clear p47
          try clear q47
          try clear hx47
          try clear qi47
          try clear c48
          try clear c48b0
          try clear p48
          try clear q48
          try clear hx48
          try clear c49
          try clear c49b0
          try clear p49
          try clear q49
          try clear hx49
          try clear c50
          try clear c50b0
          try clear c51
          try clear c51b0
          try clear c52
          try clear c52b0
          try clear c53
          try clear c53b0
          try clear c54
          try clear c54b0
          try clear c54b1
          try clear c55
          try clear c55b0
          try clear q56
          try clear c57
          try clear p58
          try clear q58
          try clear hx58
          try clear hf58
          try clear p64
          try clear c69
          try clear c69b0
          try clear c70
          try clear c70b0
          try clear c71
          try clear c71b0
          try clear c72
          try clear c72b0
          try clear c72b1
          try clear c72b2
          try clear c76
          try clear c76b0
          try clear c76b1
          try clear hcz16_0
          try clear hcz16_1
          try clear hcz16_2
          try clear hcz16_3
          try clear hcz16_4
          try clear hcz16_5
          try clear hcz18_0
          try clear hcz18_1
          try clear hcz18_2
          try clear hcz18_3
          try clear hcz18_4
          try clear hcz18_5
          try clear hcz20_0
          try clear hcz20_1
          try clear hcz20_2
          try clear hcz20_3
          try clear hcz20_4
          try clear hcz20_5
          try clear hcz22_0
          try clear hcz22_1
          try clear hcz22_2
          try clear hcz22_3
          try clear hcz22_4
          try clear hcz22_5
          try clear hcz24_0
          try clear hcz24_1
          try clear hcz24_2
          try clear hcz24_3
          try clear hcz24_4
          try clear hcz24_5
          try clear hcz29_0
          try clear hcz29_1
          try clear hcz29_2
          try clear hcz29_3
          try clear hcz29_4
          try clear hcz29_5
          try clear hcz31_0
          try clear hcz31_1
          try clear hcz31_2
          try clear hcz31_3
          try clear hcz31_4
          try clear hcz31_5
          try clear hcz33_0
          try clear hcz33_1
          try clear hcz33_2
          try clear hcz33_3
          try clear hcz33_4
          try clear hcz33_5
          try clear hcz35_0
          try clear hcz35_1
          try clear hcz35_2
          try clear hcz35_3
          try clear hcz35_4
          try clear hcz35_5
          try clear hcz37_0
          try clear hcz37_1
          try clear hcz37_2
          try clear hcz37_3
          try clear hcz37_4
          try clear hcz37_5
          try clear hcz45_0
          try clear hcz45_1
          try clear hcz45_2
          try clear hcz45_3
          try clear hcz45_4
          try clear hcz45_5
          try clear hcz66_0
          try clear hcz66_1
          try clear hcz66_2
          try clear hcz66_3
          try clear hcz66_4
          try clear hcz66_5
          try clear hcz8_0
          try clear hcz8_1
          try clear hcz8_2
          try clear hcz8_3
          try clear hcz8_4
          try clear hcz8_5
          try clear hfz16_0
          try clear hfz16_1
          try clear hfz16_2
          try clear hfz16_3
          try clear hfz16_4
          try clear hfz16_5
          try clear hfz18_0
          try clear hfz18_1
          try clear hfz18_2
          try clear hfz18_3
          try clear hfz18_4
          try clear hfz18_5
          try clear hfz20_0
          try clear hfz20_1
          try clear hfz20_2
          try clear hfz20_3
          try clear hfz20_4
          try clear hfz20_5
          try clear hfz22_0
          try clear hfz22_1
          try clear hfz22_2
          try clear hfz22_3
          try clear hfz22_4
          try clear hfz22_5
          try clear hfz24_0
          try clear hfz24_1
          try clear hfz24_2
          try clear hfz24_3
          try clear hfz24_4
          try clear hfz24_5
          try clear hfz29_0
          try clear hfz29_1
          try clear hfz29_2
          try clear hfz29_3
          try clear hfz29_4
          try clear hfz29_5
          try clear hfz31_0
          try clear hfz31_1
          try clear hfz31_2
          try clear hfz31_3
          try clear hfz31_4
          try clear hfz31_5
          try clear hfz33_0
          try clear hfz33_1
          try clear hfz33_2
          try clear hfz33_3
          try clear hfz33_4
          try clear hfz33_5
          try clear hfz35_0
          try clear hfz35_1
          try clear hfz35_2
          try clear hfz35_3
          try clear hfz35_4
          try clear hfz35_5
          try clear hfz37_0
          try clear hfz37_1
          try clear hfz37_2
          try clear hfz37_3
          try clear hfz37_4
          try clear hfz37_5
          try clear hfz45_0
          try clear hfz45_1
          try clear hfz45_2
          try clear hfz45_3
          try clear hfz45_4
          try clear hfz45_5
          try clear hfz66_0
          try clear hfz66_1
          try clear hfz66_2
          try clear hfz66_3
          try clear hfz66_4
          try clear hfz66_5
          try clear hfz8_0
          try clear hfz8_1
          try clear hfz8_2
          try clear hfz8_3
          try clear hfz8_4
          try clear hfz8_5
          try clear hx475_0
          try clear hx479_0
          try clear hx480_0
          try clear hx481_0
          try clear hx482_0
          try clear hx483_0
          try clear hx484_0
          try clear hx485_0
          try clear hx490_0
          try clear hx491_0
          try clear hx492_0
          try clear hx58_0
          try clear p2
          try clear p4
          try clear p47
          try clear p475
          try clear p479
          try clear p48
          try clear p480
          try clear p481
          try clear p482
          try clear p483
          try clear p484
          try clear p485
          try clear p49
          try clear p490
          try clear p491
          try clear p492
          try clear p5
          try clear p58
          try clear p6
          try clear p64
          try clear q4
          try clear q47
          try clear q475
          try clear q479
          try clear q48
          try clear q480
          try clear q481
          try clear q482
          try clear q483
          try clear q484
          try clear q485
          try clear q49
          try clear q490
          try clear q491
          try clear q492
          try clear q5
          try clear q56
          try clear q58
          obtain ⟨x10_5, x11_5, rfl, rfl, HA, HK5, HO_4, HO_5, HO_6, BK463, HB⟩ := hrel
          cases gk with
          | zero => exact absurd HA.out (by simp [truantlaw09_FlowOrder.l2])
          | succ k5 =>
           have H := HA.out
           clear HA
           simp only [truantlaw09_FlowOrder.l2] at H
           by_cases c77 : 0 ≤ x9_3
           rotate_left
           ·rw [if_neg c77] at H
            exact absurd H (by simp)
           rw [if_pos c77] at H
           have c77b0 : decide (0 ≤ x9_3) = true := decide_eq_true c77
           clear c77
           by_cases c78 : x9_3 < (t472.length : Int)
           rotate_left
           ·rw [if_neg c78] at H
            exact absurd H (by simp)
           rw [if_pos c78] at H
           have c78b0 : decide (x9_3 < (t472.length : Int)) = true := decide_eq_true c78
           clear c78
           by_cases c79 : x11_5 < ((rd_L2 t472 x9_3).length : Int)
           rotate_left
           ·rw [if_neg c79] at H
            have c79b0 : decide (x11_5 < ((rd_L2 t472 x9_3).length : Int)) = false := decide_eq_false c79
            clear c79
            by_cases c116 : x10_5 = true
            rotate_left
            ·replace c116 := Bool.eq_false_iff.mpr c116
             subst c116
             have H1 : (none) = some r := by rw [if_neg (show ¬ (false = true) by decide)] at H; exact H
             clear H
             have H := H1
             clear H1
             exact absurd H (by simp)
            subst c116
            have H1 : (truantlaw09_FlowOrder.l1 k5 t469 t472 x6_2 bx8 (wrap64 (x9_3 + 1))) = some r := by rw [if_pos rfl] at H; exact H
            clear H
            have H := H1
            clear H1
            have H' := Aside0.mk H
            clear H
            obtain ⟨Ao117, co117, eo117⟩ := Kd.S_slice HO_5.out
            subst eo117
            have p493 : 0 ≤ (x9_3 : Int) := of_decide_eq_true (by first | (with_reducible assumption) | assumption)
            have q493 : x9_3 < (t472.length : Int) := of_decide_eq_true (by first | (with_reducible assumption) | assumption)
            obtain ⟨ad493, A493_0, c493_0, e493, hx493_0, hl493_0, hi493_0⟩ := at_L2 (Kd.S_reads' HO_5.out).2.2 x9_3 p493 q493
            cases e493
            obtain ⟨ce493, hce493, hMe493, hcc493⟩ := Kd.S_get HO_5.out [] x9_3 p493 (by first | exact q493 | exact of_decide_eq_true (by first | (with_reducible assumption) | assumption) | (have e_ := (Kd.S_reads' HO_5.out).1; omega))
            obtain ⟨ve493_0, rfl, ge493_0⟩ := hMe493
            have hv493_0 := hcc493 0 _ rfl
            rw [Nat.add_zero, show ((Kd.slice 3 (Kd.int .i64))).sz = 1 from rfl, Nat.mul_one] at hv493_0
            replace hv493_0 := Option.some.inj (hv493_0.symm.trans hx493_0)
            rw [hv493_0] at ge493_0
            have HL493_0 := Aside0.mk (show Kd.R (Kd.int .i64) 3 _ _ _ _ (rd_L2 t472 x9_3) from ge493_0)
            clear hv493_0 ge493_0
            clear hcc493 hce493
            have HR493_0 := Aside0.mk hi493_0
            have HC493_0 := Aside0.mk hl493_0
            clear hi493_0 hl493_0
            replace p493 := eq_true p493
            replace q493 := eq_true q493
            go_wp2
            repeat (go_quiet (fail); try go_wp2)
            go_roundg k5
            case measure => have := HJ25.out; have := HK2.out; have := HK3.out; have := HJ72.out; have := HK5.out; omega
            case rel => exact ⟨(wrap64 (x9_3 + 1)), (by first | rfl | (simp; done) | (simp [*]; done)), H', ⟨by have := HJ25.out; have := HK2.out; have := HK3.out; have := HJ72.out; have := HK5.out; omega⟩, ⟨by (with_reducible repeat (first | apply Kd.R_alloc | apply Kd.R_drewN | apply Kd.R_drew)); exact HO_4.out⟩, ⟨by (with_reducible repeat (first | apply Kd.S_alloc | apply Kd.S_drewN | apply Kd.S_drew)); exact HO_5.out⟩, ⟨by (with_reducible repeat (first | apply Kd.R_alloc | apply Kd.R_drewN | apply Kd.R_drew)); exact HO_6.out⟩, ⟨by (with_reducible repeat (first | refine blk_drewN ?_ _ | refine blk_drew ?_ | refine blk_alloc ?_ _)); exact BK463.out⟩, ⟨by repeat (first | (with_reducible first | exact HB.out | apply below_alloc | apply pw_below_drewN | apply below_drew1 | refine below_set ?_ GE463.out) | exact HB.out)⟩⟩
           rw [if_pos c79] at H
           have c79b0 : decide (x11_5 < ((rd_L2 t472 x9_3).length : Int)) = true := decide_eq_true c79
           clear c79
           by_cases c80 : 0 ≤ x11_5
           rotate_left
           ·rw [if_neg c80] at H
            exact absurd H (by simp)
           rw [if_pos c80] at H
           have c80b0 : decide (0 ≤ x11_5) = true := decide_eq_true c80
           clear c80
           by_cases c81 : x10_5 = true
           ·subst c81
            have H1 : (if x9_3 < (t469.length : Int) then (if rdOf false t469 x9_3 = true then (if 0 ≤ (rd (rd_L2 t472 x9_3) x11_5) then (if (rd (rd_L2 t472 x9_3) x11_5) < (t469.length : Int) then (if rdOf false t469 (rd (rd_L2 t472 x9_3) x11_5) = true then (if bx8 = true then (truantlaw09_FlowOrder.l2 k5 t469 t472 x6_2 bx8 x9_3 true (wrap64 (x11_5 + 1))) else (if (rd (rd_L2 t472 x9_3) x11_5) < (x6_2.length : Int) then (if x9_3 < (x6_2.length : Int) then (if (rd x6_2 (rd (rd_L2 t472 x9_3) x11_5)) ≥ (rd x6_2 x9_3) then (none) else (truantlaw09_FlowOrder.l2 k5 t469 t472 x6_2 bx8 x9_3 true (wrap64 (x11_5 + 1)))) else (none)) else (none))) else (truantlaw09_FlowOrder.l2 k5 t469 t472 x6_2 bx8 x9_3 true (wrap64 (x11_5 + 1)))) else (none)) else (none)) else (truantlaw09_FlowOrder.l2 k5 t469 t472 x6_2 bx8 x9_3 true (wrap64 (x11_5 + 1)))) else (none)) = some r := by rw [if_pos rfl] at H; exact H
            clear H
            have H := H1
            clear H1
            by_cases c82 : x9_3 < (t469.length : Int)
            rotate_left
            ·rw [if_neg c82] at H
             exact absurd H (by simp)
            rw [if_pos c82] at H
            have c82b0 : decide (x9_3 < (t469.length : Int)) = true := decide_eq_true c82
            clear c82
            obtain ⟨bq83, hbq83⟩ : ∃ b_ : Bool, b_ = (rdOf false t469 x9_3) := ⟨_, rfl⟩
            replace H : (if bq83 = true then (if 0 ≤ (rd (rd_L2 t472 x9_3) x11_5) then (if (rd (rd_L2 t472 x9_3) x11_5) < (t469.length : Int) then (if rdOf false t469 (rd (rd_L2 t472 x9_3) x11_5) = true then (if bx8 = true then (truantlaw09_FlowOrder.l2 k5 t469 t472 x6_2 bx8 x9_3 true (wrap64 (x11_5 + 1))) else (if (rd (rd_L2 t472 x9_3) x11_5) < (x6_2.length : Int) then (if x9_3 < (x6_2.length : Int) then (if (rd x6_2 (rd (rd_L2 t472 x9_3) x11_5)) ≥ (rd x6_2 x9_3) then (none) else (truantlaw09_FlowOrder.l2 k5 t469 t472 x6_2 bx8 x9_3 true (wrap64 (x11_5 + 1)))) else (none)) else (none))) else (truantlaw09_FlowOrder.l2 k5 t469 t472 x6_2 bx8 x9_3 true (wrap64 (x11_5 + 1)))) else (none)) else (none)) else (truantlaw09_FlowOrder.l2 k5 t469 t472 x6_2 bx8 x9_3 true (wrap64 (x11_5 + 1)))) = some r := by rw [← hbq83] at H; exact H
            have Nbq83 := Aside0.mk hbq83
            clear hbq83
            by_cases c84 : bq83 = true
            rotate_left
            ·replace c84 := Bool.eq_false_iff.mpr c84
             subst c84
             have H1 : (truantlaw09_FlowOrder.l2 k5 t469 t472 x6_2 bx8 x9_3 true (wrap64 (x11_5 + 1))) = some r := by rw [if_neg (show ¬ (false = true) by decide)] at H; exact H
             clear H
             have H := H1
             clear H1
             have H' := Aside0.mk H
             clear H
             obtain ⟨Ao96, co96, eo96⟩ := Kd.S_slice HO_5.out
             subst eo96
             have p493 : 0 ≤ (x9_3 : Int) := of_decide_eq_true (by first | (with_reducible assumption) | assumption)
             have q493 : x9_3 < (t472.length : Int) := of_decide_eq_true (by first | (with_reducible assumption) | assumption)
             obtain ⟨ad493, A493_0, c493_0, e493, hx493_0, hl493_0, hi493_0⟩ := at_L2 (Kd.S_reads' HO_5.out).2.2 x9_3 p493 q493
             cases e493
             obtain ⟨ce493, hce493, hMe493, hcc493⟩ := Kd.S_get HO_5.out [] x9_3 p493 (by first | exact q493 | exact of_decide_eq_true (by first | (with_reducible assumption) | assumption) | (have e_ := (Kd.S_reads' HO_5.out).1; omega))
             obtain ⟨ve493_0, rfl, ge493_0⟩ := hMe493
             have hv493_0 := hcc493 0 _ rfl
             rw [Nat.add_zero, show ((Kd.slice 3 (Kd.int .i64))).sz = 1 from rfl, Nat.mul_one] at hv493_0
             replace hv493_0 := Option.some.inj (hv493_0.symm.trans hx493_0)
             rw [hv493_0] at ge493_0
             have HL493_0 := Aside0.mk (show Kd.R (Kd.int .i64) 3 _ _ _ _ (rd_L2 t472 x9_3) from ge493_0)
             clear hv493_0 ge493_0
             clear hcc493 hce493
             have HR493_0 := Aside0.mk hi493_0
             have HC493_0 := Aside0.mk hl493_0
             clear hi493_0 hl493_0
             replace p493 := eq_true p493
             replace q493 := eq_true q493
             have p494 : 0 ≤ (x9_3 : Int) := of_decide_eq_true (by first | (with_reducible assumption) | assumption)
             have q494 : x9_3 < (t472.length : Int) := of_decide_eq_true (by first | (with_reducible assumption) | assumption)
             obtain ⟨ad494, A494_0, c494_0, e494, hx494_0, hl494_0, hi494_0⟩ := at_L2 (Kd.S_reads' HO_5.out).2.2 x9_3 p494 q494
             obtain rfl : ad493 = ad494 := (by injection e494)
             obtain ⟨ce494, hce494, hMe494, hcc494⟩ := Kd.S_get HO_5.out [] x9_3 p494 (by first | exact q494 | exact of_decide_eq_true (by first | (with_reducible assumption) | assumption) | (have e_ := (Kd.S_reads' HO_5.out).1; omega))
             obtain ⟨ve494_0, rfl, ge494_0⟩ := hMe494
             have hv494_0 := hcc494 0 _ rfl
             rw [Nat.add_zero, show ((Kd.slice 3 (Kd.int .i64))).sz = 1 from rfl, Nat.mul_one] at hv494_0
             replace hv494_0 := Option.some.inj (hv494_0.symm.trans hx494_0)
             rw [hv494_0] at ge494_0
             have HL494_0 := Aside0.mk (show Kd.R (Kd.int .i64) 3 _ _ _ _ (rd_L2 t472 x9_3) from ge494_0)
             clear hv494_0 ge494_0
             clear hcc494 hce494
             have HR494_0 := Aside0.mk hi494_0
             have HC494_0 := Aside0.mk hl494_0
             clear hi494_0 hl494_0
             replace p494 := eq_true p494
             replace q494 := eq_true q494
             have ea_ := Option.some.inj (hx493_0.symm.trans hx494_0)
             injection ea_ with ea_ en_ ec_
             subst ea_
             subst ec_
             clear en_
             have p495 : 0 ≤ (x11_5 : Int) := of_decide_eq_true (by first | (with_reducible assumption) | assumption)
             have q495 : x11_5 < ((rd_L2 t472 x9_3).length : Int) := of_decide_eq_true (by first | (with_reducible assumption) | assumption)
             obtain ⟨ad495, e495, hx495_0⟩ := Kd.at_int (by repeat (first | (with_reducible exact HR494_0.out) | (with_reducible refine Kd.C_alloc ?_ _) | (with_reducible refine Kd.C_drewN ?_ _) | (with_reducible refine Kd.C_drew ?_) | exact HR494_0.out)) x11_5 p495 q495
             cases e495
             replace p495 := eq_true p495
             replace q495 := eq_true q495
             have p496 : 0 ≤ (x9_3 : Int) := of_decide_eq_true (by first | (with_reducible assumption) | assumption)
             have q496 : x9_3 < (t469.length : Int) := of_decide_eq_true (by first | (with_reducible assumption) | assumption)
             obtain ⟨ad496, e496, hx496_0⟩ := Kd.at_bool (Kd.R_reads' HO_4.out).2.2 x9_3 p496 q496
             (try rw [← Nbq83.out] at hx496_0)
             obtain rfl : ad490 = ad496 := (by injection e496)
             replace p496 := eq_true p496
             replace q496 := eq_true q496
             go_wp2
             repeat (go_quiet (fail); try go_wp2)
             go_roundg k5
             case measure => have := HJ25.out; have := HK2.out; have := HK3.out; have := HJ72.out; have := HK5.out; omega
             case rel => exact ⟨(true), (wrap64 (x11_5 + 1)), (by first | rfl | (simp; done) | (simp [*]; done)), (by first | rfl | (simp; done) | (simp [*]; done)), H', ⟨by have := HJ25.out; have := HK2.out; have := HK3.out; have := HJ72.out; have := HK5.out; omega⟩, ⟨by (with_reducible repeat (first | apply Kd.R_alloc | apply Kd.R_drewN | apply Kd.R_drew)); exact HO_4.out⟩, ⟨by (with_reducible repeat (first | apply Kd.S_alloc | apply Kd.S_drewN | apply Kd.S_drew)); exact HO_5.out⟩, ⟨by (with_reducible repeat (first | apply Kd.R_alloc | apply Kd.R_drewN | apply Kd.R_drew)); exact HO_6.out⟩, ⟨by (with_reducible repeat (first | refine blk_drewN ?_ _ | refine blk_drew ?_ | refine blk_alloc ?_ _)); exact BK463.out⟩, ⟨by repeat (first | (with_reducible first | exact HB.out | apply below_alloc | apply pw_below_drewN | apply below_drew1 | refine below_set ?_ GE463.out) | exact HB.out)⟩⟩
            subst c84
            have H1 : (if 0 ≤ (rd (rd_L2 t472 x9_3) x11_5) then (if (rd (rd_L2 t472 x9_3) x11_5) < (t469.length : Int) then (if rdOf false t469 (rd (rd_L2 t472 x9_3) x11_5) = true then (if bx8 = true then (truantlaw09_FlowOrder.l2 k5 t469 t472 x6_2 bx8 x9_3 true (wrap64 (x11_5 + 1))) else (if (rd (rd_L2 t472 x9_3) x11_5) < (x6_2.length : Int) then (if x9_3 < (x6_2.length : Int) then (if (rd x6_2 (rd (rd_L2 t472 x9_3) x11_5)) ≥ (rd x6_2 x9_3) then (none) else (truantlaw09_FlowOrder.l2 k5 t469 t472 x6_2 bx8 x9_3 true (wrap64 (x11_5 + 1)))) else (none)) else (none))) else (truantlaw09_FlowOrder.l2 k5 t469 t472 x6_2 bx8 x9_3 true (wrap64 (x11_5 + 1)))) else (none)) else (none)) = some r := by rw [if_pos rfl] at H; exact H
            clear H
            have H := H1
            clear H1
            by_cases c85 : 0 ≤ (rd (rd_L2 t472 x9_3) x11_5)
            rotate_left
            ·rw [if_neg c85] at H
             exact absurd H (by simp)
            rw [if_pos c85] at H
            have c85b0 : decide (0 ≤ (rd (rd_L2 t472 x9_3) x11_5)) = true := decide_eq_true c85
            clear c85
            by_cases c86 : (rd (rd_L2 t472 x9_3) x11_5) < (t469.length : Int)
            rotate_left
            ·rw [if_neg c86] at H
             exact absurd H (by simp)
            rw [if_pos c86] at H
            have c86b0 : decide ((rd (rd_L2 t472 x9_3) x11_5) < (t469.length : Int)) = true := decide_eq_true c86
            clear c86
            obtain ⟨bq87, hbq87⟩ : ∃ b_ : Bool, b_ = (rdOf false t469 (rd (rd_L2 t472 x9_3) x11_5)) := ⟨_, rfl⟩
            replace H : (if bq87 = true then (if bx8 = true then (truantlaw09_FlowOrder.l2 k5 t469 t472 x6_2 bx8 x9_3 true (wrap64 (x11_5 + 1))) else (if (rd (rd_L2 t472 x9_3) x11_5) < (x6_2.length : Int) then (if x9_3 < (x6_2.length : Int) then (if (rd x6_2 (rd (rd_L2 t472 x9_3) x11_5)) ≥ (rd x6_2 x9_3) then (none) else (truantlaw09_FlowOrder.l2 k5 t469 t472 x6_2 bx8 x9_3 true (wrap64 (x11_5 + 1)))) else (none)) else (none))) else (truantlaw09_FlowOrder.l2 k5 t469 t472 x6_2 bx8 x9_3 true (wrap64 (x11_5 + 1)))) = some r := by rw [← hbq87] at H; exact H
            have Nbq87 := Aside0.mk hbq87
            clear hbq87
            by_cases c88 : bq87 = true
            rotate_left
            ·replace c88 := Bool.eq_false_iff.mpr c88
             subst c88
             have H1 : (truantlaw09_FlowOrder.l2 k5 t469 t472 x6_2 bx8 x9_3 true (wrap64 (x11_5 + 1))) = some r := by rw [if_neg (show ¬ (false = true) by decide)] at H; exact H
             clear H
             have H := H1
             clear H1
             have H' := Aside0.mk H
             clear H
             obtain ⟨Ao95, co95, eo95⟩ := Kd.S_slice HO_5.out
             subst eo95
             have p493 : 0 ≤ (x9_3 : Int) := of_decide_eq_true (by first | (with_reducible assumption) | assumption)
             have q493 : x9_3 < (t472.length : Int) := of_decide_eq_true (by first | (with_reducible assumption) | assumption)
             obtain ⟨ad493, A493_0, c493_0, e493, hx493_0, hl493_0, hi493_0⟩ := at_L2 (Kd.S_reads' HO_5.out).2.2 x9_3 p493 q493
             cases e493
             obtain ⟨ce493, hce493, hMe493, hcc493⟩ := Kd.S_get HO_5.out [] x9_3 p493 (by first | exact q493 | exact of_decide_eq_true (by first | (with_reducible assumption) | assumption) | (have e_ := (Kd.S_reads' HO_5.out).1; omega))
             obtain ⟨ve493_0, rfl, ge493_0⟩ := hMe493
             have hv493_0 := hcc493 0 _ rfl
             rw [Nat.add_zero, show ((Kd.slice 3 (Kd.int .i64))).sz = 1 from rfl, Nat.mul_one] at hv493_0
             replace hv493_0 := Option.some.inj (hv493_0.symm.trans hx493_0)
             rw [hv493_0] at ge493_0
             have HL493_0 := Aside0.mk (show Kd.R (Kd.int .i64) 3 _ _ _ _ (rd_L2 t472 x9_3) from ge493_0)
             clear hv493_0 ge493_0
             clear hcc493 hce493
             have HR493_0 := Aside0.mk hi493_0
             have HC493_0 := Aside0.mk hl493_0
             clear hi493_0 hl493_0
             replace p493 := eq_true p493
             replace q493 := eq_true q493
             have p494 : 0 ≤ (x9_3 : Int) := of_decide_eq_true (by first | (with_reducible assumption) | assumption)
             have q494 : x9_3 < (t472.length : Int) := of_decide_eq_true (by first | (with_reducible assumption) | assumption)
             obtain ⟨ad494, A494_0, c494_0, e494, hx494_0, hl494_0, hi494_0⟩ := at_L2 (Kd.S_reads' HO_5.out).2.2 x9_3 p494 q494
             obtain rfl : ad493 = ad494 := (by injection e494)
             obtain ⟨ce494, hce494, hMe494, hcc494⟩ := Kd.S_get HO_5.out [] x9_3 p494 (by first | exact q494 | exact of_decide_eq_true (by first | (with_reducible assumption) | assumption) | (have e_ := (Kd.S_reads' HO_5.out).1; omega))
             obtain ⟨ve494_0, rfl, ge494_0⟩ := hMe494
             have hv494_0 := hcc494 0 _ rfl
             rw [Nat.add_zero, show ((Kd.slice 3 (Kd.int .i64))).sz = 1 from rfl, Nat.mul_one] at hv494_0
             replace hv494_0 := Option.some.inj (hv494_0.symm.trans hx494_0)
             rw [hv494_0] at ge494_0
             have HL494_0 := Aside0.mk (show Kd.R (Kd.int .i64) 3 _ _ _ _ (rd_L2 t472 x9_3) from ge494_0)
             clear hv494_0 ge494_0
             clear hcc494 hce494
             have HR494_0 := Aside0.mk hi494_0
             have HC494_0 := Aside0.mk hl494_0
             clear hi494_0 hl494_0
             replace p494 := eq_true p494
             replace q494 := eq_true q494
             have ea_ := Option.some.inj (hx493_0.symm.trans hx494_0)
             injection ea_ with ea_ en_ ec_
             subst ea_
             subst ec_
             clear en_
             have p495 : 0 ≤ (x11_5 : Int) := of_decide_eq_true (by first | (with_reducible assumption) | assumption)
             have q495 : x11_5 < ((rd_L2 t472 x9_3).length : Int) := of_decide_eq_true (by first | (with_reducible assumption) | assumption)
             obtain ⟨ad495, e495, hx495_0⟩ := Kd.at_int (by repeat (first | (with_reducible exact HR494_0.out) | (with_reducible refine Kd.C_alloc ?_ _) | (with_reducible refine Kd.C_drewN ?_ _) | (with_reducible refine Kd.C_drew ?_) | exact HR494_0.out)) x11_5 p495 q495
             cases e495
             replace p495 := eq_true p495
             replace q495 := eq_true q495
             have p496 : 0 ≤ (x9_3 : Int) := of_decide_eq_true (by first | (with_reducible assumption) | assumption)
             have q496 : x9_3 < (t469.length : Int) := of_decide_eq_true (by first | (with_reducible assumption) | assumption)
             obtain ⟨ad496, e496, hx496_0⟩ := Kd.at_bool (Kd.R_reads' HO_4.out).2.2 x9_3 p496 q496
             (try rw [← Nbq83.out] at hx496_0)
             (try rw [← Nbq87.out] at hx496_0)
             obtain rfl : ad490 = ad496 := (by injection e496)
             replace p496 := eq_true p496
             replace q496 := eq_true q496
             have p497 : 0 ≤ ((rd (rd_L2 t472 x9_3) x11_5) : Int) := of_decide_eq_true (by first | (with_reducible assumption) | assumption)
             have q497 : (rd (rd_L2 t472 x9_3) x11_5) < (t469.length : Int) := of_decide_eq_true (by first | (with_reducible assumption) | assumption)
             obtain ⟨ad497, e497, hx497_0⟩ := Kd.at_bool (Kd.R_reads' HO_4.out).2.2 (rd (rd_L2 t472 x9_3) x11_5) p497 q497
             (try rw [← Nbq83.out] at hx497_0)
             (try rw [← Nbq87.out] at hx497_0)
             obtain rfl : ad490 = ad497 := (by injection e497)
             replace p497 := eq_true p497
             replace q497 := eq_true q497
             go_wp2
             repeat (go_quiet (fail); try go_wp2)
             go_roundg k5
             case measure => have := HJ25.out; have := HK2.out; have := HK3.out; have := HJ72.out; have := HK5.out; omega
             case rel => exact ⟨(true), (wrap64 (x11_5 + 1)), (by first | rfl | (simp; done) | (simp [*]; done)), (by first | rfl | (simp; done) | (simp [*]; done)), H', ⟨by have := HJ25.out; have := HK2.out; have := HK3.out; have := HJ72.out; have := HK5.out; omega⟩, ⟨by (with_reducible repeat (first | apply Kd.R_alloc | apply Kd.R_drewN | apply Kd.R_drew)); exact HO_4.out⟩, ⟨by (with_reducible repeat (first | apply Kd.S_alloc | apply Kd.S_drewN | apply Kd.S_drew)); exact HO_5.out⟩, ⟨by (with_reducible repeat (first | apply Kd.R_alloc | apply Kd.R_drewN | apply Kd.R_drew)); exact HO_6.out⟩, ⟨by (with_reducible repeat (first | refine blk_drewN ?_ _ | refine blk_drew ?_ | refine blk_alloc ?_ _)); exact BK463.out⟩, ⟨by repeat (first | (with_reducible first | exact HB.out | apply below_alloc | apply pw_below_drewN | apply below_drew1 | refine below_set ?_ GE463.out) | exact HB.out)⟩⟩
            subst c88
            have H1 : (if bx8 = true then (truantlaw09_FlowOrder.l2 k5 t469 t472 x6_2 bx8 x9_3 true (wrap64 (x11_5 + 1))) else (if (rd (rd_L2 t472 x9_3) x11_5) < (x6_2.length : Int) then (if x9_3 < (x6_2.length : Int) then (if (rd x6_2 (rd (rd_L2 t472 x9_3) x11_5)) ≥ (rd x6_2 x9_3) then (none) else (truantlaw09_FlowOrder.l2 k5 t469 t472 x6_2 bx8 x9_3 true (wrap64 (x11_5 + 1)))) else (none)) else (none))) = some r := by rw [if_pos rfl] at H; exact H
            clear H
            have H := H1
            clear H1
            by_cases c89 : bx8 = true
            ·rw [if_pos c89] at H
             subst c89
             have H' := Aside0.mk H
             clear H
             obtain ⟨Ao90, co90, eo90⟩ := Kd.S_slice HO_5.out
             subst eo90
             have p493 : 0 ≤ (x9_3 : Int) := of_decide_eq_true (by first | (with_reducible assumption) | assumption)
             have q493 : x9_3 < (t472.length : Int) := of_decide_eq_true (by first | (with_reducible assumption) | assumption)
             obtain ⟨ad493, A493_0, c493_0, e493, hx493_0, hl493_0, hi493_0⟩ := at_L2 (Kd.S_reads' HO_5.out).2.2 x9_3 p493 q493
             cases e493
             obtain ⟨ce493, hce493, hMe493, hcc493⟩ := Kd.S_get HO_5.out [] x9_3 p493 (by first | exact q493 | exact of_decide_eq_true (by first | (with_reducible assumption) | assumption) | (have e_ := (Kd.S_reads' HO_5.out).1; omega))
             obtain ⟨ve493_0, rfl, ge493_0⟩ := hMe493
             have hv493_0 := hcc493 0 _ rfl
             rw [Nat.add_zero, show ((Kd.slice 3 (Kd.int .i64))).sz = 1 from rfl, Nat.mul_one] at hv493_0
             replace hv493_0 := Option.some.inj (hv493_0.symm.trans hx493_0)
             rw [hv493_0] at ge493_0
             have HL493_0 := Aside0.mk (show Kd.R (Kd.int .i64) 3 _ _ _ _ (rd_L2 t472 x9_3) from ge493_0)
             clear hv493_0 ge493_0
             clear hcc493 hce493
             have HR493_0 := Aside0.mk hi493_0
             have HC493_0 := Aside0.mk hl493_0
             clear hi493_0 hl493_0
             replace p493 := eq_true p493
             replace q493 := eq_true q493
             have p494 : 0 ≤ (x9_3 : Int) := of_decide_eq_true (by first | (with_reducible assumption) | assumption)
             have q494 : x9_3 < (t472.length : Int) := of_decide_eq_true (by first | (with_reducible assumption) | assumption)
             obtain ⟨ad494, A494_0, c494_0, e494, hx494_0, hl494_0, hi494_0⟩ := at_L2 (Kd.S_reads' HO_5.out).2.2 x9_3 p494 q494
             obtain rfl : ad493 = ad494 := (by injection e494)
             obtain ⟨ce494, hce494, hMe494, hcc494⟩ := Kd.S_get HO_5.out [] x9_3 p494 (by first | exact q494 | exact of_decide_eq_true (by first | (with_reducible assumption) | assumption) | (have e_ := (Kd.S_reads' HO_5.out).1; omega))
             obtain ⟨ve494_0, rfl, ge494_0⟩ := hMe494
             have hv494_0 := hcc494 0 _ rfl
             rw [Nat.add_zero, show ((Kd.slice 3 (Kd.int .i64))).sz = 1 from rfl, Nat.mul_one] at hv494_0
             replace hv494_0 := Option.some.inj (hv494_0.symm.trans hx494_0)
             rw [hv494_0] at ge494_0
             have HL494_0 := Aside0.mk (show Kd.R (Kd.int .i64) 3 _ _ _ _ (rd_L2 t472 x9_3) from ge494_0)
             clear hv494_0 ge494_0
             clear hcc494 hce494
             have HR494_0 := Aside0.mk hi494_0
             have HC494_0 := Aside0.mk hl494_0
             clear hi494_0 hl494_0
             replace p494 := eq_true p494
             replace q494 := eq_true q494
             have ea_ := Option.some.inj (hx493_0.symm.trans hx494_0)
             injection ea_ with ea_ en_ ec_
             subst ea_
             subst ec_
             clear en_
             have p495 : 0 ≤ (x11_5 : Int) := of_decide_eq_true (by first | (with_reducible assumption) | assumption)
             have q495 : x11_5 < ((rd_L2 t472 x9_3).length : Int) := of_decide_eq_true (by first | (with_reducible assumption) | assumption)
             obtain ⟨ad495, e495, hx495_0⟩ := Kd.at_int (by repeat (first | (with_reducible exact HR494_0.out) | (with_reducible refine Kd.C_alloc ?_ _) | (with_reducible refine Kd.C_drewN ?_ _) | (with_reducible refine Kd.C_drew ?_) | exact HR494_0.out)) x11_5 p495 q495
             cases e495
             replace p495 := eq_true p495
             replace q495 := eq_true q495
             have p496 : 0 ≤ (x9_3 : Int) := of_decide_eq_true (by first | (with_reducible assumption) | assumption)
             have q496 : x9_3 < (t469.length : Int) := of_decide_eq_true (by first | (with_reducible assumption) | assumption)
             obtain ⟨ad496, e496, hx496_0⟩ := Kd.at_bool (Kd.R_reads' HO_4.out).2.2 x9_3 p496 q496
             (try rw [← Nbq83.out] at hx496_0)
             (try rw [← Nbq87.out] at hx496_0)
             obtain rfl : ad490 = ad496 := (by injection e496)
             replace p496 := eq_true p496
             replace q496 := eq_true q496
             have p497 : 0 ≤ ((rd (rd_L2 t472 x9_3) x11_5) : Int) := of_decide_eq_true (by first | (with_reducible assumption) | assumption)
             have q497 : (rd (rd_L2 t472 x9_3) x11_5) < (t469.length : Int) := of_decide_eq_true (by first | (with_reducible assumption) | assumption)
             obtain ⟨ad497, e497, hx497_0⟩ := Kd.at_bool (Kd.R_reads' HO_4.out).2.2 (rd (rd_L2 t472 x9_3) x11_5) p497 q497
             (try rw [← Nbq83.out] at hx497_0)
             (try rw [← Nbq87.out] at hx497_0)
             obtain rfl : ad490 = ad497 := (by injection e497)
             replace p497 := eq_true p497
             replace q497 := eq_true q497
             go_wp2
             repeat (go_quiet (fail); try go_wp2)
             go_roundg k5
             case measure => have := HJ25.out; have := HK2.out; have := HK3.out; have := HJ72.out; have := HK5.out; omega
             case rel => exact ⟨(true), (wrap64 (x11_5 + 1)), (by first | rfl | (simp; done) | (simp [*]; done)), (by first | rfl | (simp; done) | (simp [*]; done)), H', ⟨by have := HJ25.out; have := HK2.out; have := HK3.out; have := HJ72.out; have := HK5.out; omega⟩, ⟨by (with_reducible repeat (first | apply Kd.R_alloc | apply Kd.R_drewN | apply Kd.R_drew)); exact HO_4.out⟩, ⟨by (with_reducible repeat (first | apply Kd.S_alloc | apply Kd.S_drewN | apply Kd.S_drew)); exact HO_5.out⟩, ⟨by (with_reducible repeat (first | apply Kd.R_alloc | apply Kd.R_drewN | apply Kd.R_drew)); exact HO_6.out⟩, ⟨by (with_reducible repeat (first | refine blk_drewN ?_ _ | refine blk_drew ?_ | refine blk_alloc ?_ _)); exact BK463.out⟩, ⟨by repeat (first | (with_reducible first | exact HB.out | apply below_alloc | apply pw_below_drewN | apply below_drew1 | refine below_set ?_ GE463.out) | exact HB.out)⟩⟩
            rw [if_neg c89] at H
            have c89z : bx8 = false := Bool.eq_false_iff.mpr c89
            clear c89
            subst c89z
            by_cases c91 : (rd (rd_L2 t472 x9_3) x11_5) < (x6_2.length : Int)
            rotate_left
            ·rw [if_neg c91] at H
             exact absurd H (by simp)
            rw [if_pos c91] at H
            have c91b0 : decide ((rd (rd_L2 t472 x9_3) x11_5) < (x6_2.length : Int)) = true := decide_eq_true c91
            clear c91
            by_cases c92 : x9_3 < (x6_2.length : Int)
            rotate_left
            ·rw [if_neg c92] at H
             exact absurd H (by simp)
            rw [if_pos c92] at H
            have c92b0 : decide (x9_3 < (x6_2.length : Int)) = true := decide_eq_true c92
            clear c92
            by_cases c93 : (rd x6_2 (rd (rd_L2 t472 x9_3) x11_5)) ≥ (rd x6_2 x9_3)
            ·rw [if_pos c93] at H
             exact absurd H (by simp)
            rw [if_neg c93] at H
            have c93b0 : decide ((rd x6_2 x9_3) ≤ (rd x6_2 (rd (rd_L2 t472 x9_3) x11_5))) = false := decide_eq_false c93
            clear c93
            have H' := Aside0.mk H
            clear H
            obtain ⟨Ao94, co94, eo94⟩ := Kd.S_slice HO_5.out
            subst eo94
            have p493 : 0 ≤ (x9_3 : Int) := of_decide_eq_true (by first | (with_reducible assumption) | assumption)
            have q493 : x9_3 < (t472.length : Int) := of_decide_eq_true (by first | (with_reducible assumption) | assumption)
            obtain ⟨ad493, A493_0, c493_0, e493, hx493_0, hl493_0, hi493_0⟩ := at_L2 (Kd.S_reads' HO_5.out).2.2 x9_3 p493 q493
            cases e493
            obtain ⟨ce493, hce493, hMe493, hcc493⟩ := Kd.S_get HO_5.out [] x9_3 p493 (by first | exact q493 | exact of_decide_eq_true (by first | (with_reducible assumption) | assumption) | (have e_ := (Kd.S_reads' HO_5.out).1; omega))
            obtain ⟨ve493_0, rfl, ge493_0⟩ := hMe493
            have hv493_0 := hcc493 0 _ rfl
            rw [Nat.add_zero, show ((Kd.slice 3 (Kd.int .i64))).sz = 1 from rfl, Nat.mul_one] at hv493_0
            replace hv493_0 := Option.some.inj (hv493_0.symm.trans hx493_0)
            rw [hv493_0] at ge493_0
            have HL493_0 := Aside0.mk (show Kd.R (Kd.int .i64) 3 _ _ _ _ (rd_L2 t472 x9_3) from ge493_0)
            clear hv493_0 ge493_0
            clear hcc493 hce493
            have HR493_0 := Aside0.mk hi493_0
            have HC493_0 := Aside0.mk hl493_0
            clear hi493_0 hl493_0
            replace p493 := eq_true p493
            replace q493 := eq_true q493
            have p494 : 0 ≤ (x9_3 : Int) := of_decide_eq_true (by first | (with_reducible assumption) | assumption)
            have q494 : x9_3 < (t472.length : Int) := of_decide_eq_true (by first | (with_reducible assumption) | assumption)
            obtain ⟨ad494, A494_0, c494_0, e494, hx494_0, hl494_0, hi494_0⟩ := at_L2 (Kd.S_reads' HO_5.out).2.2 x9_3 p494 q494
            obtain rfl : ad493 = ad494 := (by injection e494)
            obtain ⟨ce494, hce494, hMe494, hcc494⟩ := Kd.S_get HO_5.out [] x9_3 p494 (by first | exact q494 | exact of_decide_eq_true (by first | (with_reducible assumption) | assumption) | (have e_ := (Kd.S_reads' HO_5.out).1; omega))
            obtain ⟨ve494_0, rfl, ge494_0⟩ := hMe494
            have hv494_0 := hcc494 0 _ rfl
            rw [Nat.add_zero, show ((Kd.slice 3 (Kd.int .i64))).sz = 1 from rfl, Nat.mul_one] at hv494_0
            replace hv494_0 := Option.some.inj (hv494_0.symm.trans hx494_0)
            rw [hv494_0] at ge494_0
            have HL494_0 := Aside0.mk (show Kd.R (Kd.int .i64) 3 _ _ _ _ (rd_L2 t472 x9_3) from ge494_0)
            clear hv494_0 ge494_0
            clear hcc494 hce494
            have HR494_0 := Aside0.mk hi494_0
            have HC494_0 := Aside0.mk hl494_0
            clear hi494_0 hl494_0
            replace p494 := eq_true p494
            replace q494 := eq_true q494
            have ea_ := Option.some.inj (hx493_0.symm.trans hx494_0)
            injection ea_ with ea_ en_ ec_
            subst ea_
            subst ec_
            clear en_
            have p495 : 0 ≤ (x11_5 : Int) := of_decide_eq_true (by first | (with_reducible assumption) | assumption)
            have q495 : x11_5 < ((rd_L2 t472 x9_3).length : Int) := of_decide_eq_true (by first | (with_reducible assumption) | assumption)
            obtain ⟨ad495, e495, hx495_0⟩ := Kd.at_int (by repeat (first | (with_reducible exact HR494_0.out) | (with_reducible refine Kd.C_alloc ?_ _) | (with_reducible refine Kd.C_drewN ?_ _) | (with_reducible refine Kd.C_drew ?_) | exact HR494_0.out)) x11_5 p495 q495
            cases e495
            replace p495 := eq_true p495
            replace q495 := eq_true q495
            have p496 : 0 ≤ (x9_3 : Int) := of_decide_eq_true (by first | (with_reducible assumption) | assumption)
            have q496 : x9_3 < (t469.length : Int) := of_decide_eq_true (by first | (with_reducible assumption) | assumption)
            obtain ⟨ad496, e496, hx496_0⟩ := Kd.at_bool (Kd.R_reads' HO_4.out).2.2 x9_3 p496 q496
            (try rw [← Nbq83.out] at hx496_0)
            (try rw [← Nbq87.out] at hx496_0)
            obtain rfl : ad490 = ad496 := (by injection e496)
            replace p496 := eq_true p496
            replace q496 := eq_true q496
            have p497 : 0 ≤ ((rd (rd_L2 t472 x9_3) x11_5) : Int) := of_decide_eq_true (by first | (with_reducible assumption) | assumption)
            have q497 : (rd (rd_L2 t472 x9_3) x11_5) < (t469.length : Int) := of_decide_eq_true (by first | (with_reducible assumption) | assumption)
            obtain ⟨ad497, e497, hx497_0⟩ := Kd.at_bool (Kd.R_reads' HO_4.out).2.2 (rd (rd_L2 t472 x9_3) x11_5) p497 q497
            (try rw [← Nbq83.out] at hx497_0)
            (try rw [← Nbq87.out] at hx497_0)
            obtain rfl : ad490 = ad497 := (by injection e497)
            replace p497 := eq_true p497
            replace q497 := eq_true q497
            have p498 : 0 ≤ ((rd (rd_L2 t472 x9_3) x11_5) : Int) := of_decide_eq_true (by first | (with_reducible assumption) | assumption)
            have q498 : (rd (rd_L2 t472 x9_3) x11_5) < (x6_2.length : Int) := of_decide_eq_true (by first | (with_reducible assumption) | assumption)
            obtain ⟨ad498, e498, hx498_0⟩ := Kd.at_int (Kd.R_reads' HO_6.out).2.2 (rd (rd_L2 t472 x9_3) x11_5) p498 q498
            obtain rfl : ad491 = ad498 := (by injection e498)
            replace p498 := eq_true p498
            replace q498 := eq_true q498
            have p499 : 0 ≤ (x9_3 : Int) := of_decide_eq_true (by first | (with_reducible assumption) | assumption)
            have q499 : x9_3 < (x6_2.length : Int) := of_decide_eq_true (by first | (with_reducible assumption) | assumption)
            obtain ⟨ad499, e499, hx499_0⟩ := Kd.at_int (Kd.R_reads' HO_6.out).2.2 x9_3 p499 q499
            obtain rfl : ad491 = ad499 := (by injection e499)
            replace p499 := eq_true p499
            replace q499 := eq_true q499
            go_wp2
            repeat (go_quiet (fail); try go_wp2)
            go_roundg k5
            case measure => have := HJ25.out; have := HK2.out; have := HK3.out; have := HJ72.out; have := HK5.out; omega
            case rel => exact ⟨(true), (wrap64 (x11_5 + 1)), (by first | rfl | (simp; done) | (simp [*]; done)), (by first | rfl | (simp; done) | (simp [*]; done)), H', ⟨by have := HJ25.out; have := HK2.out; have := HK3.out; have := HJ72.out; have := HK5.out; omega⟩, ⟨by (with_reducible repeat (first | apply Kd.R_alloc | apply Kd.R_drewN | apply Kd.R_drew)); exact HO_4.out⟩, ⟨by (with_reducible repeat (first | apply Kd.S_alloc | apply Kd.S_drewN | apply Kd.S_drew)); exact HO_5.out⟩, ⟨by (with_reducible repeat (first | apply Kd.R_alloc | apply Kd.R_drewN | apply Kd.R_drew)); exact HO_6.out⟩, ⟨by (with_reducible repeat (first | refine blk_drewN ?_ _ | refine blk_drew ?_ | refine blk_alloc ?_ _)); exact BK463.out⟩, ⟨by repeat (first | (with_reducible first | exact HB.out | apply below_alloc | apply pw_below_drewN | apply below_drew1 | refine below_set ?_ GE463.out) | exact HB.out)⟩⟩
           replace c81 := Bool.eq_false_iff.mpr c81
           subst c81
           have H1 : (if 0 ≤ (rd (rd_L2 t472 x9_3) x11_5) then (if (rd (rd_L2 t472 x9_3) x11_5) < (t469.length : Int) then (if rdOf false t469 (rd (rd_L2 t472 x9_3) x11_5) = true then (if (rd (rd_L2 t472 x9_3) x11_5) < (x6_2.length : Int) then (if x9_3 < (x6_2.length : Int) then (if x9_3 < (t469.length : Int) then (if rdOf false t469 x9_3 = true then (if bx8 = true then (truantlaw09_FlowOrder.l2 k5 t469 t472 x6_2 bx8 x9_3 (decide ((rd x6_2 (rd (rd_L2 t472 x9_3) x11_5)) < (rd x6_2 x9_3))) (wrap64 (x11_5 + 1))) else (if (rd x6_2 (rd (rd_L2 t472 x9_3) x11_5)) ≥ (rd x6_2 x9_3) then (none) else (truantlaw09_FlowOrder.l2 k5 t469 t472 x6_2 bx8 x9_3 (decide ((rd x6_2 (rd (rd_L2 t472 x9_3) x11_5)) < (rd x6_2 x9_3))) (wrap64 (x11_5 + 1))))) else (truantlaw09_FlowOrder.l2 k5 t469 t472 x6_2 bx8 x9_3 (decide ((rd x6_2 (rd (rd_L2 t472 x9_3) x11_5)) < (rd x6_2 x9_3))) (wrap64 (x11_5 + 1)))) else (none)) else (none)) else (none)) else (if x9_3 < (t469.length : Int) then (if rdOf false t469 x9_3 = true then (truantlaw09_FlowOrder.l2 k5 t469 t472 x6_2 bx8 x9_3 false (wrap64 (x11_5 + 1))) else (truantlaw09_FlowOrder.l2 k5 t469 t472 x6_2 bx8 x9_3 false (wrap64 (x11_5 + 1)))) else (none))) else (none)) else (none)) = some r := by rw [if_neg (show ¬ (false = true) by decide)] at H; exact H
           clear H
           have H := H1
           clear H1
           by_cases c97 : 0 ≤ (rd (rd_L2 t472 x9_3) x11_5)
           rotate_left
           ·rw [if_neg c97] at H
            exact absurd H (by simp)
           rw [if_pos c97] at H
           have c97b0 : decide (0 ≤ (rd (rd_L2 t472 x9_3) x11_5)) = true := decide_eq_true c97
           clear c97
           by_cases c98 : (rd (rd_L2 t472 x9_3) x11_5) < (t469.length : Int)
           rotate_left
           ·rw [if_neg c98] at H
            exact absurd H (by simp)
           rw [if_pos c98] at H
           have c98b0 : decide ((rd (rd_L2 t472 x9_3) x11_5) < (t469.length : Int)) = true := decide_eq_true c98
           clear c98
           obtain ⟨bq99, hbq99⟩ : ∃ b_ : Bool, b_ = (rdOf false t469 (rd (rd_L2 t472 x9_3) x11_5)) := ⟨_, rfl⟩
           replace H : (if bq99 = true then (if (rd (rd_L2 t472 x9_3) x11_5) < (x6_2.length : Int) then (if x9_3 < (x6_2.length : Int) then (if x9_3 < (t469.length : Int) then (if rdOf false t469 x9_3 = true then (if bx8 = true then (truantlaw09_FlowOrder.l2 k5 t469 t472 x6_2 bx8 x9_3 (decide ((rd x6_2 (rd (rd_L2 t472 x9_3) x11_5)) < (rd x6_2 x9_3))) (wrap64 (x11_5 + 1))) else (if (rd x6_2 (rd (rd_L2 t472 x9_3) x11_5)) ≥ (rd x6_2 x9_3) then (none) else (truantlaw09_FlowOrder.l2 k5 t469 t472 x6_2 bx8 x9_3 (decide ((rd x6_2 (rd (rd_L2 t472 x9_3) x11_5)) < (rd x6_2 x9_3))) (wrap64 (x11_5 + 1))))) else (truantlaw09_FlowOrder.l2 k5 t469 t472 x6_2 bx8 x9_3 (decide ((rd x6_2 (rd (rd_L2 t472 x9_3) x11_5)) < (rd x6_2 x9_3))) (wrap64 (x11_5 + 1)))) else (none)) else (none)) else (none)) else (if x9_3 < (t469.length : Int) then (if rdOf false t469 x9_3 = true then (truantlaw09_FlowOrder.l2 k5 t469 t472 x6_2 bx8 x9_3 false (wrap64 (x11_5 + 1))) else (truantlaw09_FlowOrder.l2 k5 t469 t472 x6_2 bx8 x9_3 false (wrap64 (x11_5 + 1)))) else (none))) = some r := by rw [← hbq99] at H; exact H
           have Nbq99 := Aside0.mk hbq99
           clear hbq99
           by_cases c100 : bq99 = true
           rotate_left
           ·replace c100 := Bool.eq_false_iff.mpr c100
            subst c100
            have H1 : (if x9_3 < (t469.length : Int) then (if rdOf false t469 x9_3 = true then (truantlaw09_FlowOrder.l2 k5 t469 t472 x6_2 bx8 x9_3 false (wrap64 (x11_5 + 1))) else (truantlaw09_FlowOrder.l2 k5 t469 t472 x6_2 bx8 x9_3 false (wrap64 (x11_5 + 1)))) else (none)) = some r := by rw [if_neg (show ¬ (false = true) by decide)] at H; exact H
            clear H
            have H := H1
            clear H1
            by_cases c111 : x9_3 < (t469.length : Int)
            rotate_left
            ·rw [if_neg c111] at H
             exact absurd H (by simp)
            rw [if_pos c111] at H
            have c111b0 : decide (x9_3 < (t469.length : Int)) = true := decide_eq_true c111
            clear c111
            obtain ⟨bq112, hbq112⟩ : ∃ b_ : Bool, b_ = (rdOf false t469 x9_3) := ⟨_, rfl⟩
            replace H : (if bq112 = true then (truantlaw09_FlowOrder.l2 k5 t469 t472 x6_2 bx8 x9_3 false (wrap64 (x11_5 + 1))) else (truantlaw09_FlowOrder.l2 k5 t469 t472 x6_2 bx8 x9_3 false (wrap64 (x11_5 + 1)))) = some r := by rw [← hbq112] at H; exact H
            have Nbq112 := Aside0.mk hbq112
            clear hbq112
            by_cases c113 : bq112 = true
            rotate_left
            ·replace c113 := Bool.eq_false_iff.mpr c113
             subst c113
             have H1 : (truantlaw09_FlowOrder.l2 k5 t469 t472 x6_2 bx8 x9_3 false (wrap64 (x11_5 + 1))) = some r := by rw [if_neg (show ¬ (false = true) by decide)] at H; exact H
             clear H
             have H := H1
             clear H1
             have H' := Aside0.mk H
             clear H
             obtain ⟨Ao115, co115, eo115⟩ := Kd.S_slice HO_5.out
             subst eo115
             have p493 : 0 ≤ (x9_3 : Int) := of_decide_eq_true (by first | (with_reducible assumption) | assumption)
             have q493 : x9_3 < (t472.length : Int) := of_decide_eq_true (by first | (with_reducible assumption) | assumption)
             obtain ⟨ad493, A493_0, c493_0, e493, hx493_0, hl493_0, hi493_0⟩ := at_L2 (Kd.S_reads' HO_5.out).2.2 x9_3 p493 q493
             cases e493
             obtain ⟨ce493, hce493, hMe493, hcc493⟩ := Kd.S_get HO_5.out [] x9_3 p493 (by first | exact q493 | exact of_decide_eq_true (by first | (with_reducible assumption) | assumption) | (have e_ := (Kd.S_reads' HO_5.out).1; omega))
             obtain ⟨ve493_0, rfl, ge493_0⟩ := hMe493
             have hv493_0 := hcc493 0 _ rfl
             rw [Nat.add_zero, show ((Kd.slice 3 (Kd.int .i64))).sz = 1 from rfl, Nat.mul_one] at hv493_0
             replace hv493_0 := Option.some.inj (hv493_0.symm.trans hx493_0)
             rw [hv493_0] at ge493_0
             have HL493_0 := Aside0.mk (show Kd.R (Kd.int .i64) 3 _ _ _ _ (rd_L2 t472 x9_3) from ge493_0)
             clear hv493_0 ge493_0
             clear hcc493 hce493
             have HR493_0 := Aside0.mk hi493_0
             have HC493_0 := Aside0.mk hl493_0
             clear hi493_0 hl493_0
             replace p493 := eq_true p493
             replace q493 := eq_true q493
             have p494 : 0 ≤ (x9_3 : Int) := of_decide_eq_true (by first | (with_reducible assumption) | assumption)
             have q494 : x9_3 < (t472.length : Int) := of_decide_eq_true (by first | (with_reducible assumption) | assumption)
             obtain ⟨ad494, A494_0, c494_0, e494, hx494_0, hl494_0, hi494_0⟩ := at_L2 (Kd.S_reads' HO_5.out).2.2 x9_3 p494 q494
             obtain rfl : ad493 = ad494 := (by injection e494)
             obtain ⟨ce494, hce494, hMe494, hcc494⟩ := Kd.S_get HO_5.out [] x9_3 p494 (by first | exact q494 | exact of_decide_eq_true (by first | (with_reducible assumption) | assumption) | (have e_ := (Kd.S_reads' HO_5.out).1; omega))
             obtain ⟨ve494_0, rfl, ge494_0⟩ := hMe494
             have hv494_0 := hcc494 0 _ rfl
             rw [Nat.add_zero, show ((Kd.slice 3 (Kd.int .i64))).sz = 1 from rfl, Nat.mul_one] at hv494_0
             replace hv494_0 := Option.some.inj (hv494_0.symm.trans hx494_0)
             rw [hv494_0] at ge494_0
             have HL494_0 := Aside0.mk (show Kd.R (Kd.int .i64) 3 _ _ _ _ (rd_L2 t472 x9_3) from ge494_0)
             clear hv494_0 ge494_0
             clear hcc494 hce494
             have HR494_0 := Aside0.mk hi494_0
             have HC494_0 := Aside0.mk hl494_0
             clear hi494_0 hl494_0
             replace p494 := eq_true p494
             replace q494 := eq_true q494
             have ea_ := Option.some.inj (hx493_0.symm.trans hx494_0)
             injection ea_ with ea_ en_ ec_
             subst ea_
             subst ec_
             clear en_
             have p495 : 0 ≤ (x11_5 : Int) := of_decide_eq_true (by first | (with_reducible assumption) | assumption)
             have q495 : x11_5 < ((rd_L2 t472 x9_3).length : Int) := of_decide_eq_true (by first | (with_reducible assumption) | assumption)
             obtain ⟨ad495, e495, hx495_0⟩ := Kd.at_int (by repeat (first | (with_reducible exact HR494_0.out) | (with_reducible refine Kd.C_alloc ?_ _) | (with_reducible refine Kd.C_drewN ?_ _) | (with_reducible refine Kd.C_drew ?_) | exact HR494_0.out)) x11_5 p495 q495
             cases e495
             replace p495 := eq_true p495
             replace q495 := eq_true q495
             have p500 : 0 ≤ ((rd (rd_L2 t472 x9_3) x11_5) : Int) := of_decide_eq_true (by first | (with_reducible assumption) | assumption)
             have q500 : (rd (rd_L2 t472 x9_3) x11_5) < (t469.length : Int) := of_decide_eq_true (by first | (with_reducible assumption) | assumption)
             obtain ⟨ad500, e500, hx500_0⟩ := Kd.at_bool (Kd.R_reads' HO_4.out).2.2 (rd (rd_L2 t472 x9_3) x11_5) p500 q500
             (try rw [← Nbq99.out] at hx500_0)
             (try rw [← Nbq112.out] at hx500_0)
             obtain rfl : ad490 = ad500 := (by injection e500)
             replace p500 := eq_true p500
             replace q500 := eq_true q500
             have p507 : 0 ≤ (x9_3 : Int) := of_decide_eq_true (by first | (with_reducible assumption) | assumption)
             have q507 : x9_3 < (t469.length : Int) := of_decide_eq_true (by first | (with_reducible assumption) | assumption)
             obtain ⟨ad507, e507, hx507_0⟩ := Kd.at_bool (Kd.R_reads' HO_4.out).2.2 x9_3 p507 q507
             (try rw [← Nbq99.out] at hx507_0)
             (try rw [← Nbq112.out] at hx507_0)
             obtain rfl : ad490 = ad507 := (by injection e507)
             replace p507 := eq_true p507
             replace q507 := eq_true q507
             go_wp2
             repeat (go_quiet (fail); try go_wp2)
             go_roundg k5
             case measure => have := HJ25.out; have := HK2.out; have := HK3.out; have := HJ72.out; have := HK5.out; omega
             case rel => exact ⟨(false), (wrap64 (x11_5 + 1)), (by first | rfl | (simp; done) | (simp [*]; done)), (by first | rfl | (simp; done) | (simp [*]; done)), H', ⟨by have := HJ25.out; have := HK2.out; have := HK3.out; have := HJ72.out; have := HK5.out; omega⟩, ⟨by (with_reducible repeat (first | apply Kd.R_alloc | apply Kd.R_drewN | apply Kd.R_drew)); exact HO_4.out⟩, ⟨by (with_reducible repeat (first | apply Kd.S_alloc | apply Kd.S_drewN | apply Kd.S_drew)); exact HO_5.out⟩, ⟨by (with_reducible repeat (first | apply Kd.R_alloc | apply Kd.R_drewN | apply Kd.R_drew)); exact HO_6.out⟩, ⟨by (with_reducible repeat (first | refine blk_drewN ?_ _ | refine blk_drew ?_ | refine blk_alloc ?_ _)); exact BK463.out⟩, ⟨by repeat (first | (with_reducible first | exact HB.out | apply below_alloc | apply pw_below_drewN | apply below_drew1 | refine below_set ?_ GE463.out) | exact HB.out)⟩⟩
            subst c113
            have H1 : (truantlaw09_FlowOrder.l2 k5 t469 t472 x6_2 bx8 x9_3 false (wrap64 (x11_5 + 1))) = some r := by rw [if_pos rfl] at H; exact H
            clear H
            have H := H1
            clear H1
            have H' := Aside0.mk H
            clear H
            obtain ⟨Ao114, co114, eo114⟩ := Kd.S_slice HO_5.out
            subst eo114
            have p493 : 0 ≤ (x9_3 : Int) := of_decide_eq_true (by first | (with_reducible assumption) | assumption)
            have q493 : x9_3 < (t472.length : Int) := of_decide_eq_true (by first | (with_reducible assumption) | assumption)
            obtain ⟨ad493, A493_0, c493_0, e493, hx493_0, hl493_0, hi493_0⟩ := at_L2 (Kd.S_reads' HO_5.out).2.2 x9_3 p493 q493
            cases e493
            obtain ⟨ce493, hce493, hMe493, hcc493⟩ := Kd.S_get HO_5.out [] x9_3 p493 (by first | exact q493 | exact of_decide_eq_true (by first | (with_reducible assumption) | assumption) | (have e_ := (Kd.S_reads' HO_5.out).1; omega))
            obtain ⟨ve493_0, rfl, ge493_0⟩ := hMe493
            have hv493_0 := hcc493 0 _ rfl
            rw [Nat.add_zero, show ((Kd.slice 3 (Kd.int .i64))).sz = 1 from rfl, Nat.mul_one] at hv493_0
            replace hv493_0 := Option.some.inj (hv493_0.symm.trans hx493_0)
            rw [hv493_0] at ge493_0
            have HL493_0 := Aside0.mk (show Kd.R (Kd.int .i64) 3 _ _ _ _ (rd_L2 t472 x9_3) from ge493_0)
            clear hv493_0 ge493_0
            clear hcc493 hce493
            have HR493_0 := Aside0.mk hi493_0
            have HC493_0 := Aside0.mk hl493_0
            clear hi493_0 hl493_0
            replace p493 := eq_true p493
            replace q493 := eq_true q493
            have p494 : 0 ≤ (x9_3 : Int) := of_decide_eq_true (by first | (with_reducible assumption) | assumption)
            have q494 : x9_3 < (t472.length : Int) := of_decide_eq_true (by first | (with_reducible assumption) | assumption)
            obtain ⟨ad494, A494_0, c494_0, e494, hx494_0, hl494_0, hi494_0⟩ := at_L2 (Kd.S_reads' HO_5.out).2.2 x9_3 p494 q494
            obtain rfl : ad493 = ad494 := (by injection e494)
            obtain ⟨ce494, hce494, hMe494, hcc494⟩ := Kd.S_get HO_5.out [] x9_3 p494 (by first | exact q494 | exact of_decide_eq_true (by first | (with_reducible assumption) | assumption) | (have e_ := (Kd.S_reads' HO_5.out).1; omega))
            obtain ⟨ve494_0, rfl, ge494_0⟩ := hMe494
            have hv494_0 := hcc494 0 _ rfl
            rw [Nat.add_zero, show ((Kd.slice 3 (Kd.int .i64))).sz = 1 from rfl, Nat.mul_one] at hv494_0
            replace hv494_0 := Option.some.inj (hv494_0.symm.trans hx494_0)
            rw [hv494_0] at ge494_0
            have HL494_0 := Aside0.mk (show Kd.R (Kd.int .i64) 3 _ _ _ _ (rd_L2 t472 x9_3) from ge494_0)
            clear hv494_0 ge494_0
            clear hcc494 hce494
            have HR494_0 := Aside0.mk hi494_0
            have HC494_0 := Aside0.mk hl494_0
            clear hi494_0 hl494_0
            replace p494 := eq_true p494
            replace q494 := eq_true q494
            have ea_ := Option.some.inj (hx493_0.symm.trans hx494_0)
            injection ea_ with ea_ en_ ec_
            subst ea_
            subst ec_
            clear en_
            have p495 : 0 ≤ (x11_5 : Int) := of_decide_eq_true (by first | (with_reducible assumption) | assumption)
            have q495 : x11_5 < ((rd_L2 t472 x9_3).length : Int) := of_decide_eq_true (by first | (with_reducible assumption) | assumption)
            obtain ⟨ad495, e495, hx495_0⟩ := Kd.at_int (by repeat (first | (with_reducible exact HR494_0.out) | (with_reducible refine Kd.C_alloc ?_ _) | (with_reducible refine Kd.C_drewN ?_ _) | (with_reducible refine Kd.C_drew ?_) | exact HR494_0.out)) x11_5 p495 q495
            cases e495
            replace p495 := eq_true p495
            replace q495 := eq_true q495
            have p500 : 0 ≤ ((rd (rd_L2 t472 x9_3) x11_5) : Int) := of_decide_eq_true (by first | (with_reducible assumption) | assumption)
            have q500 : (rd (rd_L2 t472 x9_3) x11_5) < (t469.length : Int) := of_decide_eq_true (by first | (with_reducible assumption) | assumption)
            obtain ⟨ad500, e500, hx500_0⟩ := Kd.at_bool (Kd.R_reads' HO_4.out).2.2 (rd (rd_L2 t472 x9_3) x11_5) p500 q500
            (try rw [← Nbq99.out] at hx500_0)
            (try rw [← Nbq112.out] at hx500_0)
            obtain rfl : ad490 = ad500 := (by injection e500)
            replace p500 := eq_true p500
            replace q500 := eq_true q500
            have p507 : 0 ≤ (x9_3 : Int) := of_decide_eq_true (by first | (with_reducible assumption) | assumption)
            have q507 : x9_3 < (t469.length : Int) := of_decide_eq_true (by first | (with_reducible assumption) | assumption)
            obtain ⟨ad507, e507, hx507_0⟩ := Kd.at_bool (Kd.R_reads' HO_4.out).2.2 x9_3 p507 q507
            (try rw [← Nbq99.out] at hx507_0)
            (try rw [← Nbq112.out] at hx507_0)
            obtain rfl : ad490 = ad507 := (by injection e507)
            replace p507 := eq_true p507
            replace q507 := eq_true q507
            have p508 : 0 ≤ ((rd (rd_L2 t472 x9_3) x11_5) : Int) := of_decide_eq_true (by first | (with_reducible assumption) | assumption)
            have q508 : (rd (rd_L2 t472 x9_3) x11_5) < (t469.length : Int) := of_decide_eq_true (by first | (with_reducible assumption) | assumption)
            obtain ⟨ad508, e508, hx508_0⟩ := Kd.at_bool (Kd.R_reads' HO_4.out).2.2 (rd (rd_L2 t472 x9_3) x11_5) p508 q508
            (try rw [← Nbq99.out] at hx508_0)
            (try rw [← Nbq112.out] at hx508_0)
            obtain rfl : ad490 = ad508 := (by injection e508)
            replace p508 := eq_true p508
            replace q508 := eq_true q508
            go_wp2
            repeat (go_quiet (fail); try go_wp2)
            go_roundg k5
            case measure => have := HJ25.out; have := HK2.out; have := HK3.out; have := HJ72.out; have := HK5.out; omega
            case rel => exact ⟨(false), (wrap64 (x11_5 + 1)), (by first | rfl | (simp; done) | (simp [*]; done)), (by first | rfl | (simp; done) | (simp [*]; done)), H', ⟨by have := HJ25.out; have := HK2.out; have := HK3.out; have := HJ72.out; have := HK5.out; omega⟩, ⟨by (with_reducible repeat (first | apply Kd.R_alloc | apply Kd.R_drewN | apply Kd.R_drew)); exact HO_4.out⟩, ⟨by (with_reducible repeat (first | apply Kd.S_alloc | apply Kd.S_drewN | apply Kd.S_drew)); exact HO_5.out⟩, ⟨by (with_reducible repeat (first | apply Kd.R_alloc | apply Kd.R_drewN | apply Kd.R_drew)); exact HO_6.out⟩, ⟨by (with_reducible repeat (first | refine blk_drewN ?_ _ | refine blk_drew ?_ | refine blk_alloc ?_ _)); exact BK463.out⟩, ⟨by repeat (first | (with_reducible first | exact HB.out | apply below_alloc | apply pw_below_drewN | apply below_drew1 | refine below_set ?_ GE463.out) | exact HB.out)⟩⟩
           subst c100
           have H1 : (if (rd (rd_L2 t472 x9_3) x11_5) < (x6_2.length : Int) then (if x9_3 < (x6_2.length : Int) then (if x9_3 < (t469.length : Int) then (if rdOf false t469 x9_3 = true then (if bx8 = true then (truantlaw09_FlowOrder.l2 k5 t469 t472 x6_2 bx8 x9_3 (decide ((rd x6_2 (rd (rd_L2 t472 x9_3) x11_5)) < (rd x6_2 x9_3))) (wrap64 (x11_5 + 1))) else (if (rd x6_2 (rd (rd_L2 t472 x9_3) x11_5)) ≥ (rd x6_2 x9_3) then (none) else (truantlaw09_FlowOrder.l2 k5 t469 t472 x6_2 bx8 x9_3 (decide ((rd x6_2 (rd (rd_L2 t472 x9_3) x11_5)) < (rd x6_2 x9_3))) (wrap64 (x11_5 + 1))))) else (truantlaw09_FlowOrder.l2 k5 t469 t472 x6_2 bx8 x9_3 (decide ((rd x6_2 (rd (rd_L2 t472 x9_3) x11_5)) < (rd x6_2 x9_3))) (wrap64 (x11_5 + 1)))) else (none)) else (none)) else (none)) = some r := by rw [if_pos rfl] at H; exact H
           clear H
           have H := H1
           clear H1
           by_cases c101 : (rd (rd_L2 t472 x9_3) x11_5) < (x6_2.length : Int)
           rotate_left
           ·rw [if_neg c101] at H
            exact absurd H (by simp)
           rw [if_pos c101] at H
           have c101b0 : decide ((rd (rd_L2 t472 x9_3) x11_5) < (x6_2.length : Int)) = true := decide_eq_true c101
           clear c101
           by_cases c102 : x9_3 < (x6_2.length : Int)
           rotate_left
           ·rw [if_neg c102] at H
            exact absurd H (by simp)
           rw [if_pos c102] at H
           have c102b0 : decide (x9_3 < (x6_2.length : Int)) = true := decide_eq_true c102
           clear c102
           by_cases c103 : x9_3 < (t469.length : Int)
           rotate_left
           ·rw [if_neg c103] at H
            exact absurd H (by simp)
           rw [if_pos c103] at H
           have c103b0 : decide (x9_3 < (t469.length : Int)) = true := decide_eq_true c103
           clear c103
           obtain ⟨bq104, hbq104⟩ : ∃ b_ : Bool, b_ = (rdOf false t469 x9_3) := ⟨_, rfl⟩
           replace H : (if bq104 = true then (if bx8 = true then (truantlaw09_FlowOrder.l2 k5 t469 t472 x6_2 bx8 x9_3 (decide ((rd x6_2 (rd (rd_L2 t472 x9_3) x11_5)) < (rd x6_2 x9_3))) (wrap64 (x11_5 + 1))) else (if (rd x6_2 (rd (rd_L2 t472 x9_3) x11_5)) ≥ (rd x6_2 x9_3) then (none) else (truantlaw09_FlowOrder.l2 k5 t469 t472 x6_2 bx8 x9_3 (decide ((rd x6_2 (rd (rd_L2 t472 x9_3) x11_5)) < (rd x6_2 x9_3))) (wrap64 (x11_5 + 1))))) else (truantlaw09_FlowOrder.l2 k5 t469 t472 x6_2 bx8 x9_3 (decide ((rd x6_2 (rd (rd_L2 t472 x9_3) x11_5)) < (rd x6_2 x9_3))) (wrap64 (x11_5 + 1)))) = some r := by rw [← hbq104] at H; exact H
           have Nbq104 := Aside0.mk hbq104
           clear hbq104
           by_cases c105 : bq104 = true
           rotate_left
           ·replace c105 := Bool.eq_false_iff.mpr c105
            subst c105
            have H1 : (truantlaw09_FlowOrder.l2 k5 t469 t472 x6_2 bx8 x9_3 (decide ((rd x6_2 (rd (rd_L2 t472 x9_3) x11_5)) < (rd x6_2 x9_3))) (wrap64 (x11_5 + 1))) = some r := by rw [if_neg (show ¬ (false = true) by decide)] at H; exact H
            clear H
            have H := H1
            clear H1
            have H' := Aside0.mk H
            clear H
            obtain ⟨Ao110, co110, eo110⟩ := Kd.S_slice HO_5.out
            subst eo110
            have p493 : 0 ≤ (x9_3 : Int) := of_decide_eq_true (by first | (with_reducible assumption) | assumption)
            have q493 : x9_3 < (t472.length : Int) := of_decide_eq_true (by first | (with_reducible assumption) | assumption)
            obtain ⟨ad493, A493_0, c493_0, e493, hx493_0, hl493_0, hi493_0⟩ := at_L2 (Kd.S_reads' HO_5.out).2.2 x9_3 p493 q493
            cases e493
            obtain ⟨ce493, hce493, hMe493, hcc493⟩ := Kd.S_get HO_5.out [] x9_3 p493 (by first | exact q493 | exact of_decide_eq_true (by first | (with_reducible assumption) | assumption) | (have e_ := (Kd.S_reads' HO_5.out).1; omega))
            obtain ⟨ve493_0, rfl, ge493_0⟩ := hMe493
            have hv493_0 := hcc493 0 _ rfl
            rw [Nat.add_zero, show ((Kd.slice 3 (Kd.int .i64))).sz = 1 from rfl, Nat.mul_one] at hv493_0
            replace hv493_0 := Option.some.inj (hv493_0.symm.trans hx493_0)
            rw [hv493_0] at ge493_0
            have HL493_0 := Aside0.mk (show Kd.R (Kd.int .i64) 3 _ _ _ _ (rd_L2 t472 x9_3) from ge493_0)
            clear hv493_0 ge493_0
            clear hcc493 hce493
            have HR493_0 := Aside0.mk hi493_0
            have HC493_0 := Aside0.mk hl493_0
            clear hi493_0 hl493_0
            replace p493 := eq_true p493
            replace q493 := eq_true q493
            have p494 : 0 ≤ (x9_3 : Int) := of_decide_eq_true (by first | (with_reducible assumption) | assumption)
            have q494 : x9_3 < (t472.length : Int) := of_decide_eq_true (by first | (with_reducible assumption) | assumption)
            obtain ⟨ad494, A494_0, c494_0, e494, hx494_0, hl494_0, hi494_0⟩ := at_L2 (Kd.S_reads' HO_5.out).2.2 x9_3 p494 q494
            obtain rfl : ad493 = ad494 := (by injection e494)
            obtain ⟨ce494, hce494, hMe494, hcc494⟩ := Kd.S_get HO_5.out [] x9_3 p494 (by first | exact q494 | exact of_decide_eq_true (by first | (with_reducible assumption) | assumption) | (have e_ := (Kd.S_reads' HO_5.out).1; omega))
            obtain ⟨ve494_0, rfl, ge494_0⟩ := hMe494
            have hv494_0 := hcc494 0 _ rfl
            rw [Nat.add_zero, show ((Kd.slice 3 (Kd.int .i64))).sz = 1 from rfl, Nat.mul_one] at hv494_0
            replace hv494_0 := Option.some.inj (hv494_0.symm.trans hx494_0)
            rw [hv494_0] at ge494_0
            have HL494_0 := Aside0.mk (show Kd.R (Kd.int .i64) 3 _ _ _ _ (rd_L2 t472 x9_3) from ge494_0)
            clear hv494_0 ge494_0
            clear hcc494 hce494
            have HR494_0 := Aside0.mk hi494_0
            have HC494_0 := Aside0.mk hl494_0
            clear hi494_0 hl494_0
            replace p494 := eq_true p494
            replace q494 := eq_true q494
            have ea_ := Option.some.inj (hx493_0.symm.trans hx494_0)
            injection ea_ with ea_ en_ ec_
            subst ea_
            subst ec_
            clear en_
            have p495 : 0 ≤ (x11_5 : Int) := of_decide_eq_true (by first | (with_reducible assumption) | assumption)
            have q495 : x11_5 < ((rd_L2 t472 x9_3).length : Int) := of_decide_eq_true (by first | (with_reducible assumption) | assumption)
            obtain ⟨ad495, e495, hx495_0⟩ := Kd.at_int (by repeat (first | (with_reducible exact HR494_0.out) | (with_reducible refine Kd.C_alloc ?_ _) | (with_reducible refine Kd.C_drewN ?_ _) | (with_reducible refine Kd.C_drew ?_) | exact HR494_0.out)) x11_5 p495 q495
            cases e495
            replace p495 := eq_true p495
            replace q495 := eq_true q495
            have p500 : 0 ≤ ((rd (rd_L2 t472 x9_3) x11_5) : Int) := of_decide_eq_true (by first | (with_reducible assumption) | assumption)
            have q500 : (rd (rd_L2 t472 x9_3) x11_5) < (t469.length : Int) := of_decide_eq_true (by first | (with_reducible assumption) | assumption)
            obtain ⟨ad500, e500, hx500_0⟩ := Kd.at_bool (Kd.R_reads' HO_4.out).2.2 (rd (rd_L2 t472 x9_3) x11_5) p500 q500
            (try rw [← Nbq99.out] at hx500_0)
            (try rw [← Nbq104.out] at hx500_0)
            obtain rfl : ad490 = ad500 := (by injection e500)
            replace p500 := eq_true p500
            replace q500 := eq_true q500
            have p501 : 0 ≤ ((rd (rd_L2 t472 x9_3) x11_5) : Int) := of_decide_eq_true (by first | (with_reducible assumption) | assumption)
            have q501 : (rd (rd_L2 t472 x9_3) x11_5) < (x6_2.length : Int) := of_decide_eq_true (by first | (with_reducible assumption) | assumption)
            obtain ⟨ad501, e501, hx501_0⟩ := Kd.at_int (Kd.R_reads' HO_6.out).2.2 (rd (rd_L2 t472 x9_3) x11_5) p501 q501
            obtain rfl : ad491 = ad501 := (by injection e501)
            replace p501 := eq_true p501
            replace q501 := eq_true q501
            have p502 : 0 ≤ (x9_3 : Int) := of_decide_eq_true (by first | (with_reducible assumption) | assumption)
            have q502 : x9_3 < (x6_2.length : Int) := of_decide_eq_true (by first | (with_reducible assumption) | assumption)
            obtain ⟨ad502, e502, hx502_0⟩ := Kd.at_int (Kd.R_reads' HO_6.out).2.2 x9_3 p502 q502
            obtain rfl : ad491 = ad502 := (by injection e502)
            replace p502 := eq_true p502
            replace q502 := eq_true q502
            have p503 : 0 ≤ (x9_3 : Int) := of_decide_eq_true (by first | (with_reducible assumption) | assumption)
            have q503 : x9_3 < (t469.length : Int) := of_decide_eq_true (by first | (with_reducible assumption) | assumption)
            obtain ⟨ad503, e503, hx503_0⟩ := Kd.at_bool (Kd.R_reads' HO_4.out).2.2 x9_3 p503 q503
            (try rw [← Nbq99.out] at hx503_0)
            (try rw [← Nbq104.out] at hx503_0)
            obtain rfl : ad490 = ad503 := (by injection e503)
            replace p503 := eq_true p503
            replace q503 := eq_true q503
            go_wp2
            repeat (go_quiet (fail); try go_wp2)
            go_roundg k5
            case measure => have := HJ25.out; have := HK2.out; have := HK3.out; have := HJ72.out; have := HK5.out; omega
            case rel => exact ⟨(decide ((rd x6_2 (rd (rd_L2 t472 x9_3) x11_5)) < (rd x6_2 x9_3))), (wrap64 (x11_5 + 1)), (by first | rfl | (simp; done) | (simp [*]; done)), (by first | rfl | (simp; done) | (simp [*]; done)), H', ⟨by have := HJ25.out; have := HK2.out; have := HK3.out; have := HJ72.out; have := HK5.out; omega⟩, ⟨by (with_reducible repeat (first | apply Kd.R_alloc | apply Kd.R_drewN | apply Kd.R_drew)); exact HO_4.out⟩, ⟨by (with_reducible repeat (first | apply Kd.S_alloc | apply Kd.S_drewN | apply Kd.S_drew)); exact HO_5.out⟩, ⟨by (with_reducible repeat (first | apply Kd.R_alloc | apply Kd.R_drewN | apply Kd.R_drew)); exact HO_6.out⟩, ⟨by (with_reducible repeat (first | refine blk_drewN ?_ _ | refine blk_drew ?_ | refine blk_alloc ?_ _)); exact BK463.out⟩, ⟨by repeat (first | (with_reducible first | exact HB.out | apply below_alloc | apply pw_below_drewN | apply below_drew1 | refine below_set ?_ GE463.out) | exact HB.out)⟩⟩
           subst c105
           have H1 : (if bx8 = true then (truantlaw09_FlowOrder.l2 k5 t469 t472 x6_2 bx8 x9_3 (decide ((rd x6_2 (rd (rd_L2 t472 x9_3) x11_5)) < (rd x6_2 x9_3))) (wrap64 (x11_5 + 1))) else (if (rd x6_2 (rd (rd_L2 t472 x9_3) x11_5)) ≥ (rd x6_2 x9_3) then (none) else (truantlaw09_FlowOrder.l2 k5 t469 t472 x6_2 bx8 x9_3 (decide ((rd x6_2 (rd (rd_L2 t472 x9_3) x11_5)) < (rd x6_2 x9_3))) (wrap64 (x11_5 + 1))))) = some r := by rw [if_pos rfl] at H; exact H
           clear H
           have H := H1
           clear H1
           by_cases c106 : bx8 = true
           ·rw [if_pos c106] at H
            subst c106
            have H' := Aside0.mk H
            clear H
            obtain ⟨Ao107, co107, eo107⟩ := Kd.S_slice HO_5.out
            subst eo107
            have p493 : 0 ≤ (x9_3 : Int) := of_decide_eq_true (by first | (with_reducible assumption) | assumption)
            have q493 : x9_3 < (t472.length : Int) := of_decide_eq_true (by first | (with_reducible assumption) | assumption)
            obtain ⟨ad493, A493_0, c493_0, e493, hx493_0, hl493_0, hi493_0⟩ := at_L2 (Kd.S_reads' HO_5.out).2.2 x9_3 p493 q493
            cases e493
            obtain ⟨ce493, hce493, hMe493, hcc493⟩ := Kd.S_get HO_5.out [] x9_3 p493 (by first | exact q493 | exact of_decide_eq_true (by first | (with_reducible assumption) | assumption) | (have e_ := (Kd.S_reads' HO_5.out).1; omega))
            obtain ⟨ve493_0, rfl, ge493_0⟩ := hMe493
            have hv493_0 := hcc493 0 _ rfl
            rw [Nat.add_zero, show ((Kd.slice 3 (Kd.int .i64))).sz = 1 from rfl, Nat.mul_one] at hv493_0
            replace hv493_0 := Option.some.inj (hv493_0.symm.trans hx493_0)
            rw [hv493_0] at ge493_0
            have HL493_0 := Aside0.mk (show Kd.R (Kd.int .i64) 3 _ _ _ _ (rd_L2 t472 x9_3) from ge493_0)
            clear hv493_0 ge493_0
            clear hcc493 hce493
            have HR493_0 := Aside0.mk hi493_0
            have HC493_0 := Aside0.mk hl493_0
            clear hi493_0 hl493_0
            replace p493 := eq_true p493
            replace q493 := eq_true q493
            have p494 : 0 ≤ (x9_3 : Int) := of_decide_eq_true (by first | (with_reducible assumption) | assumption)
            have q494 : x9_3 < (t472.length : Int) := of_decide_eq_true (by first | (with_reducible assumption) | assumption)
            obtain ⟨ad494, A494_0, c494_0, e494, hx494_0, hl494_0, hi494_0⟩ := at_L2 (Kd.S_reads' HO_5.out).2.2 x9_3 p494 q494
            obtain rfl : ad493 = ad494 := (by injection e494)
            obtain ⟨ce494, hce494, hMe494, hcc494⟩ := Kd.S_get HO_5.out [] x9_3 p494 (by first | exact q494 | exact of_decide_eq_true (by first | (with_reducible assumption) | assumption) | (have e_ := (Kd.S_reads' HO_5.out).1; omega))
            obtain ⟨ve494_0, rfl, ge494_0⟩ := hMe494
            have hv494_0 := hcc494 0 _ rfl
            rw [Nat.add_zero, show ((Kd.slice 3 (Kd.int .i64))).sz = 1 from rfl, Nat.mul_one] at hv494_0
            replace hv494_0 := Option.some.inj (hv494_0.symm.trans hx494_0)
            rw [hv494_0] at ge494_0
            have HL494_0 := Aside0.mk (show Kd.R (Kd.int .i64) 3 _ _ _ _ (rd_L2 t472 x9_3) from ge494_0)
            clear hv494_0 ge494_0
            clear hcc494 hce494
            have HR494_0 := Aside0.mk hi494_0
            have HC494_0 := Aside0.mk hl494_0
            clear hi494_0 hl494_0
            replace p494 := eq_true p494
            replace q494 := eq_true q494
            have ea_ := Option.some.inj (hx493_0.symm.trans hx494_0)
            injection ea_ with ea_ en_ ec_
            subst ea_
            subst ec_
            clear en_
            have p495 : 0 ≤ (x11_5 : Int) := of_decide_eq_true (by first | (with_reducible assumption) | assumption)
            have q495 : x11_5 < ((rd_L2 t472 x9_3).length : Int) := of_decide_eq_true (by first | (with_reducible assumption) | assumption)
            obtain ⟨ad495, e495, hx495_0⟩ := Kd.at_int (by repeat (first | (with_reducible exact HR494_0.out) | (with_reducible refine Kd.C_alloc ?_ _) | (with_reducible refine Kd.C_drewN ?_ _) | (with_reducible refine Kd.C_drew ?_) | exact HR494_0.out)) x11_5 p495 q495
            cases e495
            replace p495 := eq_true p495
            replace q495 := eq_true q495
            have p500 : 0 ≤ ((rd (rd_L2 t472 x9_3) x11_5) : Int) := of_decide_eq_true (by first | (with_reducible assumption) | assumption)
            have q500 : (rd (rd_L2 t472 x9_3) x11_5) < (t469.length : Int) := of_decide_eq_true (by first | (with_reducible assumption) | assumption)
            obtain ⟨ad500, e500, hx500_0⟩ := Kd.at_bool (Kd.R_reads' HO_4.out).2.2 (rd (rd_L2 t472 x9_3) x11_5) p500 q500
            (try rw [← Nbq99.out] at hx500_0)
            (try rw [← Nbq104.out] at hx500_0)
            obtain rfl : ad490 = ad500 := (by injection e500)
            replace p500 := eq_true p500
            replace q500 := eq_true q500
            have p501 : 0 ≤ ((rd (rd_L2 t472 x9_3) x11_5) : Int) := of_decide_eq_true (by first | (with_reducible assumption) | assumption)
            have q501 : (rd (rd_L2 t472 x9_3) x11_5) < (x6_2.length : Int) := of_decide_eq_true (by first | (with_reducible assumption) | assumption)
            obtain ⟨ad501, e501, hx501_0⟩ := Kd.at_int (Kd.R_reads' HO_6.out).2.2 (rd (rd_L2 t472 x9_3) x11_5) p501 q501
            obtain rfl : ad491 = ad501 := (by injection e501)
            replace p501 := eq_true p501
            replace q501 := eq_true q501
            have p502 : 0 ≤ (x9_3 : Int) := of_decide_eq_true (by first | (with_reducible assumption) | assumption)
            have q502 : x9_3 < (x6_2.length : Int) := of_decide_eq_true (by first | (with_reducible assumption) | assumption)
            obtain ⟨ad502, e502, hx502_0⟩ := Kd.at_int (Kd.R_reads' HO_6.out).2.2 x9_3 p502 q502
            obtain rfl : ad491 = ad502 := (by injection e502)
            replace p502 := eq_true p502
            replace q502 := eq_true q502
            have p503 : 0 ≤ (x9_3 : Int) := of_decide_eq_true (by first | (with_reducible assumption) | assumption)
            have q503 : x9_3 < (t469.length : Int) := of_decide_eq_true (by first | (with_reducible assumption) | assumption)
            obtain ⟨ad503, e503, hx503_0⟩ := Kd.at_bool (Kd.R_reads' HO_4.out).2.2 x9_3 p503 q503
            (try rw [← Nbq99.out] at hx503_0)
            (try rw [← Nbq104.out] at hx503_0)
            obtain rfl : ad490 = ad503 := (by injection e503)
            replace p503 := eq_true p503
            replace q503 := eq_true q503
            have p504 : 0 ≤ ((rd (rd_L2 t472 x9_3) x11_5) : Int) := of_decide_eq_true (by first | (with_reducible assumption) | assumption)
            have q504 : (rd (rd_L2 t472 x9_3) x11_5) < (t469.length : Int) := of_decide_eq_true (by first | (with_reducible assumption) | assumption)
            obtain ⟨ad504, e504, hx504_0⟩ := Kd.at_bool (Kd.R_reads' HO_4.out).2.2 (rd (rd_L2 t472 x9_3) x11_5) p504 q504
            (try rw [← Nbq99.out] at hx504_0)
            (try rw [← Nbq104.out] at hx504_0)
            obtain rfl : ad490 = ad504 := (by injection e504)
            replace p504 := eq_true p504
            replace q504 := eq_true q504
            go_wp2
            repeat (go_quiet (fail); try go_wp2)
            go_roundg k5
            case measure => have := HJ25.out; have := HK2.out; have := HK3.out; have := HJ72.out; have := HK5.out; omega
            case rel => exact ⟨(decide ((rd x6_2 (rd (rd_L2 t472 x9_3) x11_5)) < (rd x6_2 x9_3))), (wrap64 (x11_5 + 1)), (by first | rfl | (simp; done) | (simp [*]; done)), (by first | rfl | (simp; done) | (simp [*]; done)), H', ⟨by have := HJ25.out; have := HK2.out; have := HK3.out; have := HJ72.out; have := HK5.out; omega⟩, ⟨by (with_reducible repeat (first | apply Kd.R_alloc | apply Kd.R_drewN | apply Kd.R_drew)); exact HO_4.out⟩, ⟨by (with_reducible repeat (first | apply Kd.S_alloc | apply Kd.S_drewN | apply Kd.S_drew)); exact HO_5.out⟩, ⟨by (with_reducible repeat (first | apply Kd.R_alloc | apply Kd.R_drewN | apply Kd.R_drew)); exact HO_6.out⟩, ⟨by (with_reducible repeat (first | refine blk_drewN ?_ _ | refine blk_drew ?_ | refine blk_alloc ?_ _)); exact BK463.out⟩, ⟨by repeat (first | (with_reducible first | exact HB.out | apply below_alloc | apply pw_below_drewN | apply below_drew1 | refine below_set ?_ GE463.out) | exact HB.out)⟩⟩
           rw [if_neg c106] at H
           have c106z : bx8 = false := Bool.eq_false_iff.mpr c106
           clear c106
           subst c106z
           by_cases c108 : (rd x6_2 (rd (rd_L2 t472 x9_3) x11_5)) ≥ (rd x6_2 x9_3)
           ·rw [if_pos c108] at H
            exact absurd H (by simp)
           rw [if_neg c108] at H
           have c108b0 : decide ((rd x6_2 x9_3) ≤ (rd x6_2 (rd (rd_L2 t472 x9_3) x11_5))) = false := decide_eq_false c108
           clear c108
           have H' := Aside0.mk H
           clear H
           obtain ⟨Ao109, co109, eo109⟩ := Kd.S_slice HO_5.out
           subst eo109
           have p493 : 0 ≤ (x9_3 : Int) := of_decide_eq_true (by first | (with_reducible assumption) | assumption)
           have q493 : x9_3 < (t472.length : Int) := of_decide_eq_true (by first | (with_reducible assumption) | assumption)
           obtain ⟨ad493, A493_0, c493_0, e493, hx493_0, hl493_0, hi493_0⟩ := at_L2 (Kd.S_reads' HO_5.out).2.2 x9_3 p493 q493
           cases e493
           obtain ⟨ce493, hce493, hMe493, hcc493⟩ := Kd.S_get HO_5.out [] x9_3 p493 (by first | exact q493 | exact of_decide_eq_true (by first | (with_reducible assumption) | assumption) | (have e_ := (Kd.S_reads' HO_5.out).1; omega))
           obtain ⟨ve493_0, rfl, ge493_0⟩ := hMe493
           have hv493_0 := hcc493 0 _ rfl
           rw [Nat.add_zero, show ((Kd.slice 3 (Kd.int .i64))).sz = 1 from rfl, Nat.mul_one] at hv493_0
           replace hv493_0 := Option.some.inj (hv493_0.symm.trans hx493_0)
           rw [hv493_0] at ge493_0
           have HL493_0 := Aside0.mk (show Kd.R (Kd.int .i64) 3 _ _ _ _ (rd_L2 t472 x9_3) from ge493_0)
           clear hv493_0 ge493_0
           clear hcc493 hce493
           have HR493_0 := Aside0.mk hi493_0
           have HC493_0 := Aside0.mk hl493_0
           clear hi493_0 hl493_0
           replace p493 := eq_true p493
           replace q493 := eq_true q493
           have p494 : 0 ≤ (x9_3 : Int) := of_decide_eq_true (by first | (with_reducible assumption) | assumption)
           have q494 : x9_3 < (t472.length : Int) := of_decide_eq_true (by first | (with_reducible assumption) | assumption)
           obtain ⟨ad494, A494_0, c494_0, e494, hx494_0, hl494_0, hi494_0⟩ := at_L2 (Kd.S_reads' HO_5.out).2.2 x9_3 p494 q494
           obtain rfl : ad493 = ad494 := (by injection e494)
           obtain ⟨ce494, hce494, hMe494, hcc494⟩ := Kd.S_get HO_5.out [] x9_3 p494 (by first | exact q494 | exact of_decide_eq_true (by first | (with_reducible assumption) | assumption) | (have e_ := (Kd.S_reads' HO_5.out).1; omega))
           obtain ⟨ve494_0, rfl, ge494_0⟩ := hMe494
           have hv494_0 := hcc494 0 _ rfl
           rw [Nat.add_zero, show ((Kd.slice 3 (Kd.int .i64))).sz = 1 from rfl, Nat.mul_one] at hv494_0
           replace hv494_0 := Option.some.inj (hv494_0.symm.trans hx494_0)
           rw [hv494_0] at ge494_0
           have HL494_0 := Aside0.mk (show Kd.R (Kd.int .i64) 3 _ _ _ _ (rd_L2 t472 x9_3) from ge494_0)
           clear hv494_0 ge494_0
           clear hcc494 hce494
           have HR494_0 := Aside0.mk hi494_0
           have HC494_0 := Aside0.mk hl494_0
           clear hi494_0 hl494_0
           replace p494 := eq_true p494
           replace q494 := eq_true q494
           have ea_ := Option.some.inj (hx493_0.symm.trans hx494_0)
           injection ea_ with ea_ en_ ec_
           subst ea_
           subst ec_
           clear en_
           have p495 : 0 ≤ (x11_5 : Int) := of_decide_eq_true (by first | (with_reducible assumption) | assumption)
           have q495 : x11_5 < ((rd_L2 t472 x9_3).length : Int) := of_decide_eq_true (by first | (with_reducible assumption) | assumption)
           obtain ⟨ad495, e495, hx495_0⟩ := Kd.at_int (by repeat (first | (with_reducible exact HR494_0.out) | (with_reducible refine Kd.C_alloc ?_ _) | (with_reducible refine Kd.C_drewN ?_ _) | (with_reducible refine Kd.C_drew ?_) | exact HR494_0.out)) x11_5 p495 q495
           cases e495
           replace p495 := eq_true p495
           replace q495 := eq_true q495
           have p500 : 0 ≤ ((rd (rd_L2 t472 x9_3) x11_5) : Int) := of_decide_eq_true (by first | (with_reducible assumption) | assumption)
           have q500 : (rd (rd_L2 t472 x9_3) x11_5) < (t469.length : Int) := of_decide_eq_true (by first | (with_reducible assumption) | assumption)
           obtain ⟨ad500, e500, hx500_0⟩ := Kd.at_bool (Kd.R_reads' HO_4.out).2.2 (rd (rd_L2 t472 x9_3) x11_5) p500 q500
           (try rw [← Nbq99.out] at hx500_0)
           (try rw [← Nbq104.out] at hx500_0)
           obtain rfl : ad490 = ad500 := (by injection e500)
           replace p500 := eq_true p500
           replace q500 := eq_true q500
           have p501 : 0 ≤ ((rd (rd_L2 t472 x9_3) x11_5) : Int) := of_decide_eq_true (by first | (with_reducible assumption) | assumption)
           have q501 : (rd (rd_L2 t472 x9_3) x11_5) < (x6_2.length : Int) := of_decide_eq_true (by first | (with_reducible assumption) | assumption)
           obtain ⟨ad501, e501, hx501_0⟩ := Kd.at_int (Kd.R_reads' HO_6.out).2.2 (rd (rd_L2 t472 x9_3) x11_5) p501 q501
           obtain rfl : ad491 = ad501 := (by injection e501)
           replace p501 := eq_true p501
           replace q501 := eq_true q501
           have p502 : 0 ≤ (x9_3 : Int) := of_decide_eq_true (by first | (with_reducible assumption) | assumption)
           have q502 : x9_3 < (x6_2.length : Int) := of_decide_eq_true (by first | (with_reducible assumption) | assumption)
           obtain ⟨ad502, e502, hx502_0⟩ := Kd.at_int (Kd.R_reads' HO_6.out).2.2 x9_3 p502 q502
           obtain rfl : ad491 = ad502 := (by injection e502)
           replace p502 := eq_true p502
           replace q502 := eq_true q502
           have p503 : 0 ≤ (x9_3 : Int) := of_decide_eq_true (by first | (with_reducible assumption) | assumption)
           have q503 : x9_3 < (t469.length : Int) := of_decide_eq_true (by first | (with_reducible assumption) | assumption)
           obtain ⟨ad503, e503, hx503_0⟩ := Kd.at_bool (Kd.R_reads' HO_4.out).2.2 x9_3 p503 q503
           (try rw [← Nbq99.out] at hx503_0)
           (try rw [← Nbq104.out] at hx503_0)
           obtain rfl : ad490 = ad503 := (by injection e503)
           replace p503 := eq_true p503
           replace q503 := eq_true q503
           have p504 : 0 ≤ ((rd (rd_L2 t472 x9_3) x11_5) : Int) := of_decide_eq_true (by first | (with_reducible assumption) | assumption)
           have q504 : (rd (rd_L2 t472 x9_3) x11_5) < (t469.length : Int) := of_decide_eq_true (by first | (with_reducible assumption) | assumption)
           obtain ⟨ad504, e504, hx504_0⟩ := Kd.at_bool (Kd.R_reads' HO_4.out).2.2 (rd (rd_L2 t472 x9_3) x11_5) p504 q504
           (try rw [← Nbq99.out] at hx504_0)
           (try rw [← Nbq104.out] at hx504_0)
           obtain rfl : ad490 = ad504 := (by injection e504)
           replace p504 := eq_true p504
           replace q504 := eq_true q504
           have p505 : 0 ≤ ((rd (rd_L2 t472 x9_3) x11_5) : Int) := of_decide_eq_true (by first | (with_reducible assumption) | assumption)
           have q505 : (rd (rd_L2 t472 x9_3) x11_5) < (x6_2.length : Int) := of_decide_eq_true (by first | (with_reducible assumption) | assumption)
           obtain ⟨ad505, e505, hx505_0⟩ := Kd.at_int (Kd.R_reads' HO_6.out).2.2 (rd (rd_L2 t472 x9_3) x11_5) p505 q505
           obtain rfl : ad491 = ad505 := (by injection e505)
           replace p505 := eq_true p505
           replace q505 := eq_true q505
           have p506 : 0 ≤ (x9_3 : Int) := of_decide_eq_true (by first | (with_reducible assumption) | assumption)
           have q506 : x9_3 < (x6_2.length : Int) := of_decide_eq_true (by first | (with_reducible assumption) | assumption)
           obtain ⟨ad506, e506, hx506_0⟩ := Kd.at_int (Kd.R_reads' HO_6.out).2.2 x9_3 p506 q506
           obtain rfl : ad491 = ad506 := (by injection e506)
           replace p506 := eq_true p506
           replace q506 := eq_true q506
           go_wp2
           repeat (go_quiet (fail); try go_wp2)
           go_roundg k5
           case measure => have := HJ25.out; have := HK2.out; have := HK3.out; have := HJ72.out; have := HK5.out; omega
           case rel => exact ⟨(decide ((rd x6_2 (rd (rd_L2 t472 x9_3) x11_5)) < (rd x6_2 x9_3))), (wrap64 (x11_5 + 1)), (by first | rfl | (simp; done) | (simp [*]; done)), (by first | rfl | (simp; done) | (simp [*]; done)), H', ⟨by have := HJ25.out; have := HK2.out; have := HK3.out; have := HJ72.out; have := HK5.out; omega⟩, ⟨by (with_reducible repeat (first | apply Kd.R_alloc | apply Kd.R_drewN | apply Kd.R_drew)); exact HO_4.out⟩, ⟨by (with_reducible repeat (first | apply Kd.S_alloc | apply Kd.S_drewN | apply Kd.S_drew)); exact HO_5.out⟩, ⟨by (with_reducible repeat (first | apply Kd.R_alloc | apply Kd.R_drewN | apply Kd.R_drew)); exact HO_6.out⟩, ⟨by (with_reducible repeat (first | refine blk_drewN ?_ _ | refine blk_drew ?_ | refine blk_alloc ?_ _)); exact BK463.out⟩, ⟨by repeat (first | (with_reducible first | exact HB.out | apply below_alloc | apply pw_below_drewN | apply below_drew1 | refine below_set ?_ GE463.out) | exact HB.out)⟩⟩
end Go.Proofs.Ytclhjalgflebfaa.Q

