/- What the row of FlowWhere rests on, part 3: contracts of the functions that it reaches, and the plain law. -/
import Derived.Test.YtclhjalgflebfaaJFlowWhere2
namespace Go.Proofs.Ytclhjalgflebfaa.Q
open Go.RowKit Go.Proofs.YtclhjalgflebfaaW.PrintWords Go.Proofs.YtclhjalgflebfaaW.PrintLast Go.Proofs.YtclhjalgflebfaaW.PrintMore
set_option maxHeartbeats 8000000 in
set_option maxRecDepth 100000 in
theorem truantlaw09_FlowWhere.calls (k : Nat) (a0_0 : ByteArray) (A0_1 : Option Addr) (c0_1 : Nat) (l0_1 : List ByteArray) (a0_2 : ByteArray) (A0_3 : Option Addr) (c0_3 : Nat) (l0_3 : List ByteArray) (A0_4 : Option Addr) (c0_4 : Nat) (l0_4 : List (S58)) (A0_5 : Option Addr) (c0_5 : Nat) (l0_5 : List (S40)) (r : Bool) (w : World) (hr0_1 : Kd.C Kd.string w A0_1 l0_1.length l0_1) (hc0_1 : l0_1.length ≤ c0_1) (hr0_3 : Kd.C Kd.string w A0_3 l0_3.length l0_3) (hc0_3 : l0_3.length ≤ c0_3) (hr0_4 : Kd.C k58 w A0_4 l0_4.length l0_4) (hc0_4 : l0_4.length ≤ c0_4) (hr0_5 : Kd.C k40 w A0_5 l0_5.length l0_5) (hc0_5 : l0_5.length ≤ c0_5) (h : truantlaw09_FlowWhere.f k a0_0 l0_1 a0_2 l0_3 l0_4 l0_5 = some r) :
  Calls Try.prog 4 #[.agg #[.string a0_0, .slice A0_1 l0_1.length c0_1, .string a0_2, .slice A0_3 l0_3.length c0_3, .slice A0_4 l0_4.length c0_4, .slice A0_5 l0_5.length c0_5]] w fun e w' => e = .returned (.bool r) ∧ Below w.heap.size w w' := by
 have hu26 := Try.underlying26
 have HR0_1 := Aside0.mk hr0_1
 have HC0_1 := Aside0.mk hc0_1
 clear hr0_1 hc0_1
 have HR0_3 := Aside0.mk hr0_3
 have HC0_3 := Aside0.mk hc0_3
 clear hr0_3 hc0_3
 have HR0_4 := Aside0.mk hr0_4
 have HC0_4 := Aside0.mk hc0_4
 clear hr0_4 hc0_4
 have HR0_5 := Aside0.mk hr0_5
 have HC0_5 := Aside0.mk hc0_5
 clear hr0_5 hc0_5
 have HB := Aside0.mk (Below.refl w.heap.size w)
 have H : ((truantlaw09_awake.f k).bind fun t428 => (if t428 = true then ((truantlaw09_wide.f k a0_0 l0_1 a0_2 l0_3 l0_4 l0_5).bind fun t429 => (if t429 = true then (some true) else ((flow_Where.f k a0_0 l0_1 a0_2 l0_3 l0_4 l0_5).bind fun t430 => (if (t430.length : Int) = (l0_4.length : Int) then (if 0 ≤ (l0_4.length : Int) then (if ((l0_4.length : Int) : Int).toNat ≤ 35184372088832 then (truantlaw09_FlowWhere.l0 k t430 (List.replicate ((l0_4.length : Int) : Int).toNat 0) 0 a0_0 l0_1 a0_2 l0_3 l0_4 l0_5) else (none)) else (none)) else (none))))) else (none))) = some r := h
 clear h
 replace H := Option.bind_eq_some_iff.mp H
 obtain ⟨t428, A20, H⟩ := H
 replace H : (if t428 = true then ((truantlaw09_wide.f k a0_0 l0_1 a0_2 l0_3 l0_4 l0_5).bind fun t429 => (if t429 = true then (some true) else ((flow_Where.f k a0_0 l0_1 a0_2 l0_3 l0_4 l0_5).bind fun t430 => (if (t430.length : Int) = (l0_4.length : Int) then (if 0 ≤ (l0_4.length : Int) then (if ((l0_4.length : Int) : Int).toNat ≤ 35184372088832 then (truantlaw09_FlowWhere.l0 k t430 (List.replicate ((l0_4.length : Int) : Int).toNat 0) 0 a0_0 l0_1 a0_2 l0_3 l0_4 l0_5) else (none)) else (none)) else (none))))) else (none)) = some r := H
 have A2 := Aside0.mk A20
 clear A20
 by_cases c3 : t428 = true
 ·subst c3
  have H1 : ((truantlaw09_wide.f k a0_0 l0_1 a0_2 l0_3 l0_4 l0_5).bind fun t429 => (if t429 = true then (some true) else ((flow_Where.f k a0_0 l0_1 a0_2 l0_3 l0_4 l0_5).bind fun t430 => (if (t430.length : Int) = (l0_4.length : Int) then (if 0 ≤ (l0_4.length : Int) then (if ((l0_4.length : Int) : Int).toNat ≤ 35184372088832 then (truantlaw09_FlowWhere.l0 k t430 (List.replicate ((l0_4.length : Int) : Int).toNat 0) 0 a0_0 l0_1 a0_2 l0_3 l0_4 l0_5) else (none)) else (none)) else (none))))) = some r := by rw [if_pos rfl] at H; exact H
  clear H
  have H := H1
  clear H1
  replace H := Option.bind_eq_some_iff.mp H
  obtain ⟨t429, A40, H⟩ := H
  replace H : (if t429 = true then (some true) else ((flow_Where.f k a0_0 l0_1 a0_2 l0_3 l0_4 l0_5).bind fun t430 => (if (t430.length : Int) = (l0_4.length : Int) then (if 0 ≤ (l0_4.length : Int) then (if ((l0_4.length : Int) : Int).toNat ≤ 35184372088832 then (truantlaw09_FlowWhere.l0 k t430 (List.replicate ((l0_4.length : Int) : Int).toNat 0) 0 a0_0 l0_1 a0_2 l0_3 l0_4 l0_5) else (none)) else (none)) else (none)))) = some r := H
  have A4 := Aside0.mk A40
  clear A40
  by_cases c5 : t429 = true
  ·subst c5
   have H1 : (some true) = some r := by rw [if_pos rfl] at H; exact H
   clear H
   have H := H1
   clear H1
   obtain rfl := Option.some.inj H
   go_enter Try.func4, Try.ntmps4
   go_wp2_with (first | ((with_reducible refine gate_dst (N := 1) rfl ?_); (try (refine gate_guard (by rfl) ?_; dsimp only)); refine box_event ?hg (N := 1) ?hd (cs := #[.string a0_0, .slice A0_1 l0_1.length c0_1, .string a0_2, .slice A0_3 l0_3.length c0_3, .slice A0_4 l0_4.length c0_4, .slice A0_5 l0_5.length c0_5]) (t := 26) ?hr ?_; (case hd => rfl); (case hg => rfl); (case hr => first | (go_simp; done) | (go_simp; rfl)); intro gb427 hg w6 hbox hb; have n0_ := Aside0.mk (below_step (by repeat (first | (with_reducible first | exact HB.out | apply below_alloc | apply pw_below_drewN | apply below_drew1) | exact HB.out)) hb); have n1_ := Aside0.mk (hbox); have n2_ := Aside0.mk ((by rw [hg]; exact (below_size (by repeat (first | (with_reducible first | exact HB.out | apply below_alloc | apply pw_below_drewN | apply below_drew1) | exact HB.out))) : w.heap.size ≤ gb427)); have n3_ := Aside0.mk ((by rw [hg]; exact (below_size (by repeat (first | (with_reducible first | exact HB.out | apply below_alloc | apply pw_below_drewN | apply below_drew1) | exact HB.out))) : w.heap.size ≤ gb427)); clear HB; have HB := n0_; have BK427 := n1_; have GW427 := n2_; have GE427 := n3_; clear n0_ n1_ n2_ n3_; clear hb hbox hg) | (go_at_call 14; (with_reducible refine (truantlaw09_awake.calls k  true _ A2.out).mono ?_); rintro e w7 ⟨rfl, hb⟩; have n0_ := Aside0.mk (blk_below (g := gb427) (o := .cells #[.string a0_0, .slice A0_1 l0_1.length c0_1, .string a0_2, .slice A0_3 l0_3.length c0_3, .slice A0_4 l0_4.length c0_4, .slice A0_5 l0_5.length c0_5] 26 (0, 0)) (by (with_reducible repeat (first | refine blk_drewN ?_ _ | refine blk_drew ?_ | refine blk_alloc ?_ _)); exact BK427.out) hb); have n1_ := Aside0.mk (below_step (by repeat (first | (with_reducible first | exact HB.out | apply below_alloc | apply pw_below_drewN | apply below_drew1 | refine below_set ?_ GE427.out) | exact HB.out)) hb); clear BK427; clear HB; have BK427 := n0_; have HB := n1_; clear n0_ n1_; (try clear hb); (try clear hb2); (try clear hk); (try clear hi); have hcz8_0 : w7.cell? ⟨gb427, 0, none⟩ = some (.string a0_0) := (blk_cell BK427.out 0).trans rfl; have hcz8_1 : w7.cell? ⟨gb427, 1, none⟩ = some (.slice A0_1 l0_1.length c0_1) := (blk_cell BK427.out 1).trans rfl; have hcz8_2 : w7.cell? ⟨gb427, 2, none⟩ = some (.string a0_2) := (blk_cell BK427.out 2).trans rfl; have hcz8_3 : w7.cell? ⟨gb427, 3, none⟩ = some (.slice A0_3 l0_3.length c0_3) := (blk_cell BK427.out 3).trans rfl; have hcz8_4 : w7.cell? ⟨gb427, 4, none⟩ = some (.slice A0_4 l0_4.length c0_4) := (blk_cell BK427.out 4).trans rfl; have hcz8_5 : w7.cell? ⟨gb427, 5, none⟩ = some (.slice A0_5 l0_5.length c0_5) := (blk_cell BK427.out 5).trans rfl; have hfz8_0 := blk_frozen BK427.out 0; have hfz8_1 := blk_frozen BK427.out 1; have hfz8_2 := blk_frozen BK427.out 2; have hfz8_3 := blk_frozen BK427.out 3; have hfz8_4 := blk_frozen BK427.out 4; have hfz8_5 := blk_frozen BK427.out 5) | (go_at_call 15; (with_reducible refine (truantlaw09_wide.calls k a0_0 _ _ l0_1 a0_2 _ _ l0_3 _ _ l0_4 _ _ l0_5 true _ ?side1 ?side2 ?side3 ?side4 ?side5 ?side6 ?side7 ?side8 A4.out).mono ?_); (case side1 => repeat (first | exact (Kd.C_below HR0_1.out HB.out) | (with_reducible refine Kd.C_alloc ?_ _) | (with_reducible refine Kd.C_drewN ?_ _) | (with_reducible refine Kd.C_drew ?_))); (case side2 => exact HC0_1.out); (case side3 => repeat (first | exact (Kd.C_below HR0_3.out HB.out) | (with_reducible refine Kd.C_alloc ?_ _) | (with_reducible refine Kd.C_drewN ?_ _) | (with_reducible refine Kd.C_drew ?_))); (case side4 => exact HC0_3.out); (case side5 => repeat (first | exact (Kd.C_below HR0_4.out HB.out) | (with_reducible refine Kd.C_alloc ?_ _) | (with_reducible refine Kd.C_drewN ?_ _) | (with_reducible refine Kd.C_drew ?_))); (case side6 => exact HC0_4.out); (case side7 => repeat (first | exact (Kd.C_below HR0_5.out HB.out) | (with_reducible refine Kd.C_alloc ?_ _) | (with_reducible refine Kd.C_drewN ?_ _) | (with_reducible refine Kd.C_drew ?_))); (case side8 => exact HC0_5.out); rintro e w9 ⟨rfl, hb⟩; have n0_ := Aside0.mk (blk_below (g := gb427) (o := .cells #[.string a0_0, .slice A0_1 l0_1.length c0_1, .string a0_2, .slice A0_3 l0_3.length c0_3, .slice A0_4 l0_4.length c0_4, .slice A0_5 l0_5.length c0_5] 26 (0, 0)) (by (with_reducible repeat (first | refine blk_drewN ?_ _ | refine blk_drew ?_ | refine blk_alloc ?_ _)); exact BK427.out) hb); have n1_ := Aside0.mk (below_step (by repeat (first | (with_reducible first | exact HB.out | apply below_alloc | apply pw_below_drewN | apply below_drew1 | refine below_set ?_ GE427.out) | exact HB.out)) hb); clear BK427; clear HB; have BK427 := n0_; have HB := n1_; clear n0_ n1_; (try clear hb); (try clear hb2); (try clear hk); (try clear hi)))
   repeat (go_quiet (first | ((with_reducible refine gate_dst (N := 1) rfl ?_); (try (refine gate_guard (by rfl) ?_; dsimp only)); refine box_event ?hg (N := 1) ?hd (cs := #[.string a0_0, .slice A0_1 l0_1.length c0_1, .string a0_2, .slice A0_3 l0_3.length c0_3, .slice A0_4 l0_4.length c0_4, .slice A0_5 l0_5.length c0_5]) (t := 26) ?hr ?_; (case hd => rfl); (case hg => rfl); (case hr => first | (go_simp; done) | (go_simp; rfl)); intro gb427 hg w6 hbox hb; have n0_ := Aside0.mk (below_step (by repeat (first | (with_reducible first | exact HB.out | apply below_alloc | apply pw_below_drewN | apply below_drew1) | exact HB.out)) hb); have n1_ := Aside0.mk (hbox); have n2_ := Aside0.mk ((by rw [hg]; exact (below_size (by repeat (first | (with_reducible first | exact HB.out | apply below_alloc | apply pw_below_drewN | apply below_drew1) | exact HB.out))) : w.heap.size ≤ gb427)); have n3_ := Aside0.mk ((by rw [hg]; exact (below_size (by repeat (first | (with_reducible first | exact HB.out | apply below_alloc | apply pw_below_drewN | apply below_drew1) | exact HB.out))) : w.heap.size ≤ gb427)); clear HB; have HB := n0_; have BK427 := n1_; have GW427 := n2_; have GE427 := n3_; clear n0_ n1_ n2_ n3_; clear hb hbox hg) | (go_at_call 14; (with_reducible refine (truantlaw09_awake.calls k  true _ A2.out).mono ?_); rintro e w7 ⟨rfl, hb⟩; have n0_ := Aside0.mk (blk_below (g := gb427) (o := .cells #[.string a0_0, .slice A0_1 l0_1.length c0_1, .string a0_2, .slice A0_3 l0_3.length c0_3, .slice A0_4 l0_4.length c0_4, .slice A0_5 l0_5.length c0_5] 26 (0, 0)) (by (with_reducible repeat (first | refine blk_drewN ?_ _ | refine blk_drew ?_ | refine blk_alloc ?_ _)); exact BK427.out) hb); have n1_ := Aside0.mk (below_step (by repeat (first | (with_reducible first | exact HB.out | apply below_alloc | apply pw_below_drewN | apply below_drew1 | refine below_set ?_ GE427.out) | exact HB.out)) hb); clear BK427; clear HB; have BK427 := n0_; have HB := n1_; clear n0_ n1_; (try clear hb); (try clear hb2); (try clear hk); (try clear hi); have hcz8_0 : w7.cell? ⟨gb427, 0, none⟩ = some (.string a0_0) := (blk_cell BK427.out 0).trans rfl; have hcz8_1 : w7.cell? ⟨gb427, 1, none⟩ = some (.slice A0_1 l0_1.length c0_1) := (blk_cell BK427.out 1).trans rfl; have hcz8_2 : w7.cell? ⟨gb427, 2, none⟩ = some (.string a0_2) := (blk_cell BK427.out 2).trans rfl; have hcz8_3 : w7.cell? ⟨gb427, 3, none⟩ = some (.slice A0_3 l0_3.length c0_3) := (blk_cell BK427.out 3).trans rfl; have hcz8_4 : w7.cell? ⟨gb427, 4, none⟩ = some (.slice A0_4 l0_4.length c0_4) := (blk_cell BK427.out 4).trans rfl; have hcz8_5 : w7.cell? ⟨gb427, 5, none⟩ = some (.slice A0_5 l0_5.length c0_5) := (blk_cell BK427.out 5).trans rfl; have hfz8_0 := blk_frozen BK427.out 0; have hfz8_1 := blk_frozen BK427.out 1; have hfz8_2 := blk_frozen BK427.out 2; have hfz8_3 := blk_frozen BK427.out 3; have hfz8_4 := blk_frozen BK427.out 4; have hfz8_5 := blk_frozen BK427.out 5) | (go_at_call 15; (with_reducible refine (truantlaw09_wide.calls k a0_0 _ _ l0_1 a0_2 _ _ l0_3 _ _ l0_4 _ _ l0_5 true _ ?side1 ?side2 ?side3 ?side4 ?side5 ?side6 ?side7 ?side8 A4.out).mono ?_); (case side1 => repeat (first | exact (Kd.C_below HR0_1.out HB.out) | (with_reducible refine Kd.C_alloc ?_ _) | (with_reducible refine Kd.C_drewN ?_ _) | (with_reducible refine Kd.C_drew ?_))); (case side2 => exact HC0_1.out); (case side3 => repeat (first | exact (Kd.C_below HR0_3.out HB.out) | (with_reducible refine Kd.C_alloc ?_ _) | (with_reducible refine Kd.C_drewN ?_ _) | (with_reducible refine Kd.C_drew ?_))); (case side4 => exact HC0_3.out); (case side5 => repeat (first | exact (Kd.C_below HR0_4.out HB.out) | (with_reducible refine Kd.C_alloc ?_ _) | (with_reducible refine Kd.C_drewN ?_ _) | (with_reducible refine Kd.C_drew ?_))); (case side6 => exact HC0_4.out); (case side7 => repeat (first | exact (Kd.C_below HR0_5.out HB.out) | (with_reducible refine Kd.C_alloc ?_ _) | (with_reducible refine Kd.C_drewN ?_ _) | (with_reducible refine Kd.C_drew ?_))); (case side8 => exact HC0_5.out); rintro e w9 ⟨rfl, hb⟩; have n0_ := Aside0.mk (blk_below (g := gb427) (o := .cells #[.string a0_0, .slice A0_1 l0_1.length c0_1, .string a0_2, .slice A0_3 l0_3.length c0_3, .slice A0_4 l0_4.length c0_4, .slice A0_5 l0_5.length c0_5] 26 (0, 0)) (by (with_reducible repeat (first | refine blk_drewN ?_ _ | refine blk_drew ?_ | refine blk_alloc ?_ _)); exact BK427.out) hb); have n1_ := Aside0.mk (below_step (by repeat (first | (with_reducible first | exact HB.out | apply below_alloc | apply pw_below_drewN | apply below_drew1 | refine below_set ?_ GE427.out) | exact HB.out)) hb); clear BK427; clear HB; have BK427 := n0_; have HB := n1_; clear n0_ n1_; (try clear hb); (try clear hb2); (try clear hk); (try clear hi))); try go_wp2_with (first | ((with_reducible refine gate_dst (N := 1) rfl ?_); (try (refine gate_guard (by rfl) ?_; dsimp only)); refine box_event ?hg (N := 1) ?hd (cs := #[.string a0_0, .slice A0_1 l0_1.length c0_1, .string a0_2, .slice A0_3 l0_3.length c0_3, .slice A0_4 l0_4.length c0_4, .slice A0_5 l0_5.length c0_5]) (t := 26) ?hr ?_; (case hd => rfl); (case hg => rfl); (case hr => first | (go_simp; done) | (go_simp; rfl)); intro gb427 hg w6 hbox hb; have n0_ := Aside0.mk (below_step (by repeat (first | (with_reducible first | exact HB.out | apply below_alloc | apply pw_below_drewN | apply below_drew1) | exact HB.out)) hb); have n1_ := Aside0.mk (hbox); have n2_ := Aside0.mk ((by rw [hg]; exact (below_size (by repeat (first | (with_reducible first | exact HB.out | apply below_alloc | apply pw_below_drewN | apply below_drew1) | exact HB.out))) : w.heap.size ≤ gb427)); have n3_ := Aside0.mk ((by rw [hg]; exact (below_size (by repeat (first | (with_reducible first | exact HB.out | apply below_alloc | apply pw_below_drewN | apply below_drew1) | exact HB.out))) : w.heap.size ≤ gb427)); clear HB; have HB := n0_; have BK427 := n1_; have GW427 := n2_; have GE427 := n3_; clear n0_ n1_ n2_ n3_; clear hb hbox hg) | (go_at_call 14; (with_reducible refine (truantlaw09_awake.calls k  true _ A2.out).mono ?_); rintro e w7 ⟨rfl, hb⟩; have n0_ := Aside0.mk (blk_below (g := gb427) (o := .cells #[.string a0_0, .slice A0_1 l0_1.length c0_1, .string a0_2, .slice A0_3 l0_3.length c0_3, .slice A0_4 l0_4.length c0_4, .slice A0_5 l0_5.length c0_5] 26 (0, 0)) (by (with_reducible repeat (first | refine blk_drewN ?_ _ | refine blk_drew ?_ | refine blk_alloc ?_ _)); exact BK427.out) hb); have n1_ := Aside0.mk (below_step (by repeat (first | (with_reducible first | exact HB.out | apply below_alloc | apply pw_below_drewN | apply below_drew1 | refine below_set ?_ GE427.out) | exact HB.out)) hb); clear BK427; clear HB; have BK427 := n0_; have HB := n1_; clear n0_ n1_; (try clear hb); (try clear hb2); (try clear hk); (try clear hi); have hcz8_0 : w7.cell? ⟨gb427, 0, none⟩ = some (.string a0_0) := (blk_cell BK427.out 0).trans rfl; have hcz8_1 : w7.cell? ⟨gb427, 1, none⟩ = some (.slice A0_1 l0_1.length c0_1) := (blk_cell BK427.out 1).trans rfl; have hcz8_2 : w7.cell? ⟨gb427, 2, none⟩ = some (.string a0_2) := (blk_cell BK427.out 2).trans rfl; have hcz8_3 : w7.cell? ⟨gb427, 3, none⟩ = some (.slice A0_3 l0_3.length c0_3) := (blk_cell BK427.out 3).trans rfl; have hcz8_4 : w7.cell? ⟨gb427, 4, none⟩ = some (.slice A0_4 l0_4.length c0_4) := (blk_cell BK427.out 4).trans rfl; have hcz8_5 : w7.cell? ⟨gb427, 5, none⟩ = some (.slice A0_5 l0_5.length c0_5) := (blk_cell BK427.out 5).trans rfl; have hfz8_0 := blk_frozen BK427.out 0; have hfz8_1 := blk_frozen BK427.out 1; have hfz8_2 := blk_frozen BK427.out 2; have hfz8_3 := blk_frozen BK427.out 3; have hfz8_4 := blk_frozen BK427.out 4; have hfz8_5 := blk_frozen BK427.out 5) | (go_at_call 15; (with_reducible refine (truantlaw09_wide.calls k a0_0 _ _ l0_1 a0_2 _ _ l0_3 _ _ l0_4 _ _ l0_5 true _ ?side1 ?side2 ?side3 ?side4 ?side5 ?side6 ?side7 ?side8 A4.out).mono ?_); (case side1 => repeat (first | exact (Kd.C_below HR0_1.out HB.out) | (with_reducible refine Kd.C_alloc ?_ _) | (with_reducible refine Kd.C_drewN ?_ _) | (with_reducible refine Kd.C_drew ?_))); (case side2 => exact HC0_1.out); (case side3 => repeat (first | exact (Kd.C_below HR0_3.out HB.out) | (with_reducible refine Kd.C_alloc ?_ _) | (with_reducible refine Kd.C_drewN ?_ _) | (with_reducible refine Kd.C_drew ?_))); (case side4 => exact HC0_3.out); (case side5 => repeat (first | exact (Kd.C_below HR0_4.out HB.out) | (with_reducible refine Kd.C_alloc ?_ _) | (with_reducible refine Kd.C_drewN ?_ _) | (with_reducible refine Kd.C_drew ?_))); (case side6 => exact HC0_4.out); (case side7 => repeat (first | exact (Kd.C_below HR0_5.out HB.out) | (with_reducible refine Kd.C_alloc ?_ _) | (with_reducible refine Kd.C_drewN ?_ _) | (with_reducible refine Kd.C_drew ?_))); (case side8 => exact HC0_5.out); rintro e w9 ⟨rfl, hb⟩; have n0_ := Aside0.mk (blk_below (g := gb427) (o := .cells #[.string a0_0, .slice A0_1 l0_1.length c0_1, .string a0_2, .slice A0_3 l0_3.length c0_3, .slice A0_4 l0_4.length c0_4, .slice A0_5 l0_5.length c0_5] 26 (0, 0)) (by (with_reducible repeat (first | refine blk_drewN ?_ _ | refine blk_drew ?_ | refine blk_alloc ?_ _)); exact BK427.out) hb); have n1_ := Aside0.mk (below_step (by repeat (first | (with_reducible first | exact HB.out | apply below_alloc | apply pw_below_drewN | apply below_drew1 | refine below_set ?_ GE427.out) | exact HB.out)) hb); clear BK427; clear HB; have BK427 := n0_; have HB := n1_; clear n0_ n1_; (try clear hb); (try clear hb2); (try clear hk); (try clear hi))))
   go_ret
   exact ⟨by first | rfl | (simp [errW_none, errW_some] <;> rfl) | (simp [*, errW_none, errW_some] <;> rfl), by repeat (first | (with_reducible first | exact HB.out | apply below_alloc | apply pw_below_drewN | apply below_drew1 | refine below_set ?_ GE427.out) | exact HB.out)⟩
  ·replace c5 := Bool.eq_false_iff.mpr c5
   subst c5
   have H1 : ((flow_Where.f k a0_0 l0_1 a0_2 l0_3 l0_4 l0_5).bind fun t430 => (if (t430.length : Int) = (l0_4.length : Int) then (if 0 ≤ (l0_4.length : Int) then (if ((l0_4.length : Int) : Int).toNat ≤ 35184372088832 then (truantlaw09_FlowWhere.l0 k t430 (List.replicate ((l0_4.length : Int) : Int).toNat 0) 0 a0_0 l0_1 a0_2 l0_3 l0_4 l0_5) else (none)) else (none)) else (none))) = some r := by rw [if_neg (show ¬ (false = true) by decide)] at H; exact H
   clear H
   have H := H1
   clear H1
   replace H := Option.bind_eq_some_iff.mp H
   obtain ⟨t430, A100, H⟩ := H
   replace H : (if (t430.length : Int) = (l0_4.length : Int) then (if 0 ≤ (l0_4.length : Int) then (if ((l0_4.length : Int) : Int).toNat ≤ 35184372088832 then (truantlaw09_FlowWhere.l0 k t430 (List.replicate ((l0_4.length : Int) : Int).toNat 0) 0 a0_0 l0_1 a0_2 l0_3 l0_4 l0_5) else (none)) else (none)) else (none)) = some r := H
   have A10 := Aside0.mk A100
   clear A100
   by_cases c11 : (t430.length : Int) = (l0_4.length : Int)
   ·rw [if_pos c11] at H
    have c11b0 : ((t430.length : Int) == (l0_4.length : Int)) = true := beq_iff_eq.mpr c11
    have c11b1 : ((t430.length : Int) != (l0_4.length : Int)) = false := bne_eq_false_iff_eq.mpr c11
    have c11b2 : (t430.length == l0_4.length) = true := by first | simpa using c11 | (simp at c11 ⊢; omega)
    clear c11
    by_cases c12 : 0 ≤ (l0_4.length : Int)
    ·rw [if_pos c12] at H
     have c12b0 := eq_true c12
     have c12b1 : decide (0 ≤ (l0_4.length : Int)) = true := decide_eq_true c12
     clear c12
     by_cases c13 : ((l0_4.length : Int) : Int).toNat ≤ 35184372088832
     ·rw [if_pos c13] at H
      have c13b0 := eq_true c13
      have c13b1 : decide (((l0_4.length : Int) : Int).toNat ≤ 35184372088832) = true := decide_eq_true c13
      clear c13
      obtain ⟨y433, hy433⟩ : ∃ y_ : List Int, y_ = (List.replicate ((l0_4.length : Int) : Int).toNat 0) := ⟨_, rfl⟩
      replace H : (truantlaw09_FlowWhere.l0 k t430 y433 0 a0_0 l0_1 a0_2 l0_3 l0_4 l0_5) = some r := by first | (rw [hy433]; with_reducible exact H) | (have H2_ := (Option.bind_some _ _).symm.trans H; rw [hy433]; with_reducible exact H2_) | (have H2_ := (Option.bind_some _ _).symm.trans H; with_reducible exact H2_) | with_reducible exact H | (rw [hy433]; exact H) | exact H
      have Ny433 := Aside0.mk hy433
      clear hy433
      have H' := Aside0.mk H
      clear H
      go_enter Try.func4, Try.ntmps4
      go_wp2_with (first | ((with_reducible refine gate_dst (N := 1) rfl ?_); (try (refine gate_guard (by rfl) ?_; dsimp only)); refine box_event ?hg (N := 1) ?hd (cs := #[.string a0_0, .slice A0_1 l0_1.length c0_1, .string a0_2, .slice A0_3 l0_3.length c0_3, .slice A0_4 l0_4.length c0_4, .slice A0_5 l0_5.length c0_5]) (t := 26) ?hr ?_; (case hd => rfl); (case hg => rfl); (case hr => first | (go_simp; done) | (go_simp; rfl)); intro gb427 hg w14 hbox hb; have n0_ := Aside0.mk (below_step (by repeat (first | (with_reducible first | exact HB.out | apply below_alloc | apply pw_below_drewN | apply below_drew1) | exact HB.out)) hb); have n1_ := Aside0.mk (hbox); have n2_ := Aside0.mk ((by rw [hg]; exact (below_size (by repeat (first | (with_reducible first | exact HB.out | apply below_alloc | apply pw_below_drewN | apply below_drew1) | exact HB.out))) : w.heap.size ≤ gb427)); have n3_ := Aside0.mk ((by rw [hg]; exact (below_size (by repeat (first | (with_reducible first | exact HB.out | apply below_alloc | apply pw_below_drewN | apply below_drew1) | exact HB.out))) : w.heap.size ≤ gb427)); clear HB; have HB := n0_; have BK427 := n1_; have GW427 := n2_; have GE427 := n3_; clear n0_ n1_ n2_ n3_; clear hb hbox hg) | (go_at_call 14; (with_reducible refine (truantlaw09_awake.calls k  true _ A2.out).mono ?_); rintro e w15 ⟨rfl, hb⟩; have n0_ := Aside0.mk (blk_below (g := gb427) (o := .cells #[.string a0_0, .slice A0_1 l0_1.length c0_1, .string a0_2, .slice A0_3 l0_3.length c0_3, .slice A0_4 l0_4.length c0_4, .slice A0_5 l0_5.length c0_5] 26 (0, 0)) (by (with_reducible repeat (first | refine blk_drewN ?_ _ | refine blk_drew ?_ | refine blk_alloc ?_ _)); exact BK427.out) hb); have n1_ := Aside0.mk (below_step (by repeat (first | (with_reducible first | exact HB.out | apply below_alloc | apply pw_below_drewN | apply below_drew1 | refine below_set ?_ GE427.out) | exact HB.out)) hb); clear BK427; clear HB; have BK427 := n0_; have HB := n1_; clear n0_ n1_; (try clear hb); (try clear hb2); (try clear hk); (try clear hi); have hcz16_0 : w15.cell? ⟨gb427, 0, none⟩ = some (.string a0_0) := (blk_cell BK427.out 0).trans rfl; have hcz16_1 : w15.cell? ⟨gb427, 1, none⟩ = some (.slice A0_1 l0_1.length c0_1) := (blk_cell BK427.out 1).trans rfl; have hcz16_2 : w15.cell? ⟨gb427, 2, none⟩ = some (.string a0_2) := (blk_cell BK427.out 2).trans rfl; have hcz16_3 : w15.cell? ⟨gb427, 3, none⟩ = some (.slice A0_3 l0_3.length c0_3) := (blk_cell BK427.out 3).trans rfl; have hcz16_4 : w15.cell? ⟨gb427, 4, none⟩ = some (.slice A0_4 l0_4.length c0_4) := (blk_cell BK427.out 4).trans rfl; have hcz16_5 : w15.cell? ⟨gb427, 5, none⟩ = some (.slice A0_5 l0_5.length c0_5) := (blk_cell BK427.out 5).trans rfl; have hfz16_0 := blk_frozen BK427.out 0; have hfz16_1 := blk_frozen BK427.out 1; have hfz16_2 := blk_frozen BK427.out 2; have hfz16_3 := blk_frozen BK427.out 3; have hfz16_4 := blk_frozen BK427.out 4; have hfz16_5 := blk_frozen BK427.out 5) | (go_at_call 15; (with_reducible refine (truantlaw09_wide.calls k a0_0 _ _ l0_1 a0_2 _ _ l0_3 _ _ l0_4 _ _ l0_5 false _ ?side1 ?side2 ?side3 ?side4 ?side5 ?side6 ?side7 ?side8 A4.out).mono ?_); (case side1 => repeat (first | exact (Kd.C_below HR0_1.out HB.out) | (with_reducible refine Kd.C_alloc ?_ _) | (with_reducible refine Kd.C_drewN ?_ _) | (with_reducible refine Kd.C_drew ?_))); (case side2 => exact HC0_1.out); (case side3 => repeat (first | exact (Kd.C_below HR0_3.out HB.out) | (with_reducible refine Kd.C_alloc ?_ _) | (with_reducible refine Kd.C_drewN ?_ _) | (with_reducible refine Kd.C_drew ?_))); (case side4 => exact HC0_3.out); (case side5 => repeat (first | exact (Kd.C_below HR0_4.out HB.out) | (with_reducible refine Kd.C_alloc ?_ _) | (with_reducible refine Kd.C_drewN ?_ _) | (with_reducible refine Kd.C_drew ?_))); (case side6 => exact HC0_4.out); (case side7 => repeat (first | exact (Kd.C_below HR0_5.out HB.out) | (with_reducible refine Kd.C_alloc ?_ _) | (with_reducible refine Kd.C_drewN ?_ _) | (with_reducible refine Kd.C_drew ?_))); (case side8 => exact HC0_5.out); rintro e w17 ⟨rfl, hb⟩; have n0_ := Aside0.mk (blk_below (g := gb427) (o := .cells #[.string a0_0, .slice A0_1 l0_1.length c0_1, .string a0_2, .slice A0_3 l0_3.length c0_3, .slice A0_4 l0_4.length c0_4, .slice A0_5 l0_5.length c0_5] 26 (0, 0)) (by (with_reducible repeat (first | refine blk_drewN ?_ _ | refine blk_drew ?_ | refine blk_alloc ?_ _)); exact BK427.out) hb); have n1_ := Aside0.mk (below_step (by repeat (first | (with_reducible first | exact HB.out | apply below_alloc | apply pw_below_drewN | apply below_drew1 | refine below_set ?_ GE427.out) | exact HB.out)) hb); clear BK427; clear HB; have BK427 := n0_; have HB := n1_; clear n0_ n1_; (try clear hb); (try clear hb2); (try clear hk); (try clear hi); have hcz18_0 : w17.cell? ⟨gb427, 0, none⟩ = some (.string a0_0) := (blk_cell BK427.out 0).trans rfl; have hcz18_1 : w17.cell? ⟨gb427, 1, none⟩ = some (.slice A0_1 l0_1.length c0_1) := (blk_cell BK427.out 1).trans rfl; have hcz18_2 : w17.cell? ⟨gb427, 2, none⟩ = some (.string a0_2) := (blk_cell BK427.out 2).trans rfl; have hcz18_3 : w17.cell? ⟨gb427, 3, none⟩ = some (.slice A0_3 l0_3.length c0_3) := (blk_cell BK427.out 3).trans rfl; have hcz18_4 : w17.cell? ⟨gb427, 4, none⟩ = some (.slice A0_4 l0_4.length c0_4) := (blk_cell BK427.out 4).trans rfl; have hcz18_5 : w17.cell? ⟨gb427, 5, none⟩ = some (.slice A0_5 l0_5.length c0_5) := (blk_cell BK427.out 5).trans rfl; have hfz18_0 := blk_frozen BK427.out 0; have hfz18_1 := blk_frozen BK427.out 1; have hfz18_2 := blk_frozen BK427.out 2; have hfz18_3 := blk_frozen BK427.out 3; have hfz18_4 := blk_frozen BK427.out 4; have hfz18_5 := blk_frozen BK427.out 5) | (go_at_call 25; (with_reducible refine (flow_Where.calls k a0_0 _ _ l0_1 a0_2 _ _ l0_3 _ _ l0_4 _ _ l0_5 t430 _ ?side1 ?side2 ?side3 ?side4 ?side5 ?side6 ?side7 ?side8 A10.out).mono ?_); (case side1 => repeat (first | exact (Kd.C_below HR0_1.out HB.out) | (with_reducible refine Kd.C_alloc ?_ _) | (with_reducible refine Kd.C_drewN ?_ _) | (with_reducible refine Kd.C_drew ?_))); (case side2 => exact HC0_1.out); (case side3 => repeat (first | exact (Kd.C_below HR0_3.out HB.out) | (with_reducible refine Kd.C_alloc ?_ _) | (with_reducible refine Kd.C_drewN ?_ _) | (with_reducible refine Kd.C_drew ?_))); (case side4 => exact HC0_3.out); (case side5 => repeat (first | exact (Kd.C_below HR0_4.out HB.out) | (with_reducible refine Kd.C_alloc ?_ _) | (with_reducible refine Kd.C_drewN ?_ _) | (with_reducible refine Kd.C_drew ?_))); (case side6 => exact HC0_4.out); (case side7 => repeat (first | exact (Kd.C_below HR0_5.out HB.out) | (with_reducible refine Kd.C_alloc ?_ _) | (with_reducible refine Kd.C_drewN ?_ _) | (with_reducible refine Kd.C_drew ?_))); (case side8 => exact HC0_5.out); rintro e w19 ⟨v431, rfl, ho0, hb⟩; have n0_ := Aside0.mk (Kd.R_lower ho0 (below_size (by repeat (first | (with_reducible first | exact HB.out | apply below_alloc | apply pw_below_drewN | apply below_drew1 | refine below_set ?_ GE427.out) | exact HB.out)))); have n1_ := Aside0.mk (blk_below (g := gb427) (o := .cells #[.string a0_0, .slice A0_1 l0_1.length c0_1, .string a0_2, .slice A0_3 l0_3.length c0_3, .slice A0_4 l0_4.length c0_4, .slice A0_5 l0_5.length c0_5] 26 (0, 0)) (by (with_reducible repeat (first | refine blk_drewN ?_ _ | refine blk_drew ?_ | refine blk_alloc ?_ _)); exact BK427.out) hb); have n2_ := Aside0.mk (below_step (by repeat (first | (with_reducible first | exact HB.out | apply below_alloc | apply pw_below_drewN | apply below_drew1 | refine below_set ?_ GE427.out) | exact HB.out)) hb); clear BK427; clear HB; have HO432 := n0_; have BK427 := n1_; have HB := n2_; clear n0_ n1_ n2_; (try clear hb); (try clear hb2); (try clear hk); (try clear hi); (try clear ho0); obtain ⟨Ao20, co20, eo20⟩ := Kd.R_slice HO432.out; subst eo20; have hcz21_0 : w19.cell? ⟨gb427, 0, none⟩ = some (.string a0_0) := (blk_cell BK427.out 0).trans rfl; have hcz21_1 : w19.cell? ⟨gb427, 1, none⟩ = some (.slice A0_1 l0_1.length c0_1) := (blk_cell BK427.out 1).trans rfl; have hcz21_2 : w19.cell? ⟨gb427, 2, none⟩ = some (.string a0_2) := (blk_cell BK427.out 2).trans rfl; have hcz21_3 : w19.cell? ⟨gb427, 3, none⟩ = some (.slice A0_3 l0_3.length c0_3) := (blk_cell BK427.out 3).trans rfl; have hcz21_4 : w19.cell? ⟨gb427, 4, none⟩ = some (.slice A0_4 l0_4.length c0_4) := (blk_cell BK427.out 4).trans rfl; have hcz21_5 : w19.cell? ⟨gb427, 5, none⟩ = some (.slice A0_5 l0_5.length c0_5) := (blk_cell BK427.out 5).trans rfl; have hfz21_0 := blk_frozen BK427.out 0; have hfz21_1 := blk_frozen BK427.out 1; have hfz21_2 := blk_frozen BK427.out 2; have hfz21_3 := blk_frozen BK427.out 3; have hfz21_4 := blk_frozen BK427.out 4; have hfz21_5 := blk_frozen BK427.out 5) | ((with_reducible refine gate_dst (N := 35) rfl ?_); (try (refine gate_guard (by rfl) ?_; dsimp only)); refine Kd.R_make (Kd.int .i64) _ 3 rfl (N := 35) rfl 34 _ _ rfl (l0_4.length : Int) rfl rfl Try.underlying34 (.int .i64 0) 8 info3 rfl (by decide) (by omega) 0 (ok := fun _ => True) (okp := fun _ => True) rfl (fun _ hk => hk) trivial (of_decide_eq_true (by first | (with_reducible assumption) | assumption)) (Nat.le_trans (Nat.mul_le_mul_right _ (of_decide_eq_true (by first | (with_reducible assumption) | assumption) : (l0_4.length : Int).toNat ≤ 35184372088832)) (by omega)) (Below.refl _ _) (Nat.le_refl _) ?_; intro v434 w22 ho23 hb hg_ hnew_; clear hg_ hnew_; (first | rw [← Ny433.out] at ho23 | (simp only [Int.reduceToNat] at ho23; rw [← Ny433.out] at ho23)); have n0_ := Aside0.mk (Kd.R_elder' (by (with_reducible repeat (first | apply Kd.R_alloc | apply Kd.R_drewN | apply Kd.R_drew)); exact HO432.out) (Kd.R_base ho23) hb); have n1_ := Aside0.mk (Kd.R_lower (Kd.R_new' ho23 (Kd.R_lt (by (with_reducible repeat (first | apply Kd.R_alloc | apply Kd.R_drewN | apply Kd.R_drew)); exact HO432.out))) (below_size (by repeat (first | (with_reducible first | exact HB.out | apply below_alloc | apply pw_below_drewN | apply below_drew1 | refine below_set ?_ GE427.out) | exact HB.out)))); have n2_ := Aside0.mk (blk_below (g := gb427) (o := .cells #[.string a0_0, .slice A0_1 l0_1.length c0_1, .string a0_2, .slice A0_3 l0_3.length c0_3, .slice A0_4 l0_4.length c0_4, .slice A0_5 l0_5.length c0_5] 26 (0, 0)) (by (with_reducible repeat (first | refine blk_drewN ?_ _ | refine blk_drew ?_ | refine blk_alloc ?_ _)); exact BK427.out) hb); have n3_ := Aside0.mk (below_step (by repeat (first | (with_reducible first | exact HB.out | apply below_alloc | apply pw_below_drewN | apply below_drew1 | refine below_set ?_ GE427.out) | exact HB.out)) hb); clear HO432; clear BK427; clear HB; have HO432 := n0_; have HO435 := n1_; have BK427 := n2_; have HB := n3_; clear n0_ n1_ n2_ n3_; clear hb ho23))
      repeat (go_quiet (first | ((with_reducible refine gate_dst (N := 1) rfl ?_); (try (refine gate_guard (by rfl) ?_; dsimp only)); refine box_event ?hg (N := 1) ?hd (cs := #[.string a0_0, .slice A0_1 l0_1.length c0_1, .string a0_2, .slice A0_3 l0_3.length c0_3, .slice A0_4 l0_4.length c0_4, .slice A0_5 l0_5.length c0_5]) (t := 26) ?hr ?_; (case hd => rfl); (case hg => rfl); (case hr => first | (go_simp; done) | (go_simp; rfl)); intro gb427 hg w14 hbox hb; have n0_ := Aside0.mk (below_step (by repeat (first | (with_reducible first | exact HB.out | apply below_alloc | apply pw_below_drewN | apply below_drew1) | exact HB.out)) hb); have n1_ := Aside0.mk (hbox); have n2_ := Aside0.mk ((by rw [hg]; exact (below_size (by repeat (first | (with_reducible first | exact HB.out | apply below_alloc | apply pw_below_drewN | apply below_drew1) | exact HB.out))) : w.heap.size ≤ gb427)); have n3_ := Aside0.mk ((by rw [hg]; exact (below_size (by repeat (first | (with_reducible first | exact HB.out | apply below_alloc | apply pw_below_drewN | apply below_drew1) | exact HB.out))) : w.heap.size ≤ gb427)); clear HB; have HB := n0_; have BK427 := n1_; have GW427 := n2_; have GE427 := n3_; clear n0_ n1_ n2_ n3_; clear hb hbox hg) | (go_at_call 14; (with_reducible refine (truantlaw09_awake.calls k  true _ A2.out).mono ?_); rintro e w15 ⟨rfl, hb⟩; have n0_ := Aside0.mk (blk_below (g := gb427) (o := .cells #[.string a0_0, .slice A0_1 l0_1.length c0_1, .string a0_2, .slice A0_3 l0_3.length c0_3, .slice A0_4 l0_4.length c0_4, .slice A0_5 l0_5.length c0_5] 26 (0, 0)) (by (with_reducible repeat (first | refine blk_drewN ?_ _ | refine blk_drew ?_ | refine blk_alloc ?_ _)); exact BK427.out) hb); have n1_ := Aside0.mk (below_step (by repeat (first | (with_reducible first | exact HB.out | apply below_alloc | apply pw_below_drewN | apply below_drew1 | refine below_set ?_ GE427.out) | exact HB.out)) hb); clear BK427; clear HB; have BK427 := n0_; have HB := n1_; clear n0_ n1_; (try clear hb); (try clear hb2); (try clear hk); (try clear hi); have hcz16_0 : w15.cell? ⟨gb427, 0, none⟩ = some (.string a0_0) := (blk_cell BK427.out 0).trans rfl; have hcz16_1 : w15.cell? ⟨gb427, 1, none⟩ = some (.slice A0_1 l0_1.length c0_1) := (blk_cell BK427.out 1).trans rfl; have hcz16_2 : w15.cell? ⟨gb427, 2, none⟩ = some (.string a0_2) := (blk_cell BK427.out 2).trans rfl; have hcz16_3 : w15.cell? ⟨gb427, 3, none⟩ = some (.slice A0_3 l0_3.length c0_3) := (blk_cell BK427.out 3).trans rfl; have hcz16_4 : w15.cell? ⟨gb427, 4, none⟩ = some (.slice A0_4 l0_4.length c0_4) := (blk_cell BK427.out 4).trans rfl; have hcz16_5 : w15.cell? ⟨gb427, 5, none⟩ = some (.slice A0_5 l0_5.length c0_5) := (blk_cell BK427.out 5).trans rfl; have hfz16_0 := blk_frozen BK427.out 0; have hfz16_1 := blk_frozen BK427.out 1; have hfz16_2 := blk_frozen BK427.out 2; have hfz16_3 := blk_frozen BK427.out 3; have hfz16_4 := blk_frozen BK427.out 4; have hfz16_5 := blk_frozen BK427.out 5) | (go_at_call 15; (with_reducible refine (truantlaw09_wide.calls k a0_0 _ _ l0_1 a0_2 _ _ l0_3 _ _ l0_4 _ _ l0_5 false _ ?side1 ?side2 ?side3 ?side4 ?side5 ?side6 ?side7 ?side8 A4.out).mono ?_); (case side1 => repeat (first | exact (Kd.C_below HR0_1.out HB.out) | (with_reducible refine Kd.C_alloc ?_ _) | (with_reducible refine Kd.C_drewN ?_ _) | (with_reducible refine Kd.C_drew ?_))); (case side2 => exact HC0_1.out); (case side3 => repeat (first | exact (Kd.C_below HR0_3.out HB.out) | (with_reducible refine Kd.C_alloc ?_ _) | (with_reducible refine Kd.C_drewN ?_ _) | (with_reducible refine Kd.C_drew ?_))); (case side4 => exact HC0_3.out); (case side5 => repeat (first | exact (Kd.C_below HR0_4.out HB.out) | (with_reducible refine Kd.C_alloc ?_ _) | (with_reducible refine Kd.C_drewN ?_ _) | (with_reducible refine Kd.C_drew ?_))); (case side6 => exact HC0_4.out); (case side7 => repeat (first | exact (Kd.C_below HR0_5.out HB.out) | (with_reducible refine Kd.C_alloc ?_ _) | (with_reducible refine Kd.C_drewN ?_ _) | (with_reducible refine Kd.C_drew ?_))); (case side8 => exact HC0_5.out); rintro e w17 ⟨rfl, hb⟩; have n0_ := Aside0.mk (blk_below (g := gb427) (o := .cells #[.string a0_0, .slice A0_1 l0_1.length c0_1, .string a0_2, .slice A0_3 l0_3.length c0_3, .slice A0_4 l0_4.length c0_4, .slice A0_5 l0_5.length c0_5] 26 (0, 0)) (by (with_reducible repeat (first | refine blk_drewN ?_ _ | refine blk_drew ?_ | refine blk_alloc ?_ _)); exact BK427.out) hb); have n1_ := Aside0.mk (below_step (by repeat (first | (with_reducible first | exact HB.out | apply below_alloc | apply pw_below_drewN | apply below_drew1 | refine below_set ?_ GE427.out) | exact HB.out)) hb); clear BK427; clear HB; have BK427 := n0_; have HB := n1_; clear n0_ n1_; (try clear hb); (try clear hb2); (try clear hk); (try clear hi); have hcz18_0 : w17.cell? ⟨gb427, 0, none⟩ = some (.string a0_0) := (blk_cell BK427.out 0).trans rfl; have hcz18_1 : w17.cell? ⟨gb427, 1, none⟩ = some (.slice A0_1 l0_1.length c0_1) := (blk_cell BK427.out 1).trans rfl; have hcz18_2 : w17.cell? ⟨gb427, 2, none⟩ = some (.string a0_2) := (blk_cell BK427.out 2).trans rfl; have hcz18_3 : w17.cell? ⟨gb427, 3, none⟩ = some (.slice A0_3 l0_3.length c0_3) := (blk_cell BK427.out 3).trans rfl; have hcz18_4 : w17.cell? ⟨gb427, 4, none⟩ = some (.slice A0_4 l0_4.length c0_4) := (blk_cell BK427.out 4).trans rfl; have hcz18_5 : w17.cell? ⟨gb427, 5, none⟩ = some (.slice A0_5 l0_5.length c0_5) := (blk_cell BK427.out 5).trans rfl; have hfz18_0 := blk_frozen BK427.out 0; have hfz18_1 := blk_frozen BK427.out 1; have hfz18_2 := blk_frozen BK427.out 2; have hfz18_3 := blk_frozen BK427.out 3; have hfz18_4 := blk_frozen BK427.out 4; have hfz18_5 := blk_frozen BK427.out 5) | (go_at_call 25; (with_reducible refine (flow_Where.calls k a0_0 _ _ l0_1 a0_2 _ _ l0_3 _ _ l0_4 _ _ l0_5 t430 _ ?side1 ?side2 ?side3 ?side4 ?side5 ?side6 ?side7 ?side8 A10.out).mono ?_); (case side1 => repeat (first | exact (Kd.C_below HR0_1.out HB.out) | (with_reducible refine Kd.C_alloc ?_ _) | (with_reducible refine Kd.C_drewN ?_ _) | (with_reducible refine Kd.C_drew ?_))); (case side2 => exact HC0_1.out); (case side3 => repeat (first | exact (Kd.C_below HR0_3.out HB.out) | (with_reducible refine Kd.C_alloc ?_ _) | (with_reducible refine Kd.C_drewN ?_ _) | (with_reducible refine Kd.C_drew ?_))); (case side4 => exact HC0_3.out); (case side5 => repeat (first | exact (Kd.C_below HR0_4.out HB.out) | (with_reducible refine Kd.C_alloc ?_ _) | (with_reducible refine Kd.C_drewN ?_ _) | (with_reducible refine Kd.C_drew ?_))); (case side6 => exact HC0_4.out); (case side7 => repeat (first | exact (Kd.C_below HR0_5.out HB.out) | (with_reducible refine Kd.C_alloc ?_ _) | (with_reducible refine Kd.C_drewN ?_ _) | (with_reducible refine Kd.C_drew ?_))); (case side8 => exact HC0_5.out); rintro e w19 ⟨v431, rfl, ho0, hb⟩; have n0_ := Aside0.mk (Kd.R_lower ho0 (below_size (by repeat (first | (with_reducible first | exact HB.out | apply below_alloc | apply pw_below_drewN | apply below_drew1 | refine below_set ?_ GE427.out) | exact HB.out)))); have n1_ := Aside0.mk (blk_below (g := gb427) (o := .cells #[.string a0_0, .slice A0_1 l0_1.length c0_1, .string a0_2, .slice A0_3 l0_3.length c0_3, .slice A0_4 l0_4.length c0_4, .slice A0_5 l0_5.length c0_5] 26 (0, 0)) (by (with_reducible repeat (first | refine blk_drewN ?_ _ | refine blk_drew ?_ | refine blk_alloc ?_ _)); exact BK427.out) hb); have n2_ := Aside0.mk (below_step (by repeat (first | (with_reducible first | exact HB.out | apply below_alloc | apply pw_below_drewN | apply below_drew1 | refine below_set ?_ GE427.out) | exact HB.out)) hb); clear BK427; clear HB; have HO432 := n0_; have BK427 := n1_; have HB := n2_; clear n0_ n1_ n2_; (try clear hb); (try clear hb2); (try clear hk); (try clear hi); (try clear ho0); obtain ⟨Ao20, co20, eo20⟩ := Kd.R_slice HO432.out; subst eo20; have hcz21_0 : w19.cell? ⟨gb427, 0, none⟩ = some (.string a0_0) := (blk_cell BK427.out 0).trans rfl; have hcz21_1 : w19.cell? ⟨gb427, 1, none⟩ = some (.slice A0_1 l0_1.length c0_1) := (blk_cell BK427.out 1).trans rfl; have hcz21_2 : w19.cell? ⟨gb427, 2, none⟩ = some (.string a0_2) := (blk_cell BK427.out 2).trans rfl; have hcz21_3 : w19.cell? ⟨gb427, 3, none⟩ = some (.slice A0_3 l0_3.length c0_3) := (blk_cell BK427.out 3).trans rfl; have hcz21_4 : w19.cell? ⟨gb427, 4, none⟩ = some (.slice A0_4 l0_4.length c0_4) := (blk_cell BK427.out 4).trans rfl; have hcz21_5 : w19.cell? ⟨gb427, 5, none⟩ = some (.slice A0_5 l0_5.length c0_5) := (blk_cell BK427.out 5).trans rfl; have hfz21_0 := blk_frozen BK427.out 0; have hfz21_1 := blk_frozen BK427.out 1; have hfz21_2 := blk_frozen BK427.out 2; have hfz21_3 := blk_frozen BK427.out 3; have hfz21_4 := blk_frozen BK427.out 4; have hfz21_5 := blk_frozen BK427.out 5) | ((with_reducible refine gate_dst (N := 35) rfl ?_); (try (refine gate_guard (by rfl) ?_; dsimp only)); refine Kd.R_make (Kd.int .i64) _ 3 rfl (N := 35) rfl 34 _ _ rfl (l0_4.length : Int) rfl rfl Try.underlying34 (.int .i64 0) 8 info3 rfl (by decide) (by omega) 0 (ok := fun _ => True) (okp := fun _ => True) rfl (fun _ hk => hk) trivial (of_decide_eq_true (by first | (with_reducible assumption) | assumption)) (Nat.le_trans (Nat.mul_le_mul_right _ (of_decide_eq_true (by first | (with_reducible assumption) | assumption) : (l0_4.length : Int).toNat ≤ 35184372088832)) (by omega)) (Below.refl _ _) (Nat.le_refl _) ?_; intro v434 w22 ho23 hb hg_ hnew_; clear hg_ hnew_; (first | rw [← Ny433.out] at ho23 | (simp only [Int.reduceToNat] at ho23; rw [← Ny433.out] at ho23)); have n0_ := Aside0.mk (Kd.R_elder' (by (with_reducible repeat (first | apply Kd.R_alloc | apply Kd.R_drewN | apply Kd.R_drew)); exact HO432.out) (Kd.R_base ho23) hb); have n1_ := Aside0.mk (Kd.R_lower (Kd.R_new' ho23 (Kd.R_lt (by (with_reducible repeat (first | apply Kd.R_alloc | apply Kd.R_drewN | apply Kd.R_drew)); exact HO432.out))) (below_size (by repeat (first | (with_reducible first | exact HB.out | apply below_alloc | apply pw_below_drewN | apply below_drew1 | refine below_set ?_ GE427.out) | exact HB.out)))); have n2_ := Aside0.mk (blk_below (g := gb427) (o := .cells #[.string a0_0, .slice A0_1 l0_1.length c0_1, .string a0_2, .slice A0_3 l0_3.length c0_3, .slice A0_4 l0_4.length c0_4, .slice A0_5 l0_5.length c0_5] 26 (0, 0)) (by (with_reducible repeat (first | refine blk_drewN ?_ _ | refine blk_drew ?_ | refine blk_alloc ?_ _)); exact BK427.out) hb); have n3_ := Aside0.mk (below_step (by repeat (first | (with_reducible first | exact HB.out | apply below_alloc | apply pw_below_drewN | apply below_drew1 | refine below_set ?_ GE427.out) | exact HB.out)) hb); clear HO432; clear BK427; clear HB; have HO432 := n0_; have HO435 := n1_; have BK427 := n2_; have HB := n3_; clear n0_ n1_ n2_ n3_; clear hb ho23)); try go_wp2_with (first | ((with_reducible refine gate_dst (N := 1) rfl ?_); (try (refine gate_guard (by rfl) ?_; dsimp only)); refine box_event ?hg (N := 1) ?hd (cs := #[.string a0_0, .slice A0_1 l0_1.length c0_1, .string a0_2, .slice A0_3 l0_3.length c0_3, .slice A0_4 l0_4.length c0_4, .slice A0_5 l0_5.length c0_5]) (t := 26) ?hr ?_; (case hd => rfl); (case hg => rfl); (case hr => first | (go_simp; done) | (go_simp; rfl)); intro gb427 hg w14 hbox hb; have n0_ := Aside0.mk (below_step (by repeat (first | (with_reducible first | exact HB.out | apply below_alloc | apply pw_below_drewN | apply below_drew1) | exact HB.out)) hb); have n1_ := Aside0.mk (hbox); have n2_ := Aside0.mk ((by rw [hg]; exact (below_size (by repeat (first | (with_reducible first | exact HB.out | apply below_alloc | apply pw_below_drewN | apply below_drew1) | exact HB.out))) : w.heap.size ≤ gb427)); have n3_ := Aside0.mk ((by rw [hg]; exact (below_size (by repeat (first | (with_reducible first | exact HB.out | apply below_alloc | apply pw_below_drewN | apply below_drew1) | exact HB.out))) : w.heap.size ≤ gb427)); clear HB; have HB := n0_; have BK427 := n1_; have GW427 := n2_; have GE427 := n3_; clear n0_ n1_ n2_ n3_; clear hb hbox hg) | (go_at_call 14; (with_reducible refine (truantlaw09_awake.calls k  true _ A2.out).mono ?_); rintro e w15 ⟨rfl, hb⟩; have n0_ := Aside0.mk (blk_below (g := gb427) (o := .cells #[.string a0_0, .slice A0_1 l0_1.length c0_1, .string a0_2, .slice A0_3 l0_3.length c0_3, .slice A0_4 l0_4.length c0_4, .slice A0_5 l0_5.length c0_5] 26 (0, 0)) (by (with_reducible repeat (first | refine blk_drewN ?_ _ | refine blk_drew ?_ | refine blk_alloc ?_ _)); exact BK427.out) hb); have n1_ := Aside0.mk (below_step (by repeat (first | (with_reducible first | exact HB.out | apply below_alloc | apply pw_below_drewN | apply below_drew1 | refine below_set ?_ GE427.out) | exact HB.out)) hb); clear BK427; clear HB; have BK427 := n0_; have HB := n1_; clear n0_ n1_; (try clear hb); (try clear hb2); (try clear hk); (try clear hi); have hcz16_0 : w15.cell? ⟨gb427, 0, none⟩ = some (.string a0_0) := (blk_cell BK427.out 0).trans rfl; have hcz16_1 : w15.cell? ⟨gb427, 1, none⟩ = some (.slice A0_1 l0_1.length c0_1) := (blk_cell BK427.out 1).trans rfl; have hcz16_2 : w15.cell? ⟨gb427, 2, none⟩ = some (.string a0_2) := (blk_cell BK427.out 2).trans rfl; have hcz16_3 : w15.cell? ⟨gb427, 3, none⟩ = some (.slice A0_3 l0_3.length c0_3) := (blk_cell BK427.out 3).trans rfl; have hcz16_4 : w15.cell? ⟨gb427, 4, none⟩ = some (.slice A0_4 l0_4.length c0_4) := (blk_cell BK427.out 4).trans rfl; have hcz16_5 : w15.cell? ⟨gb427, 5, none⟩ = some (.slice A0_5 l0_5.length c0_5) := (blk_cell BK427.out 5).trans rfl; have hfz16_0 := blk_frozen BK427.out 0; have hfz16_1 := blk_frozen BK427.out 1; have hfz16_2 := blk_frozen BK427.out 2; have hfz16_3 := blk_frozen BK427.out 3; have hfz16_4 := blk_frozen BK427.out 4; have hfz16_5 := blk_frozen BK427.out 5) | (go_at_call 15; (with_reducible refine (truantlaw09_wide.calls k a0_0 _ _ l0_1 a0_2 _ _ l0_3 _ _ l0_4 _ _ l0_5 false _ ?side1 ?side2 ?side3 ?side4 ?side5 ?side6 ?side7 ?side8 A4.out).mono ?_); (case side1 => repeat (first | exact (Kd.C_below HR0_1.out HB.out) | (with_reducible refine Kd.C_alloc ?_ _) | (with_reducible refine Kd.C_drewN ?_ _) | (with_reducible refine Kd.C_drew ?_))); (case side2 => exact HC0_1.out); (case side3 => repeat (first | exact (Kd.C_below HR0_3.out HB.out) | (with_reducible refine Kd.C_alloc ?_ _) | (with_reducible refine Kd.C_drewN ?_ _) | (with_reducible refine Kd.C_drew ?_))); (case side4 => exact HC0_3.out); (case side5 => repeat (first | exact (Kd.C_below HR0_4.out HB.out) | (with_reducible refine Kd.C_alloc ?_ _) | (with_reducible refine Kd.C_drewN ?_ _) | (with_reducible refine Kd.C_drew ?_))); (case side6 => exact HC0_4.out); (case side7 => repeat (first | exact (Kd.C_below HR0_5.out HB.out) | (with_reducible refine Kd.C_alloc ?_ _) | (with_reducible refine Kd.C_drewN ?_ _) | (with_reducible refine Kd.C_drew ?_))); (case side8 => exact HC0_5.out); rintro e w17 ⟨rfl, hb⟩; have n0_ := Aside0.mk (blk_below (g := gb427) (o := .cells #[.string a0_0, .slice A0_1 l0_1.length c0_1, .string a0_2, .slice A0_3 l0_3.length c0_3, .slice A0_4 l0_4.length c0_4, .slice A0_5 l0_5.length c0_5] 26 (0, 0)) (by (with_reducible repeat (first | refine blk_drewN ?_ _ | refine blk_drew ?_ | refine blk_alloc ?_ _)); exact BK427.out) hb); have n1_ := Aside0.mk (below_step (by repeat (first | (with_reducible first | exact HB.out | apply below_alloc | apply pw_below_drewN | apply below_drew1 | refine below_set ?_ GE427.out) | exact HB.out)) hb); clear BK427; clear HB; have BK427 := n0_; have HB := n1_; clear n0_ n1_; (try clear hb); (try clear hb2); (try clear hk); (try clear hi); have hcz18_0 : w17.cell? ⟨gb427, 0, none⟩ = some (.string a0_0) := (blk_cell BK427.out 0).trans rfl; have hcz18_1 : w17.cell? ⟨gb427, 1, none⟩ = some (.slice A0_1 l0_1.length c0_1) := (blk_cell BK427.out 1).trans rfl; have hcz18_2 : w17.cell? ⟨gb427, 2, none⟩ = some (.string a0_2) := (blk_cell BK427.out 2).trans rfl; have hcz18_3 : w17.cell? ⟨gb427, 3, none⟩ = some (.slice A0_3 l0_3.length c0_3) := (blk_cell BK427.out 3).trans rfl; have hcz18_4 : w17.cell? ⟨gb427, 4, none⟩ = some (.slice A0_4 l0_4.length c0_4) := (blk_cell BK427.out 4).trans rfl; have hcz18_5 : w17.cell? ⟨gb427, 5, none⟩ = some (.slice A0_5 l0_5.length c0_5) := (blk_cell BK427.out 5).trans rfl; have hfz18_0 := blk_frozen BK427.out 0; have hfz18_1 := blk_frozen BK427.out 1; have hfz18_2 := blk_frozen BK427.out 2; have hfz18_3 := blk_frozen BK427.out 3; have hfz18_4 := blk_frozen BK427.out 4; have hfz18_5 := blk_frozen BK427.out 5) | (go_at_call 25; (with_reducible refine (flow_Where.calls k a0_0 _ _ l0_1 a0_2 _ _ l0_3 _ _ l0_4 _ _ l0_5 t430 _ ?side1 ?side2 ?side3 ?side4 ?side5 ?side6 ?side7 ?side8 A10.out).mono ?_); (case side1 => repeat (first | exact (Kd.C_below HR0_1.out HB.out) | (with_reducible refine Kd.C_alloc ?_ _) | (with_reducible refine Kd.C_drewN ?_ _) | (with_reducible refine Kd.C_drew ?_))); (case side2 => exact HC0_1.out); (case side3 => repeat (first | exact (Kd.C_below HR0_3.out HB.out) | (with_reducible refine Kd.C_alloc ?_ _) | (with_reducible refine Kd.C_drewN ?_ _) | (with_reducible refine Kd.C_drew ?_))); (case side4 => exact HC0_3.out); (case side5 => repeat (first | exact (Kd.C_below HR0_4.out HB.out) | (with_reducible refine Kd.C_alloc ?_ _) | (with_reducible refine Kd.C_drewN ?_ _) | (with_reducible refine Kd.C_drew ?_))); (case side6 => exact HC0_4.out); (case side7 => repeat (first | exact (Kd.C_below HR0_5.out HB.out) | (with_reducible refine Kd.C_alloc ?_ _) | (with_reducible refine Kd.C_drewN ?_ _) | (with_reducible refine Kd.C_drew ?_))); (case side8 => exact HC0_5.out); rintro e w19 ⟨v431, rfl, ho0, hb⟩; have n0_ := Aside0.mk (Kd.R_lower ho0 (below_size (by repeat (first | (with_reducible first | exact HB.out | apply below_alloc | apply pw_below_drewN | apply below_drew1 | refine below_set ?_ GE427.out) | exact HB.out)))); have n1_ := Aside0.mk (blk_below (g := gb427) (o := .cells #[.string a0_0, .slice A0_1 l0_1.length c0_1, .string a0_2, .slice A0_3 l0_3.length c0_3, .slice A0_4 l0_4.length c0_4, .slice A0_5 l0_5.length c0_5] 26 (0, 0)) (by (with_reducible repeat (first | refine blk_drewN ?_ _ | refine blk_drew ?_ | refine blk_alloc ?_ _)); exact BK427.out) hb); have n2_ := Aside0.mk (below_step (by repeat (first | (with_reducible first | exact HB.out | apply below_alloc | apply pw_below_drewN | apply below_drew1 | refine below_set ?_ GE427.out) | exact HB.out)) hb); clear BK427; clear HB; have HO432 := n0_; have BK427 := n1_; have HB := n2_; clear n0_ n1_ n2_; (try clear hb); (try clear hb2); (try clear hk); (try clear hi); (try clear ho0); obtain ⟨Ao20, co20, eo20⟩ := Kd.R_slice HO432.out; subst eo20; have hcz21_0 : w19.cell? ⟨gb427, 0, none⟩ = some (.string a0_0) := (blk_cell BK427.out 0).trans rfl; have hcz21_1 : w19.cell? ⟨gb427, 1, none⟩ = some (.slice A0_1 l0_1.length c0_1) := (blk_cell BK427.out 1).trans rfl; have hcz21_2 : w19.cell? ⟨gb427, 2, none⟩ = some (.string a0_2) := (blk_cell BK427.out 2).trans rfl; have hcz21_3 : w19.cell? ⟨gb427, 3, none⟩ = some (.slice A0_3 l0_3.length c0_3) := (blk_cell BK427.out 3).trans rfl; have hcz21_4 : w19.cell? ⟨gb427, 4, none⟩ = some (.slice A0_4 l0_4.length c0_4) := (blk_cell BK427.out 4).trans rfl; have hcz21_5 : w19.cell? ⟨gb427, 5, none⟩ = some (.slice A0_5 l0_5.length c0_5) := (blk_cell BK427.out 5).trans rfl; have hfz21_0 := blk_frozen BK427.out 0; have hfz21_1 := blk_frozen BK427.out 1; have hfz21_2 := blk_frozen BK427.out 2; have hfz21_3 := blk_frozen BK427.out 3; have hfz21_4 := blk_frozen BK427.out 4; have hfz21_5 := blk_frozen BK427.out 5) | ((with_reducible refine gate_dst (N := 35) rfl ?_); (try (refine gate_guard (by rfl) ?_; dsimp only)); refine Kd.R_make (Kd.int .i64) _ 3 rfl (N := 35) rfl 34 _ _ rfl (l0_4.length : Int) rfl rfl Try.underlying34 (.int .i64 0) 8 info3 rfl (by decide) (by omega) 0 (ok := fun _ => True) (okp := fun _ => True) rfl (fun _ hk => hk) trivial (of_decide_eq_true (by first | (with_reducible assumption) | assumption)) (Nat.le_trans (Nat.mul_le_mul_right _ (of_decide_eq_true (by first | (with_reducible assumption) | assumption) : (l0_4.length : Int).toNat ≤ 35184372088832)) (by omega)) (Below.refl _ _) (Nat.le_refl _) ?_; intro v434 w22 ho23 hb hg_ hnew_; clear hg_ hnew_; (first | rw [← Ny433.out] at ho23 | (simp only [Int.reduceToNat] at ho23; rw [← Ny433.out] at ho23)); have n0_ := Aside0.mk (Kd.R_elder' (by (with_reducible repeat (first | apply Kd.R_alloc | apply Kd.R_drewN | apply Kd.R_drew)); exact HO432.out) (Kd.R_base ho23) hb); have n1_ := Aside0.mk (Kd.R_lower (Kd.R_new' ho23 (Kd.R_lt (by (with_reducible repeat (first | apply Kd.R_alloc | apply Kd.R_drewN | apply Kd.R_drew)); exact HO432.out))) (below_size (by repeat (first | (with_reducible first | exact HB.out | apply below_alloc | apply pw_below_drewN | apply below_drew1 | refine below_set ?_ GE427.out) | exact HB.out)))); have n2_ := Aside0.mk (blk_below (g := gb427) (o := .cells #[.string a0_0, .slice A0_1 l0_1.length c0_1, .string a0_2, .slice A0_3 l0_3.length c0_3, .slice A0_4 l0_4.length c0_4, .slice A0_5 l0_5.length c0_5] 26 (0, 0)) (by (with_reducible repeat (first | refine blk_drewN ?_ _ | refine blk_drew ?_ | refine blk_alloc ?_ _)); exact BK427.out) hb); have n3_ := Aside0.mk (below_step (by repeat (first | (with_reducible first | exact HB.out | apply below_alloc | apply pw_below_drewN | apply below_drew1 | refine below_set ?_ GE427.out) | exact HB.out)) hb); clear HO432; clear BK427; clear HB; have HO432 := n0_; have HO435 := n1_; have BK427 := n2_; have HB := n3_; clear n0_ n1_ n2_ n3_; clear hb ho23)))
      go_loopg [5] k (fun kq v5 w' => ∃ (x4_1 : List Int) (x5_1 : Int), v5 = .int .i64 x5_1 ∧ Aside0 (truantlaw09_FlowWhere.l0 kq t430 x4_1 x5_1 a0_0 l0_1 a0_2 l0_3 l0_4 l0_5 = some r) ∧ Aside0 (kq ≤ k) ∧ Aside0 (Kd.R (Kd.int .i64) 3 w' w.heap.size (fun k_ => some k_ ≠ (v434 : Value).ownBlock) (.slice Ao20 t430.length co20) t430) ∧ Aside0 (Kd.R (Kd.int .i64) 3 w' w.heap.size (fun k_ => some k_ ≠ ((.slice Ao20 t430.length co20) : Value).ownBlock) v434 x4_1) ∧ Aside0 (w'.heap[gb427]? = some (.cells #[.string a0_0, (.slice A0_1 l0_1.length c0_1), .string a0_2, (.slice A0_3 l0_3.length c0_3), (.slice A0_4 l0_4.length c0_4), (.slice A0_5 l0_5.length c0_5)] 26 (0, 0))) ∧ Aside0 (Below w.heap.size w w'))
      case atStart => exact ⟨(y433), (0), (by first | rfl | (simp; done) | (simp [*]; done)), H', ⟨Nat.le_refl _⟩, ⟨by (with_reducible repeat (first | apply Kd.R_alloc | apply Kd.R_drewN | apply Kd.R_drew)); exact Kd.R_mono HO432.out (fun _ hk => hk.2)⟩, ⟨by (with_reducible repeat (first | apply Kd.R_alloc | apply Kd.R_drewN | apply Kd.R_drew)); exact Kd.R_mono HO435.out (fun _ hk => hk.2)⟩, ⟨by (with_reducible repeat (first | refine blk_drewN ?_ _ | refine blk_drew ?_ | refine blk_alloc ?_ _)); exact BK427.out⟩, ⟨by repeat (first | (with_reducible first | exact HB.out | apply below_alloc | apply pw_below_drewN | apply below_drew1 | refine below_set ?_ GE427.out) | exact HB.out)⟩⟩
      case round =>
       clear H'
       try clear c1
       try clear p2
       try clear c3
       try clear c4
       try clear c5
       try clear c11
       try clear c11b0
       try clear c11b1
       try clear c11b2
       try clear c12
       try clear c12b0
       try clear c12b1
       try clear c13
       try clear c13b0
       try clear c13b1
       try clear hcz16_0
       try clear hcz16_1
       try clear hcz16_2
       try clear hcz16_3
       try clear hcz16_4
       try clear hcz16_5
       try clear hcz18_0
       try clear hcz18_1
       try clear hcz18_2
       try clear hcz18_3
       try clear hcz18_4
       try clear hcz18_5
       try clear hcz21_0
       try clear hcz21_1
       try clear hcz21_2
       try clear hcz21_3
       try clear hcz21_4
       try clear hcz21_5
       try clear hcz8_0
       try clear hcz8_1
       try clear hcz8_2
       try clear hcz8_3
       try clear hcz8_4
       try clear hcz8_5
       try clear hfz16_0
       try clear hfz16_1
       try clear hfz16_2
       try clear hfz16_3
       try clear hfz16_4
       try clear hfz16_5
       try clear hfz18_0
       try clear hfz18_1
       try clear hfz18_2
       try clear hfz18_3
       try clear hfz18_4
       try clear hfz18_5
       try clear hfz21_0
       try clear hfz21_1
       try clear hfz21_2
       try clear hfz21_3
       try clear hfz21_4
       try clear hfz21_5
       try clear hfz8_0
       try clear hfz8_1
       try clear hfz8_2
       try clear hfz8_3
       try clear hfz8_4
       try clear hfz8_5
       obtain ⟨x4_1, x5_1, rfl, HA, HK1, HO_3, HO_4, BK427, HB⟩ := hrel
       cases gk with
       | zero => exact absurd HA.out (by simp [truantlaw09_FlowWhere.l0])
       | succ k1 =>
        have H := HA.out
        clear HA
        simp only [truantlaw09_FlowWhere.l0] at H
        by_cases c24 : x5_1 < (x4_1.length : Int)
        ·rw [if_pos c24] at H
         have c24b0 : decide (x5_1 < (x4_1.length : Int)) = true := decide_eq_true c24
         clear c24
         by_cases c25 : 0 ≤ x5_1
         ·rw [if_pos c25] at H
          have c25b0 : decide (0 ≤ x5_1) = true := decide_eq_true c25
          clear c25
          obtain ⟨y436, hy436⟩ : ∃ y_ : List Int, y_ = (x4_1.set (x5_1 : Int).toNat (-1)) := ⟨_, rfl⟩
          replace H : (truantlaw09_FlowWhere.l0 k1 t430 y436 (wrap64 (x5_1 + 1)) a0_0 l0_1 a0_2 l0_3 l0_4 l0_5) = some r := by first | (rw [hy436]; with_reducible exact H) | (have H2_ := (Option.bind_some _ _).symm.trans H; rw [hy436]; with_reducible exact H2_) | (have H2_ := (Option.bind_some _ _).symm.trans H; with_reducible exact H2_) | with_reducible exact H | (rw [hy436]; exact H) | exact H
          have Ny436 := Aside0.mk hy436
          clear hy436
          have H' := Aside0.mk H
          clear H
          obtain ⟨Ao27, co27, eo27⟩ := Kd.R_slice HO_4.out
          subst eo27
          have p26 : 0 ≤ (x5_1 : Int) := of_decide_eq_true (by first | (with_reducible assumption) | assumption)
          have q26 : (x5_1 : Int) < ((x4_1.length : Int) : Int) := of_decide_eq_true (by first | (with_reducible assumption) | assumption)
          obtain ⟨go26, co26, eo26, gb26, gl26, cl26, HG26⟩ := Kd.R_form HO_4.out (by omega)
          (first | cases eo26 | (injection eo26 with ea_ en_ ec_; (first | subst ea_ | (injection ea_ with ea_; subst ea_)); subst ec_; clear en_))
          have GB26 := Aside0.mk gb26
          have GG26 := Aside0.mk HG26
          clear gb26 gl26 HG26
          obtain ⟨hx26_0, hf26_0⟩ := Kd.R_celln 0 HO_4.out (x5_1 : Int) p26 q26
          replace p26 := eq_true p26
          replace q26 := eq_true q26
          have HP28 := Kd.R_putg HO_4.out (x5_1 : Int) (-1)
          go_wp2_with (first | ((with_reducible refine gate_store (t := 3) (p := 44) rfl ?_); (try (rw [drewN_self wr]; generalize hq_ : World.drewN wr _ = wr; have n0_ := Aside0.mk (Kd.R_at hq_ HO_3.out); have n1_ := Aside0.mk (Kd.R_at hq_ HO_4.out); have n2_ := Aside0.mk (blk_at hq_ BK427.out); have n3_ := Aside0.mk (below_at hq_ HB.out); clear hq_ HO_3 HO_4 BK427 HB; have HO_3 := n0_; have HO_4 := n1_; have BK427 := n2_; have HB := n3_; clear n0_ n1_ n2_ n3_; (try (have HP28 := Kd.R_putg HO_4.out (x5_1 : Int) (-1))))); refine store_event (t := 3) (p := 44) (v := ?vo_w29) (w1 := (wr.setCell ⟨go26, (x5_1 : Int).toNat, none⟩ (.int .i64 (-1)))) ?hg ?ho ?hn ?hr ?_; (case ho => rfl); (case hg => rfl); (case hn => rfl); (case hr => first | (go_simp; done) | (go_simp; rfl)); intro w29 hw; have hg : wr.grownBy w29 (some go26) := (by rw [hw]; exact HP28.2); have hp_ : Kd.R (Kd.int .i64) 3 w29 w.heap.size (fun k_ => some k_ ≠ (.slice Ao20 t430.length co20 : Value).ownBlock) (.slice (some ⟨go26, 0, none⟩) x4_1.length co27) y436 := (by rw [hw, Ny436.out]; exact HP28.1); clear HP28; have n0_ := Aside0.mk (Kd.R_after (v := (.slice (some ⟨go26, 0, none⟩) x4_1.length co27)) (v1 := (.slice (some ⟨go26, 0, none⟩) x4_1.length co27)) (ok := (fun _ => True)) (by (with_reducible repeat (first | apply Kd.R_alloc | apply Kd.R_drewN | apply Kd.R_drew)); exact Kd.R_mono HO_3.out (fun _ hk => ⟨trivial, hk⟩)) hg (.inl rfl)); have n1_ := Aside0.mk (hp_); have n2_ := Aside0.mk (blk_grown (g := gb427) (o := .cells #[.string a0_0, .slice A0_1 l0_1.length c0_1, .string a0_2, .slice A0_3 l0_3.length c0_3, .slice A0_4 l0_4.length c0_4, .slice A0_5 l0_5.length c0_5] 26 (0, 0)) (by (with_reducible repeat (first | refine blk_drewN ?_ _ | refine blk_drew ?_ | refine blk_alloc ?_ _)); exact BK427.out) hg (Kd.R_ne HO_4.out BK427.out (by decide))); have n3_ := Aside0.mk ((by rw [hw]; exact below_set (HB.out) GB26.out : Below w.heap.size w w29)); clear HO_3; clear HO_4; clear BK427; clear HB; have HO_3 := n0_; have HO_4 := n1_; have BK427 := n2_; have HB := n3_; clear n0_ n1_ n2_ n3_; clear hg hw hp_))
          repeat (go_quiet (first | ((with_reducible refine gate_store (t := 3) (p := 44) rfl ?_); (try (rw [drewN_self wr]; generalize hq_ : World.drewN wr _ = wr; have n0_ := Aside0.mk (Kd.R_at hq_ HO_3.out); have n1_ := Aside0.mk (Kd.R_at hq_ HO_4.out); have n2_ := Aside0.mk (blk_at hq_ BK427.out); have n3_ := Aside0.mk (below_at hq_ HB.out); clear hq_ HO_3 HO_4 BK427 HB; have HO_3 := n0_; have HO_4 := n1_; have BK427 := n2_; have HB := n3_; clear n0_ n1_ n2_ n3_; (try (have HP28 := Kd.R_putg HO_4.out (x5_1 : Int) (-1))))); refine store_event (t := 3) (p := 44) (v := ?vo_w29) (w1 := (wr.setCell ⟨go26, (x5_1 : Int).toNat, none⟩ (.int .i64 (-1)))) ?hg ?ho ?hn ?hr ?_; (case ho => rfl); (case hg => rfl); (case hn => rfl); (case hr => first | (go_simp; done) | (go_simp; rfl)); intro w29 hw; have hg : wr.grownBy w29 (some go26) := (by rw [hw]; exact HP28.2); have hp_ : Kd.R (Kd.int .i64) 3 w29 w.heap.size (fun k_ => some k_ ≠ (.slice Ao20 t430.length co20 : Value).ownBlock) (.slice (some ⟨go26, 0, none⟩) x4_1.length co27) y436 := (by rw [hw, Ny436.out]; exact HP28.1); clear HP28; have n0_ := Aside0.mk (Kd.R_after (v := (.slice (some ⟨go26, 0, none⟩) x4_1.length co27)) (v1 := (.slice (some ⟨go26, 0, none⟩) x4_1.length co27)) (ok := (fun _ => True)) (by (with_reducible repeat (first | apply Kd.R_alloc | apply Kd.R_drewN | apply Kd.R_drew)); exact Kd.R_mono HO_3.out (fun _ hk => ⟨trivial, hk⟩)) hg (.inl rfl)); have n1_ := Aside0.mk (hp_); have n2_ := Aside0.mk (blk_grown (g := gb427) (o := .cells #[.string a0_0, .slice A0_1 l0_1.length c0_1, .string a0_2, .slice A0_3 l0_3.length c0_3, .slice A0_4 l0_4.length c0_4, .slice A0_5 l0_5.length c0_5] 26 (0, 0)) (by (with_reducible repeat (first | refine blk_drewN ?_ _ | refine blk_drew ?_ | refine blk_alloc ?_ _)); exact BK427.out) hg (Kd.R_ne HO_4.out BK427.out (by decide))); have n3_ := Aside0.mk ((by rw [hw]; exact below_set (HB.out) GB26.out : Below w.heap.size w w29)); clear HO_3; clear HO_4; clear BK427; clear HB; have HO_3 := n0_; have HO_4 := n1_; have BK427 := n2_; have HB := n3_; clear n0_ n1_ n2_ n3_; clear hg hw hp_)); try go_wp2_with (first | ((with_reducible refine gate_store (t := 3) (p := 44) rfl ?_); (try (rw [drewN_self wr]; generalize hq_ : World.drewN wr _ = wr; have n0_ := Aside0.mk (Kd.R_at hq_ HO_3.out); have n1_ := Aside0.mk (Kd.R_at hq_ HO_4.out); have n2_ := Aside0.mk (blk_at hq_ BK427.out); have n3_ := Aside0.mk (below_at hq_ HB.out); clear hq_ HO_3 HO_4 BK427 HB; have HO_3 := n0_; have HO_4 := n1_; have BK427 := n2_; have HB := n3_; clear n0_ n1_ n2_ n3_; (try (have HP28 := Kd.R_putg HO_4.out (x5_1 : Int) (-1))))); refine store_event (t := 3) (p := 44) (v := ?vo_w29) (w1 := (wr.setCell ⟨go26, (x5_1 : Int).toNat, none⟩ (.int .i64 (-1)))) ?hg ?ho ?hn ?hr ?_; (case ho => rfl); (case hg => rfl); (case hn => rfl); (case hr => first | (go_simp; done) | (go_simp; rfl)); intro w29 hw; have hg : wr.grownBy w29 (some go26) := (by rw [hw]; exact HP28.2); have hp_ : Kd.R (Kd.int .i64) 3 w29 w.heap.size (fun k_ => some k_ ≠ (.slice Ao20 t430.length co20 : Value).ownBlock) (.slice (some ⟨go26, 0, none⟩) x4_1.length co27) y436 := (by rw [hw, Ny436.out]; exact HP28.1); clear HP28; have n0_ := Aside0.mk (Kd.R_after (v := (.slice (some ⟨go26, 0, none⟩) x4_1.length co27)) (v1 := (.slice (some ⟨go26, 0, none⟩) x4_1.length co27)) (ok := (fun _ => True)) (by (with_reducible repeat (first | apply Kd.R_alloc | apply Kd.R_drewN | apply Kd.R_drew)); exact Kd.R_mono HO_3.out (fun _ hk => ⟨trivial, hk⟩)) hg (.inl rfl)); have n1_ := Aside0.mk (hp_); have n2_ := Aside0.mk (blk_grown (g := gb427) (o := .cells #[.string a0_0, .slice A0_1 l0_1.length c0_1, .string a0_2, .slice A0_3 l0_3.length c0_3, .slice A0_4 l0_4.length c0_4, .slice A0_5 l0_5.length c0_5] 26 (0, 0)) (by (with_reducible repeat (first | refine blk_drewN ?_ _ | refine blk_drew ?_ | refine blk_alloc ?_ _)); exact BK427.out) hg (Kd.R_ne HO_4.out BK427.out (by decide))); have n3_ := Aside0.mk ((by rw [hw]; exact below_set (HB.out) GB26.out : Below w.heap.size w w29)); clear HO_3; clear HO_4; clear BK427; clear HB; have HO_3 := n0_; have HO_4 := n1_; have BK427 := n2_; have HB := n3_; clear n0_ n1_ n2_ n3_; clear hg hw hp_)))
          go_roundg k1
          case measure => have := HK1.out; omega
          case rel => exact ⟨(y436), (wrap64 (x5_1 + 1)), (by first | rfl | (simp; done) | (simp [*]; done)), H', ⟨by have := HK1.out; omega⟩, ⟨by (with_reducible repeat (first | apply Kd.R_alloc | apply Kd.R_drewN | apply Kd.R_drew)); exact Kd.R_mono HO_3.out (fun _ hk => hk.2)⟩, ⟨by (with_reducible repeat (first | apply Kd.R_alloc | apply Kd.R_drewN | apply Kd.R_drew)); exact HO_4.out⟩, ⟨by (with_reducible repeat (first | refine blk_drewN ?_ _ | refine blk_drew ?_ | refine blk_alloc ?_ _)); exact BK427.out⟩, ⟨by repeat (first | (with_reducible first | exact HB.out | apply below_alloc | apply pw_below_drewN | apply below_drew1 | refine below_set ?_ GE427.out) | exact HB.out)⟩⟩
         ·rw [if_neg c25] at H
          exact absurd H (by simp)
        ·rw [if_neg c24] at H
         have c24b0 : decide (x5_1 < (x4_1.length : Int)) = false := decide_eq_false c24
         clear c24
         have H' := Aside0.mk H
         clear H
         obtain ⟨Ao30, co30, eo30⟩ := Kd.R_slice HO_4.out
         subst eo30
         have hcz31_0 : wr.cell? ⟨gb427, 0, none⟩ = some (.string a0_0) := (blk_cell BK427.out 0).trans rfl
         have hcz31_1 : wr.cell? ⟨gb427, 1, none⟩ = some (.slice A0_1 l0_1.length c0_1) := (blk_cell BK427.out 1).trans rfl
         have hcz31_2 : wr.cell? ⟨gb427, 2, none⟩ = some (.string a0_2) := (blk_cell BK427.out 2).trans rfl
         have hcz31_3 : wr.cell? ⟨gb427, 3, none⟩ = some (.slice A0_3 l0_3.length c0_3) := (blk_cell BK427.out 3).trans rfl
         have hcz31_4 : wr.cell? ⟨gb427, 4, none⟩ = some (.slice A0_4 l0_4.length c0_4) := (blk_cell BK427.out 4).trans rfl
         have hcz31_5 : wr.cell? ⟨gb427, 5, none⟩ = some (.slice A0_5 l0_5.length c0_5) := (blk_cell BK427.out 5).trans rfl
         have hfz31_0 := blk_frozen BK427.out 0
         have hfz31_1 := blk_frozen BK427.out 1
         have hfz31_2 := blk_frozen BK427.out 2
         have hfz31_3 := blk_frozen BK427.out 3
         have hfz31_4 := blk_frozen BK427.out 4
         have hfz31_5 := blk_frozen BK427.out 5
         go_wp2
         repeat (go_quiet (fail); try go_wp2)
         go_loopg [6] k1 (fun kq v6 w' => ∃ (x4_2 : List Int) (x6_2 : Int), v6 = .int .i64 x6_2 ∧ Aside0 (truantlaw09_FlowWhere.l1 kq t430 x4_2 x6_2 a0_0 l0_1 a0_2 l0_3 l0_4 l0_5 = some r) ∧ Aside0 (kq ≤ k1) ∧ Aside0 (Kd.R (Kd.int .i64) 3 w' w.heap.size (fun k_ => some k_ ≠ ((.slice Ao30 x4_1.length co30) : Value).ownBlock) (.slice Ao20 t430.length co20) t430) ∧ Aside0 (Kd.R (Kd.int .i64) 3 w' w.heap.size (fun k_ => some k_ ≠ ((.slice Ao20 t430.length co20) : Value).ownBlock) (.slice Ao30 x4_1.length co30) x4_2) ∧ Aside0 (w'.heap[gb427]? = some (.cells #[.string a0_0, (.slice A0_1 l0_1.length c0_1), .string a0_2, (.slice A0_3 l0_3.length c0_3), (.slice A0_4 l0_4.length c0_4), (.slice A0_5 l0_5.length c0_5)] 26 (0, 0))) ∧ Aside0 (Below w.heap.size w w'))
         case atStart => exact ⟨(x4_1), (wrap64 ((l0_5.length : Int) - 1)), (by first | rfl | (simp; done) | (simp [*]; done)), H', ⟨Nat.le_refl _⟩, ⟨by (with_reducible repeat (first | apply Kd.R_alloc | apply Kd.R_drewN | apply Kd.R_drew)); exact HO_3.out⟩, ⟨by (with_reducible repeat (first | apply Kd.R_alloc | apply Kd.R_drewN | apply Kd.R_drew)); exact HO_4.out⟩, ⟨by (with_reducible repeat (first | refine blk_drewN ?_ _ | refine blk_drew ?_ | refine blk_alloc ?_ _)); exact BK427.out⟩, ⟨by repeat (first | (with_reducible first | exact HB.out | apply below_alloc | apply pw_below_drewN | apply below_drew1 | refine below_set ?_ GE427.out) | exact HB.out)⟩⟩
         case round =>
          clear H'
          try clear c1
          try clear c2
          try clear p2
          try clear q2
          try clear hx2
          try clear hf2
          try clear c3
          try clear c4
          try clear c5
          try clear p6
          try clear c11
          try clear c11b0
          try clear c11b1
          try clear c11b2
          try clear c12
          try clear c12b0
          try clear c12b1
          try clear c13
          try clear c13b0
          try clear c13b1
          try clear c24
          try clear c24b0
          try clear c25
          try clear c25b0
          try clear p26
          try clear q26
          try clear hx26
          try clear hf26
          try clear hcz16_0
          try clear hcz16_1
          try clear hcz16_2
          try clear hcz16_3
          try clear hcz16_4
          try clear hcz16_5
          try clear hcz18_0
          try clear hcz18_1
          try clear hcz18_2
          try clear hcz18_3
          try clear hcz18_4
          try clear hcz18_5
          try clear hcz21_0
          try clear hcz21_1
          try clear hcz21_2
          try clear hcz21_3
          try clear hcz21_4
          try clear hcz21_5
          try clear hcz31_0
          try clear hcz31_1
          try clear hcz31_2
          try clear hcz31_3
          try clear hcz31_4
          try clear hcz31_5
          try clear hcz8_0
          try clear hcz8_1
          try clear hcz8_2
          try clear hcz8_3
          try clear hcz8_4
          try clear hcz8_5
          try clear hfz16_0
          try clear hfz16_1
          try clear hfz16_2
          try clear hfz16_3
          try clear hfz16_4
          try clear hfz16_5
          try clear hfz18_0
          try clear hfz18_1
          try clear hfz18_2
          try clear hfz18_3
          try clear hfz18_4
          try clear hfz18_5
          try clear hfz21_0
          try clear hfz21_1
          try clear hfz21_2
          try clear hfz21_3
          try clear hfz21_4
          try clear hfz21_5
          try clear hfz31_0
          try clear hfz31_1
          try clear hfz31_2
          try clear hfz31_3
          try clear hfz31_4
          try clear hfz31_5
          try clear hfz8_0
          try clear hfz8_1
          try clear hfz8_2
          try clear hfz8_3
          try clear hfz8_4
          try clear hfz8_5
          try clear hx26_0
          try clear p2
          try clear p26
          try clear q26
          obtain ⟨x4_2, x6_2, rfl, HA, HK2, HO_3, HO_4, BK427, HB⟩ := hrel
          have hl4_2 := (Kd.R_reads' HO_4.out).1
          rw [hl4_2] at HO_4
          (try simp only [hl4_2])
          (try simp only [hl4_2] at BK427)
          (try simp only [hl4_2] at HO_3)
          cases gk with
          | zero => exact absurd HA.out (by simp [truantlaw09_FlowWhere.l1])
          | succ k2 =>
           have H := HA.out
           clear HA
           simp only [truantlaw09_FlowWhere.l1] at H
           by_cases c32 : x6_2 ≥ 0
           ·rw [if_pos c32] at H
            have c32b0 : decide (0 ≤ x6_2) = true := decide_eq_true c32
            clear c32
            have H' := Aside0.mk H
            clear H
            go_wp2
            repeat (go_quiet (fail); try go_wp2)
            go_loopg [7] k2 (fun kq v7 w' => ∃ (x4_3 : List Int) (x7_3 : Int), v7 = .int .i64 x7_3 ∧ Aside0 (truantlaw09_FlowWhere.l2 kq t430 x4_3 x6_2 x7_3 a0_0 l0_1 a0_2 l0_3 l0_4 l0_5 = some r) ∧ Aside0 (kq ≤ k2) ∧ Aside0 (Kd.R (Kd.int .i64) 3 w' w.heap.size (fun k_ => some k_ ≠ ((.slice Ao30 x4_2.length co30) : Value).ownBlock) (.slice Ao20 t430.length co20) t430) ∧ Aside0 (Kd.R (Kd.int .i64) 3 w' w.heap.size (fun k_ => some k_ ≠ ((.slice Ao20 t430.length co20) : Value).ownBlock) (.slice Ao30 x4_2.length co30) x4_3) ∧ Aside0 (w'.heap[gb427]? = some (.cells #[.string a0_0, (.slice A0_1 l0_1.length c0_1), .string a0_2, (.slice A0_3 l0_3.length c0_3), (.slice A0_4 l0_4.length c0_4), (.slice A0_5 l0_5.length c0_5)] 26 (0, 0))) ∧ Aside0 (Below w.heap.size w w'))
            case atStart => exact ⟨(x4_2), (0), (by first | rfl | (simp; done) | (simp [*]; done)), H', ⟨Nat.le_refl _⟩, ⟨by (try simp only [hl4_2]); (with_reducible repeat (first | apply Kd.R_alloc | apply Kd.R_drewN | apply Kd.R_drew)); exact HO_3.out⟩, ⟨by (try simp only [hl4_2]); (with_reducible repeat (first | apply Kd.R_alloc | apply Kd.R_drewN | apply Kd.R_drew)); exact HO_4.out⟩, ⟨by (try simp only [hl4_2]); (with_reducible repeat (first | refine blk_drewN ?_ _ | refine blk_drew ?_ | refine blk_alloc ?_ _)); exact BK427.out⟩, ⟨by repeat (first | (with_reducible first | exact HB.out | apply below_alloc | apply pw_below_drewN | apply below_drew1 | refine below_set ?_ GE427.out) | exact HB.out)⟩⟩
            case round =>
             clear H'
             try clear c1
             try clear c2
             try clear p2
             try clear q2
             try clear hx2
             try clear hf2
             try clear c3
             try clear c4
             try clear c5
             try clear p6
             try clear c11
             try clear c11b0
             try clear c11b1
             try clear c11b2
             try clear c12
             try clear c12b0
             try clear c12b1
             try clear c13
             try clear c13b0
             try clear c13b1
             try clear c24
             try clear c24b0
             try clear c25
             try clear c25b0
             try clear p26
             try clear q26
             try clear hx26
             try clear hf26
             try clear c32
             try clear c32b0
             try clear hcz16_0
             try clear hcz16_1
             try clear hcz16_2
             try clear hcz16_3
             try clear hcz16_4
             try clear hcz16_5
             try clear hcz18_0
             try clear hcz18_1
             try clear hcz18_2
             try clear hcz18_3
             try clear hcz18_4
             try clear hcz18_5
             try clear hcz21_0
             try clear hcz21_1
             try clear hcz21_2
             try clear hcz21_3
             try clear hcz21_4
             try clear hcz21_5
             try clear hcz31_0
             try clear hcz31_1
             try clear hcz31_2
             try clear hcz31_3
             try clear hcz31_4
             try clear hcz31_5
             try clear hcz8_0
             try clear hcz8_1
             try clear hcz8_2
             try clear hcz8_3
             try clear hcz8_4
             try clear hcz8_5
             try clear hfz16_0
             try clear hfz16_1
             try clear hfz16_2
             try clear hfz16_3
             try clear hfz16_4
             try clear hfz16_5
             try clear hfz18_0
             try clear hfz18_1
             try clear hfz18_2
             try clear hfz18_3
             try clear hfz18_4
             try clear hfz18_5
             try clear hfz21_0
             try clear hfz21_1
             try clear hfz21_2
             try clear hfz21_3
             try clear hfz21_4
             try clear hfz21_5
             try clear hfz31_0
             try clear hfz31_1
             try clear hfz31_2
             try clear hfz31_3
             try clear hfz31_4
             try clear hfz31_5
             try clear hfz8_0
             try clear hfz8_1
             try clear hfz8_2
             try clear hfz8_3
             try clear hfz8_4
             try clear hfz8_5
             try clear hx26_0
             try clear p2
             try clear p26
             try clear p6
             try clear q2
             try clear q26
             obtain ⟨x4_3, x7_3, rfl, HA, HK3, HO_3, HO_4, BK427, HB⟩ := hrel
             have hl4_3 := (Kd.R_reads' HO_4.out).1
             rw [hl4_3] at HO_4
             (try simp only [hl4_3])
             (try simp only [hl4_3] at BK427)
             (try simp only [hl4_3] at HO_3)
             cases gk with
             | zero => exact absurd HA.out (by simp [truantlaw09_FlowWhere.l2])
             | succ k3 =>
              have H := HA.out
              clear HA
              simp only [truantlaw09_FlowWhere.l2] at H
              by_cases c33 : 0 ≤ x6_2
              ·rw [if_pos c33] at H
               have c33b0 : decide (0 ≤ x6_2) = true := decide_eq_true c33
               clear c33
               by_cases c34 : x6_2 < (l0_5.length : Int)
               ·rw [if_pos c34] at H
                have c34b0 : decide (x6_2 < (l0_5.length : Int)) = true := decide_eq_true c34
                clear c34
                by_cases c35 : x7_3 < (((rd_T40 l0_5 x6_2).f0).length : Int)
                ·rw [if_pos c35] at H
                 have c35b0 : decide (x7_3 < (((rd_T40 l0_5 x6_2).f0).length : Int)) = true := decide_eq_true c35
                 clear c35
                 by_cases c36 : 0 ≤ x7_3
                 ·rw [if_pos c36] at H
                  have c36b0 : decide (0 ≤ x7_3) = true := decide_eq_true c36
                  clear c36
                  by_cases c37 : (rd ((rd_T40 l0_5 x6_2).f0) x7_3) ≥ 0
                  ·rw [if_pos c37] at H
                   have c37b0 : decide (0 ≤ (rd ((rd_T40 l0_5 x6_2).f0) x7_3)) = true := decide_eq_true c37
                   clear c37
                   by_cases c38 : (rd ((rd_T40 l0_5 x6_2).f0) x7_3) < (x4_3.length : Int)
                   ·rw [if_pos c38] at H
                    have c38b0 : decide ((rd ((rd_T40 l0_5 x6_2).f0) x7_3) < (x4_3.length : Int)) = true := decide_eq_true c38
                    clear c38
                    by_cases c39 : 0 ≤ (rd ((rd_T40 l0_5 x6_2).f0) x7_3)
                    ·rw [if_pos c39] at H
                     have c39b0 : decide (0 ≤ (rd ((rd_T40 l0_5 x6_2).f0) x7_3)) = true := decide_eq_true c39
                     clear c39
                     obtain ⟨y440, hy440⟩ : ∃ y_ : List Int, y_ = (x4_3.set ((rd ((rd_T40 l0_5 x6_2).f0) x7_3) : Int).toNat x6_2) := ⟨_, rfl⟩
                     replace H : (truantlaw09_FlowWhere.l2 k3 t430 y440 x6_2 (wrap64 (x7_3 + 1)) a0_0 l0_1 a0_2 l0_3 l0_4 l0_5) = some r := by first | (rw [hy440]; with_reducible exact H) | (have H2_ := (Option.bind_some _ _).symm.trans H; rw [hy440]; with_reducible exact H2_) | (have H2_ := (Option.bind_some _ _).symm.trans H; with_reducible exact H2_) | with_reducible exact H | (rw [hy440]; exact H) | exact H
                     have Ny440 := Aside0.mk hy440
                     clear hy440
                     have H' := Aside0.mk H
                     clear H
                     have hcz41_0 : wr.cell? ⟨gb427, 0, none⟩ = some (.string a0_0) := (blk_cell BK427.out 0).trans rfl
                     have hcz41_1 : wr.cell? ⟨gb427, 1, none⟩ = some (.slice A0_1 l0_1.length c0_1) := (blk_cell BK427.out 1).trans rfl
                     have hcz41_2 : wr.cell? ⟨gb427, 2, none⟩ = some (.string a0_2) := (blk_cell BK427.out 2).trans rfl
                     have hcz41_3 : wr.cell? ⟨gb427, 3, none⟩ = some (.slice A0_3 l0_3.length c0_3) := (blk_cell BK427.out 3).trans rfl
                     have hcz41_4 : wr.cell? ⟨gb427, 4, none⟩ = some (.slice A0_4 l0_4.length c0_4) := (blk_cell BK427.out 4).trans rfl
                     have hcz41_5 : wr.cell? ⟨gb427, 5, none⟩ = some (.slice A0_5 l0_5.length c0_5) := (blk_cell BK427.out 5).trans rfl
                     have hfz41_0 := blk_frozen BK427.out 0
                     have hfz41_1 := blk_frozen BK427.out 1
                     have hfz41_2 := blk_frozen BK427.out 2
                     have hfz41_3 := blk_frozen BK427.out 3
                     have hfz41_4 := blk_frozen BK427.out 4
                     have hfz41_5 := blk_frozen BK427.out 5
                     have p437 : 0 ≤ (x6_2 : Int) := of_decide_eq_true (by first | (with_reducible assumption) | assumption)
                     have q437 : x6_2 < (l0_5.length : Int) := of_decide_eq_true (by first | (with_reducible assumption) | assumption)
                     obtain ⟨ad437, A437_0, c437_0, e437, hx437_0, hx437_1, hx437_2, hx437_3, hx437_4, hl437_0, hi437_0⟩ := at_T40 HR0_5.out x6_2 p437 q437
                     cases e437
                     replace hx437_0 := (HB.out.cell (World.block_lt_of_cell? w _ hx437_0)).trans hx437_0
                     replace hx437_1 := (HB.out.cell (World.block_lt_of_cell? w _ hx437_1)).trans hx437_1
                     replace hx437_2 := (HB.out.cell (World.block_lt_of_cell? w _ hx437_2)).trans hx437_2
                     replace hx437_3 := (HB.out.cell (World.block_lt_of_cell? w _ hx437_3)).trans hx437_3
                     replace hx437_4 := (HB.out.cell (World.block_lt_of_cell? w _ hx437_4)).trans hx437_4
                     have HR437_0 := Aside0.mk hi437_0
                     have HC437_0 := Aside0.mk hl437_0
                     clear hi437_0 hl437_0
                     replace p437 := eq_true p437
                     replace q437 := eq_true q437
                     have p438 : 0 ≤ (x6_2 : Int) := of_decide_eq_true (by first | (with_reducible assumption) | assumption)
                     have q438 : x6_2 < (l0_5.length : Int) := of_decide_eq_true (by first | (with_reducible assumption) | assumption)
                     obtain ⟨ad438, A438_0, c438_0, e438, hx438_0, hx438_1, hx438_2, hx438_3, hx438_4, hl438_0, hi438_0⟩ := at_T40 HR0_5.out x6_2 p438 q438
                     obtain rfl : ad437 = ad438 := (by injection e438)
                     replace hx438_0 := (HB.out.cell (World.block_lt_of_cell? w _ hx438_0)).trans hx438_0
                     replace hx438_1 := (HB.out.cell (World.block_lt_of_cell? w _ hx438_1)).trans hx438_1
                     replace hx438_2 := (HB.out.cell (World.block_lt_of_cell? w _ hx438_2)).trans hx438_2
                     replace hx438_3 := (HB.out.cell (World.block_lt_of_cell? w _ hx438_3)).trans hx438_3
                     replace hx438_4 := (HB.out.cell (World.block_lt_of_cell? w _ hx438_4)).trans hx438_4
                     have HR438_0 := Aside0.mk hi438_0
                     have HC438_0 := Aside0.mk hl438_0
                     clear hi438_0 hl438_0
                     replace p438 := eq_true p438
                     replace q438 := eq_true q438
                     have ea_ := Option.some.inj (hx437_0.symm.trans hx438_0)
                     injection ea_ with ea_ en_ ec_
                     subst ea_
                     subst ec_
                     clear en_
                     have p439 : 0 ≤ (x7_3 : Int) := of_decide_eq_true (by first | (with_reducible assumption) | assumption)
                     have q439 : x7_3 < (((rd_T40 l0_5 x6_2).f0).length : Int) := of_decide_eq_true (by first | (with_reducible assumption) | assumption)
                     obtain ⟨ad439, e439, hx439_0⟩ := Kd.at_int HR438_0.out x7_3 p439 q439
                     cases e439
                     replace hx439_0 := (HB.out.cell (World.block_lt_of_cell? w _ hx439_0)).trans hx439_0
                     replace p439 := eq_true p439
                     replace q439 := eq_true q439
                     have p40 : 0 ≤ ((rd ((rd_T40 l0_5 x6_2).f0) x7_3) : Int) := of_decide_eq_true (by first | (with_reducible assumption) | assumption)
                     have q40 : ((rd ((rd_T40 l0_5 x6_2).f0) x7_3) : Int) < ((x4_3.length : Int) : Int) := of_decide_eq_true (by first | (with_reducible assumption) | assumption)
                     obtain ⟨go40, co40, eo40, gb40, gl40, cl40, HG40⟩ := Kd.R_form HO_4.out (by omega)
                     (first | cases eo40 | (injection eo40 with ea_ en_ ec_; (first | subst ea_ | (injection ea_ with ea_; subst ea_)); subst ec_; clear en_))
                     have GB40 := Aside0.mk gb40
                     have GG40 := Aside0.mk HG40
                     clear gb40 gl40 HG40
                     obtain ⟨hx40_0, hf40_0⟩ := Kd.R_celln 0 HO_4.out ((rd ((rd_T40 l0_5 x6_2).f0) x7_3) : Int) p40 q40
                     replace p40 := eq_true p40
                     replace q40 := eq_true q40
                     have HP42 := Kd.R_putg HO_4.out ((rd ((rd_T40 l0_5 x6_2).f0) x7_3) : Int) x6_2
                     go_wp2_with (first | ((with_reducible refine gate_store (t := 3) (p := 84) rfl ?_); (try (rw [drewN_self wr]; generalize hq_ : World.drewN wr _ = wr; have n0_ := Aside0.mk (Kd.R_at hq_ HO_3.out); have n1_ := Aside0.mk (Kd.R_at hq_ HO_4.out); have n2_ := Aside0.mk (blk_at hq_ BK427.out); have n3_ := Aside0.mk (below_at hq_ HB.out); clear hq_ HO_3 HO_4 BK427 HB; have HO_3 := n0_; have HO_4 := n1_; have BK427 := n2_; have HB := n3_; clear n0_ n1_ n2_ n3_; (try (have HP42 := Kd.R_putg HO_4.out ((rd ((rd_T40 l0_5 x6_2).f0) x7_3) : Int) x6_2)))); refine store_event (t := 3) (p := 84) (v := ?vo_w43) (w1 := (wr.setCell ⟨go40, ((rd ((rd_T40 l0_5 x6_2).f0) x7_3) : Int).toNat, none⟩ (.int .i64 x6_2))) ?hg ?ho ?hn ?hr ?_; (case ho => rfl); (case hg => rfl); (case hn => rfl); (case hr => first | (go_simp; done) | (go_simp; rfl)); intro w43 hw; have hg : wr.grownBy w43 (some go40) := (by rw [hw]; exact HP42.2); have hp_ : Kd.R (Kd.int .i64) 3 w43 w.heap.size (fun k_ => some k_ ≠ (.slice Ao20 t430.length co20 : Value).ownBlock) (.slice (some ⟨go40, 0, none⟩) x4_3.length co30) y440 := (by rw [hw, Ny440.out]; exact HP42.1); clear HP42; have n0_ := Aside0.mk (Kd.R_after (v := (.slice (some ⟨go40, 0, none⟩) x4_3.length co30)) (v1 := (.slice (some ⟨go40, 0, none⟩) x4_3.length co30)) (ok := (fun _ => True)) (by (with_reducible repeat (first | apply Kd.R_alloc | apply Kd.R_drewN | apply Kd.R_drew)); exact Kd.R_mono HO_3.out (fun _ hk => ⟨trivial, hk⟩)) hg (.inl rfl)); have n1_ := Aside0.mk (hp_); have n2_ := Aside0.mk (blk_grown (g := gb427) (o := .cells #[.string a0_0, .slice A0_1 l0_1.length c0_1, .string a0_2, .slice A0_3 l0_3.length c0_3, .slice A0_4 l0_4.length c0_4, .slice (some ad437) l0_5.length c0_5] 26 (0, 0)) (by (with_reducible repeat (first | refine blk_drewN ?_ _ | refine blk_drew ?_ | refine blk_alloc ?_ _)); exact BK427.out) hg (Kd.R_ne HO_4.out BK427.out (by decide))); have n3_ := Aside0.mk ((by rw [hw]; exact below_set (HB.out) GB40.out : Below w.heap.size w w43)); clear HO_3; clear HO_4; clear BK427; clear HB; have HO_3 := n0_; have HO_4 := n1_; have BK427 := n2_; have HB := n3_; clear n0_ n1_ n2_ n3_; clear hg hw hp_))
                     repeat (go_quiet (first | ((with_reducible refine gate_store (t := 3) (p := 84) rfl ?_); (try (rw [drewN_self wr]; generalize hq_ : World.drewN wr _ = wr; have n0_ := Aside0.mk (Kd.R_at hq_ HO_3.out); have n1_ := Aside0.mk (Kd.R_at hq_ HO_4.out); have n2_ := Aside0.mk (blk_at hq_ BK427.out); have n3_ := Aside0.mk (below_at hq_ HB.out); clear hq_ HO_3 HO_4 BK427 HB; have HO_3 := n0_; have HO_4 := n1_; have BK427 := n2_; have HB := n3_; clear n0_ n1_ n2_ n3_; (try (have HP42 := Kd.R_putg HO_4.out ((rd ((rd_T40 l0_5 x6_2).f0) x7_3) : Int) x6_2)))); refine store_event (t := 3) (p := 84) (v := ?vo_w43) (w1 := (wr.setCell ⟨go40, ((rd ((rd_T40 l0_5 x6_2).f0) x7_3) : Int).toNat, none⟩ (.int .i64 x6_2))) ?hg ?ho ?hn ?hr ?_; (case ho => rfl); (case hg => rfl); (case hn => rfl); (case hr => first | (go_simp; done) | (go_simp; rfl)); intro w43 hw; have hg : wr.grownBy w43 (some go40) := (by rw [hw]; exact HP42.2); have hp_ : Kd.R (Kd.int .i64) 3 w43 w.heap.size (fun k_ => some k_ ≠ (.slice Ao20 t430.length co20 : Value).ownBlock) (.slice (some ⟨go40, 0, none⟩) x4_3.length co30) y440 := (by rw [hw, Ny440.out]; exact HP42.1); clear HP42; have n0_ := Aside0.mk (Kd.R_after (v := (.slice (some ⟨go40, 0, none⟩) x4_3.length co30)) (v1 := (.slice (some ⟨go40, 0, none⟩) x4_3.length co30)) (ok := (fun _ => True)) (by (with_reducible repeat (first | apply Kd.R_alloc | apply Kd.R_drewN | apply Kd.R_drew)); exact Kd.R_mono HO_3.out (fun _ hk => ⟨trivial, hk⟩)) hg (.inl rfl)); have n1_ := Aside0.mk (hp_); have n2_ := Aside0.mk (blk_grown (g := gb427) (o := .cells #[.string a0_0, .slice A0_1 l0_1.length c0_1, .string a0_2, .slice A0_3 l0_3.length c0_3, .slice A0_4 l0_4.length c0_4, .slice (some ad437) l0_5.length c0_5] 26 (0, 0)) (by (with_reducible repeat (first | refine blk_drewN ?_ _ | refine blk_drew ?_ | refine blk_alloc ?_ _)); exact BK427.out) hg (Kd.R_ne HO_4.out BK427.out (by decide))); have n3_ := Aside0.mk ((by rw [hw]; exact below_set (HB.out) GB40.out : Below w.heap.size w w43)); clear HO_3; clear HO_4; clear BK427; clear HB; have HO_3 := n0_; have HO_4 := n1_; have BK427 := n2_; have HB := n3_; clear n0_ n1_ n2_ n3_; clear hg hw hp_)); try go_wp2_with (first | ((with_reducible refine gate_store (t := 3) (p := 84) rfl ?_); (try (rw [drewN_self wr]; generalize hq_ : World.drewN wr _ = wr; have n0_ := Aside0.mk (Kd.R_at hq_ HO_3.out); have n1_ := Aside0.mk (Kd.R_at hq_ HO_4.out); have n2_ := Aside0.mk (blk_at hq_ BK427.out); have n3_ := Aside0.mk (below_at hq_ HB.out); clear hq_ HO_3 HO_4 BK427 HB; have HO_3 := n0_; have HO_4 := n1_; have BK427 := n2_; have HB := n3_; clear n0_ n1_ n2_ n3_; (try (have HP42 := Kd.R_putg HO_4.out ((rd ((rd_T40 l0_5 x6_2).f0) x7_3) : Int) x6_2)))); refine store_event (t := 3) (p := 84) (v := ?vo_w43) (w1 := (wr.setCell ⟨go40, ((rd ((rd_T40 l0_5 x6_2).f0) x7_3) : Int).toNat, none⟩ (.int .i64 x6_2))) ?hg ?ho ?hn ?hr ?_; (case ho => rfl); (case hg => rfl); (case hn => rfl); (case hr => first | (go_simp; done) | (go_simp; rfl)); intro w43 hw; have hg : wr.grownBy w43 (some go40) := (by rw [hw]; exact HP42.2); have hp_ : Kd.R (Kd.int .i64) 3 w43 w.heap.size (fun k_ => some k_ ≠ (.slice Ao20 t430.length co20 : Value).ownBlock) (.slice (some ⟨go40, 0, none⟩) x4_3.length co30) y440 := (by rw [hw, Ny440.out]; exact HP42.1); clear HP42; have n0_ := Aside0.mk (Kd.R_after (v := (.slice (some ⟨go40, 0, none⟩) x4_3.length co30)) (v1 := (.slice (some ⟨go40, 0, none⟩) x4_3.length co30)) (ok := (fun _ => True)) (by (with_reducible repeat (first | apply Kd.R_alloc | apply Kd.R_drewN | apply Kd.R_drew)); exact Kd.R_mono HO_3.out (fun _ hk => ⟨trivial, hk⟩)) hg (.inl rfl)); have n1_ := Aside0.mk (hp_); have n2_ := Aside0.mk (blk_grown (g := gb427) (o := .cells #[.string a0_0, .slice A0_1 l0_1.length c0_1, .string a0_2, .slice A0_3 l0_3.length c0_3, .slice A0_4 l0_4.length c0_4, .slice (some ad437) l0_5.length c0_5] 26 (0, 0)) (by (with_reducible repeat (first | refine blk_drewN ?_ _ | refine blk_drew ?_ | refine blk_alloc ?_ _)); exact BK427.out) hg (Kd.R_ne HO_4.out BK427.out (by decide))); have n3_ := Aside0.mk ((by rw [hw]; exact below_set (HB.out) GB40.out : Below w.heap.size w w43)); clear HO_3; clear HO_4; clear BK427; clear HB; have HO_3 := n0_; have HO_4 := n1_; have BK427 := n2_; have HB := n3_; clear n0_ n1_ n2_ n3_; clear hg hw hp_)))
                     (try simp only [← hl4_3])
                     go_roundg k3
                     case measure => have := HK1.out; have := HK2.out; have := HK3.out; omega
                     case rel => exact ⟨(y440), (wrap64 (x7_3 + 1)), (by first | rfl | (simp; done) | (simp [*]; done)), H', ⟨by have := HK1.out; have := HK2.out; have := HK3.out; omega⟩, ⟨by (try simp only [hl4_2]); (try simp only [hl4_3]); (with_reducible repeat (first | apply Kd.R_alloc | apply Kd.R_drewN | apply Kd.R_drew)); exact Kd.R_mono HO_3.out (fun _ hk => hk.2)⟩, ⟨by (try simp only [hl4_2]); (try simp only [hl4_3]); (with_reducible repeat (first | apply Kd.R_alloc | apply Kd.R_drewN | apply Kd.R_drew)); exact HO_4.out⟩, ⟨by (try simp only [hl4_2]); (try simp only [hl4_3]); (with_reducible repeat (first | refine blk_drewN ?_ _ | refine blk_drew ?_ | refine blk_alloc ?_ _)); exact BK427.out⟩, ⟨by repeat (first | (with_reducible first | exact HB.out | apply below_alloc | apply pw_below_drewN | apply below_drew1 | refine below_set ?_ GE427.out) | exact HB.out)⟩⟩
                    ·rw [if_neg c39] at H
                     exact absurd H (by simp)
                   ·rw [if_neg c38] at H
                    have c38b0 : decide ((rd ((rd_T40 l0_5 x6_2).f0) x7_3) < (x4_3.length : Int)) = false := decide_eq_false c38
                    clear c38
                    have H' := Aside0.mk H
                    clear H
                    have hcz44_0 : wr.cell? ⟨gb427, 0, none⟩ = some (.string a0_0) := (blk_cell BK427.out 0).trans rfl
                    have hcz44_1 : wr.cell? ⟨gb427, 1, none⟩ = some (.slice A0_1 l0_1.length c0_1) := (blk_cell BK427.out 1).trans rfl
                    have hcz44_2 : wr.cell? ⟨gb427, 2, none⟩ = some (.string a0_2) := (blk_cell BK427.out 2).trans rfl
                    have hcz44_3 : wr.cell? ⟨gb427, 3, none⟩ = some (.slice A0_3 l0_3.length c0_3) := (blk_cell BK427.out 3).trans rfl
                    have hcz44_4 : wr.cell? ⟨gb427, 4, none⟩ = some (.slice A0_4 l0_4.length c0_4) := (blk_cell BK427.out 4).trans rfl
                    have hcz44_5 : wr.cell? ⟨gb427, 5, none⟩ = some (.slice A0_5 l0_5.length c0_5) := (blk_cell BK427.out 5).trans rfl
                    have hfz44_0 := blk_frozen BK427.out 0
                    have hfz44_1 := blk_frozen BK427.out 1
                    have hfz44_2 := blk_frozen BK427.out 2
                    have hfz44_3 := blk_frozen BK427.out 3
                    have hfz44_4 := blk_frozen BK427.out 4
                    have hfz44_5 := blk_frozen BK427.out 5
                    have p437 : 0 ≤ (x6_2 : Int) := of_decide_eq_true (by first | (with_reducible assumption) | assumption)
                    have q437 : x6_2 < (l0_5.length : Int) := of_decide_eq_true (by first | (with_reducible assumption) | assumption)
                    obtain ⟨ad437, A437_0, c437_0, e437, hx437_0, hx437_1, hx437_2, hx437_3, hx437_4, hl437_0, hi437_0⟩ := at_T40 HR0_5.out x6_2 p437 q437
                    cases e437
                    replace hx437_0 := (HB.out.cell (World.block_lt_of_cell? w _ hx437_0)).trans hx437_0
                    replace hx437_1 := (HB.out.cell (World.block_lt_of_cell? w _ hx437_1)).trans hx437_1
                    replace hx437_2 := (HB.out.cell (World.block_lt_of_cell? w _ hx437_2)).trans hx437_2
                    replace hx437_3 := (HB.out.cell (World.block_lt_of_cell? w _ hx437_3)).trans hx437_3
                    replace hx437_4 := (HB.out.cell (World.block_lt_of_cell? w _ hx437_4)).trans hx437_4
                    have HR437_0 := Aside0.mk hi437_0
                    have HC437_0 := Aside0.mk hl437_0
                    clear hi437_0 hl437_0
                    replace p437 := eq_true p437
                    replace q437 := eq_true q437
                    have p438 : 0 ≤ (x6_2 : Int) := of_decide_eq_true (by first | (with_reducible assumption) | assumption)
                    have q438 : x6_2 < (l0_5.length : Int) := of_decide_eq_true (by first | (with_reducible assumption) | assumption)
                    obtain ⟨ad438, A438_0, c438_0, e438, hx438_0, hx438_1, hx438_2, hx438_3, hx438_4, hl438_0, hi438_0⟩ := at_T40 HR0_5.out x6_2 p438 q438
                    obtain rfl : ad437 = ad438 := (by injection e438)
                    replace hx438_0 := (HB.out.cell (World.block_lt_of_cell? w _ hx438_0)).trans hx438_0
                    replace hx438_1 := (HB.out.cell (World.block_lt_of_cell? w _ hx438_1)).trans hx438_1
                    replace hx438_2 := (HB.out.cell (World.block_lt_of_cell? w _ hx438_2)).trans hx438_2
                    replace hx438_3 := (HB.out.cell (World.block_lt_of_cell? w _ hx438_3)).trans hx438_3
                    replace hx438_4 := (HB.out.cell (World.block_lt_of_cell? w _ hx438_4)).trans hx438_4
                    have HR438_0 := Aside0.mk hi438_0
                    have HC438_0 := Aside0.mk hl438_0
                    clear hi438_0 hl438_0
                    replace p438 := eq_true p438
                    replace q438 := eq_true q438
                    have ea_ := Option.some.inj (hx437_0.symm.trans hx438_0)
                    injection ea_ with ea_ en_ ec_
                    subst ea_
                    subst ec_
                    clear en_
                    have p439 : 0 ≤ (x7_3 : Int) := of_decide_eq_true (by first | (with_reducible assumption) | assumption)
                    have q439 : x7_3 < (((rd_T40 l0_5 x6_2).f0).length : Int) := of_decide_eq_true (by first | (with_reducible assumption) | assumption)
                    obtain ⟨ad439, e439, hx439_0⟩ := Kd.at_int HR438_0.out x7_3 p439 q439
                    cases e439
                    replace hx439_0 := (HB.out.cell (World.block_lt_of_cell? w _ hx439_0)).trans hx439_0
                    replace p439 := eq_true p439
                    replace q439 := eq_true q439
                    go_wp2
                    repeat (go_quiet (fail); try go_wp2)
                    (try simp only [← hl4_3])
                    go_roundg k3
                    case measure => have := HK1.out; have := HK2.out; have := HK3.out; omega
                    case rel => exact ⟨(x4_3), (wrap64 (x7_3 + 1)), (by first | rfl | (simp; done) | (simp [*]; done)), H', ⟨by have := HK1.out; have := HK2.out; have := HK3.out; omega⟩, ⟨by (try simp only [hl4_2]); (try simp only [hl4_3]); (with_reducible repeat (first | apply Kd.R_alloc | apply Kd.R_drewN | apply Kd.R_drew)); exact HO_3.out⟩, ⟨by (try simp only [hl4_2]); (try simp only [hl4_3]); (with_reducible repeat (first | apply Kd.R_alloc | apply Kd.R_drewN | apply Kd.R_drew)); exact HO_4.out⟩, ⟨by (try simp only [hl4_2]); (try simp only [hl4_3]); (with_reducible repeat (first | refine blk_drewN ?_ _ | refine blk_drew ?_ | refine blk_alloc ?_ _)); exact BK427.out⟩, ⟨by repeat (first | (with_reducible first | exact HB.out | apply below_alloc | apply pw_below_drewN | apply below_drew1 | refine below_set ?_ GE427.out) | exact HB.out)⟩⟩
                  ·rw [if_neg c37] at H
                   have c37b0 : decide (0 ≤ (rd ((rd_T40 l0_5 x6_2).f0) x7_3)) = false := decide_eq_false c37
                   clear c37
                   have H' := Aside0.mk H
                   clear H
                   have hcz45_0 : wr.cell? ⟨gb427, 0, none⟩ = some (.string a0_0) := (blk_cell BK427.out 0).trans rfl
                   have hcz45_1 : wr.cell? ⟨gb427, 1, none⟩ = some (.slice A0_1 l0_1.length c0_1) := (blk_cell BK427.out 1).trans rfl
                   have hcz45_2 : wr.cell? ⟨gb427, 2, none⟩ = some (.string a0_2) := (blk_cell BK427.out 2).trans rfl
                   have hcz45_3 : wr.cell? ⟨gb427, 3, none⟩ = some (.slice A0_3 l0_3.length c0_3) := (blk_cell BK427.out 3).trans rfl
                   have hcz45_4 : wr.cell? ⟨gb427, 4, none⟩ = some (.slice A0_4 l0_4.length c0_4) := (blk_cell BK427.out 4).trans rfl
                   have hcz45_5 : wr.cell? ⟨gb427, 5, none⟩ = some (.slice A0_5 l0_5.length c0_5) := (blk_cell BK427.out 5).trans rfl
                   have hfz45_0 := blk_frozen BK427.out 0
                   have hfz45_1 := blk_frozen BK427.out 1
                   have hfz45_2 := blk_frozen BK427.out 2
                   have hfz45_3 := blk_frozen BK427.out 3
                   have hfz45_4 := blk_frozen BK427.out 4
                   have hfz45_5 := blk_frozen BK427.out 5
                   have p437 : 0 ≤ (x6_2 : Int) := of_decide_eq_true (by first | (with_reducible assumption) | assumption)
                   have q437 : x6_2 < (l0_5.length : Int) := of_decide_eq_true (by first | (with_reducible assumption) | assumption)
                   obtain ⟨ad437, A437_0, c437_0, e437, hx437_0, hx437_1, hx437_2, hx437_3, hx437_4, hl437_0, hi437_0⟩ := at_T40 HR0_5.out x6_2 p437 q437
                   cases e437
                   replace hx437_0 := (HB.out.cell (World.block_lt_of_cell? w _ hx437_0)).trans hx437_0
                   replace hx437_1 := (HB.out.cell (World.block_lt_of_cell? w _ hx437_1)).trans hx437_1
                   replace hx437_2 := (HB.out.cell (World.block_lt_of_cell? w _ hx437_2)).trans hx437_2
                   replace hx437_3 := (HB.out.cell (World.block_lt_of_cell? w _ hx437_3)).trans hx437_3
                   replace hx437_4 := (HB.out.cell (World.block_lt_of_cell? w _ hx437_4)).trans hx437_4
                   have HR437_0 := Aside0.mk hi437_0
                   have HC437_0 := Aside0.mk hl437_0
                   clear hi437_0 hl437_0
                   replace p437 := eq_true p437
                   replace q437 := eq_true q437
                   have p438 : 0 ≤ (x6_2 : Int) := of_decide_eq_true (by first | (with_reducible assumption) | assumption)
                   have q438 : x6_2 < (l0_5.length : Int) := of_decide_eq_true (by first | (with_reducible assumption) | assumption)
                   obtain ⟨ad438, A438_0, c438_0, e438, hx438_0, hx438_1, hx438_2, hx438_3, hx438_4, hl438_0, hi438_0⟩ := at_T40 HR0_5.out x6_2 p438 q438
                   obtain rfl : ad437 = ad438 := (by injection e438)
                   replace hx438_0 := (HB.out.cell (World.block_lt_of_cell? w _ hx438_0)).trans hx438_0
                   replace hx438_1 := (HB.out.cell (World.block_lt_of_cell? w _ hx438_1)).trans hx438_1
                   replace hx438_2 := (HB.out.cell (World.block_lt_of_cell? w _ hx438_2)).trans hx438_2
                   replace hx438_3 := (HB.out.cell (World.block_lt_of_cell? w _ hx438_3)).trans hx438_3
                   replace hx438_4 := (HB.out.cell (World.block_lt_of_cell? w _ hx438_4)).trans hx438_4
                   have HR438_0 := Aside0.mk hi438_0
                   have HC438_0 := Aside0.mk hl438_0
                   clear hi438_0 hl438_0
                   replace p438 := eq_true p438
                   replace q438 := eq_true q438
                   have ea_ := Option.some.inj (hx437_0.symm.trans hx438_0)
                   injection ea_ with ea_ en_ ec_
                   subst ea_
                   subst ec_
                   clear en_
                   have p439 : 0 ≤ (x7_3 : Int) := of_decide_eq_true (by first | (with_reducible assumption) | assumption)
                   have q439 : x7_3 < (((rd_T40 l0_5 x6_2).f0).length : Int) := of_decide_eq_true (by first | (with_reducible assumption) | assumption)
                   obtain ⟨ad439, e439, hx439_0⟩ := Kd.at_int HR438_0.out x7_3 p439 q439
                   cases e439
                   replace hx439_0 := (HB.out.cell (World.block_lt_of_cell? w _ hx439_0)).trans hx439_0
                   replace p439 := eq_true p439
                   replace q439 := eq_true q439
                   go_wp2
                   repeat (go_quiet (fail); try go_wp2)
                   (try simp only [← hl4_3])
                   go_roundg k3
                   case measure => have := HK1.out; have := HK2.out; have := HK3.out; omega
                   case rel => exact ⟨(x4_3), (wrap64 (x7_3 + 1)), (by first | rfl | (simp; done) | (simp [*]; done)), H', ⟨by have := HK1.out; have := HK2.out; have := HK3.out; omega⟩, ⟨by (try simp only [hl4_2]); (try simp only [hl4_3]); (with_reducible repeat (first | apply Kd.R_alloc | apply Kd.R_drewN | apply Kd.R_drew)); exact HO_3.out⟩, ⟨by (try simp only [hl4_2]); (try simp only [hl4_3]); (with_reducible repeat (first | apply Kd.R_alloc | apply Kd.R_drewN | apply Kd.R_drew)); exact HO_4.out⟩, ⟨by (try simp only [hl4_2]); (try simp only [hl4_3]); (with_reducible repeat (first | refine blk_drewN ?_ _ | refine blk_drew ?_ | refine blk_alloc ?_ _)); exact BK427.out⟩, ⟨by repeat (first | (with_reducible first | exact HB.out | apply below_alloc | apply pw_below_drewN | apply below_drew1 | refine below_set ?_ GE427.out) | exact HB.out)⟩⟩
                 ·rw [if_neg c36] at H
                  exact absurd H (by simp)
                ·rw [if_neg c35] at H
                 have c35b0 : decide (x7_3 < (((rd_T40 l0_5 x6_2).f0).length : Int)) = false := decide_eq_false c35
                 clear c35
                 have H' := Aside0.mk H
                 clear H
                 have hcz46_0 : wr.cell? ⟨gb427, 0, none⟩ = some (.string a0_0) := (blk_cell BK427.out 0).trans rfl
                 have hcz46_1 : wr.cell? ⟨gb427, 1, none⟩ = some (.slice A0_1 l0_1.length c0_1) := (blk_cell BK427.out 1).trans rfl
                 have hcz46_2 : wr.cell? ⟨gb427, 2, none⟩ = some (.string a0_2) := (blk_cell BK427.out 2).trans rfl
                 have hcz46_3 : wr.cell? ⟨gb427, 3, none⟩ = some (.slice A0_3 l0_3.length c0_3) := (blk_cell BK427.out 3).trans rfl
                 have hcz46_4 : wr.cell? ⟨gb427, 4, none⟩ = some (.slice A0_4 l0_4.length c0_4) := (blk_cell BK427.out 4).trans rfl
                 have hcz46_5 : wr.cell? ⟨gb427, 5, none⟩ = some (.slice A0_5 l0_5.length c0_5) := (blk_cell BK427.out 5).trans rfl
                 have hfz46_0 := blk_frozen BK427.out 0
                 have hfz46_1 := blk_frozen BK427.out 1
                 have hfz46_2 := blk_frozen BK427.out 2
                 have hfz46_3 := blk_frozen BK427.out 3
                 have hfz46_4 := blk_frozen BK427.out 4
                 have hfz46_5 := blk_frozen BK427.out 5
                 have p437 : 0 ≤ (x6_2 : Int) := of_decide_eq_true (by first | (with_reducible assumption) | assumption)
                 have q437 : x6_2 < (l0_5.length : Int) := of_decide_eq_true (by first | (with_reducible assumption) | assumption)
                 obtain ⟨ad437, A437_0, c437_0, e437, hx437_0, hx437_1, hx437_2, hx437_3, hx437_4, hl437_0, hi437_0⟩ := at_T40 HR0_5.out x6_2 p437 q437
                 cases e437
                 replace hx437_0 := (HB.out.cell (World.block_lt_of_cell? w _ hx437_0)).trans hx437_0
                 replace hx437_1 := (HB.out.cell (World.block_lt_of_cell? w _ hx437_1)).trans hx437_1
                 replace hx437_2 := (HB.out.cell (World.block_lt_of_cell? w _ hx437_2)).trans hx437_2
                 replace hx437_3 := (HB.out.cell (World.block_lt_of_cell? w _ hx437_3)).trans hx437_3
                 replace hx437_4 := (HB.out.cell (World.block_lt_of_cell? w _ hx437_4)).trans hx437_4
                 have HR437_0 := Aside0.mk hi437_0
                 have HC437_0 := Aside0.mk hl437_0
                 clear hi437_0 hl437_0
                 replace p437 := eq_true p437
                 replace q437 := eq_true q437
                 go_wp2
                 repeat (go_quiet (fail); try go_wp2)
                 (try simp only [← hl4_2, ← hl4_3])
                 go_roundg k3
                 case measure => have := HK1.out; have := HK2.out; have := HK3.out; omega
                 case rel => exact ⟨(x4_3), (wrap64 (x6_2 - 1)), (by first | rfl | (simp; done) | (simp [*]; done)), H', ⟨by have := HK1.out; have := HK2.out; have := HK3.out; omega⟩, ⟨by (try simp only [hl4_2]); (try simp only [hl4_3]); (with_reducible repeat (first | apply Kd.R_alloc | apply Kd.R_drewN | apply Kd.R_drew)); exact HO_3.out⟩, ⟨by (try simp only [hl4_2]); (try simp only [hl4_3]); (with_reducible repeat (first | apply Kd.R_alloc | apply Kd.R_drewN | apply Kd.R_drew)); exact HO_4.out⟩, ⟨by (try simp only [hl4_2]); (try simp only [hl4_3]); (with_reducible repeat (first | refine blk_drewN ?_ _ | refine blk_drew ?_ | refine blk_alloc ?_ _)); exact BK427.out⟩, ⟨by repeat (first | (with_reducible first | exact HB.out | apply below_alloc | apply pw_below_drewN | apply below_drew1 | refine below_set ?_ GE427.out) | exact HB.out)⟩⟩
               ·rw [if_neg c34] at H
                exact absurd H (by simp)
              ·rw [if_neg c33] at H
               exact absurd H (by simp)
           ·rw [if_neg c32] at H
            have c32b0 : decide (0 ≤ x6_2) = false := decide_eq_false c32
            clear c32
            replace H := Option.bind_eq_some_iff.mp H
            obtain ⟨t441, A470, H⟩ := H
            replace H : (if 0 ≤ (l0_5.length : Int) then (if ((l0_5.length : Int) : Int).toNat ≤ 35184372088832 then (truantlaw09_FlowWhere.l3 k2 t430 x4_2 t441 (List.replicate ((l0_5.length : Int) : Int).toNat 0) 0 a0_0 l0_1 a0_2 l0_3 l0_4 l0_5) else (none)) else (none)) = some r := H
            have A47 := Aside0.mk A470
            clear A470
            by_cases c48 : 0 ≤ (l0_5.length : Int)
            ·rw [if_pos c48] at H
             have c48b0 := eq_true c48
             have c48b1 : decide (0 ≤ (l0_5.length : Int)) = true := decide_eq_true c48
             clear c48
             by_cases c49 : ((l0_5.length : Int) : Int).toNat ≤ 35184372088832
             ·rw [if_pos c49] at H
              have c49b0 := eq_true c49
              have c49b1 : decide (((l0_5.length : Int) : Int).toNat ≤ 35184372088832) = true := decide_eq_true c49
              clear c49
              obtain ⟨y444, hy444⟩ : ∃ y_ : List Int, y_ = (List.replicate ((l0_5.length : Int) : Int).toNat 0) := ⟨_, rfl⟩
              replace H : (truantlaw09_FlowWhere.l3 k2 t430 x4_2 t441 y444 0 a0_0 l0_1 a0_2 l0_3 l0_4 l0_5) = some r := by first | (rw [hy444]; with_reducible exact H) | (have H2_ := (Option.bind_some _ _).symm.trans H; rw [hy444]; with_reducible exact H2_) | (have H2_ := (Option.bind_some _ _).symm.trans H; with_reducible exact H2_) | with_reducible exact H | (rw [hy444]; exact H) | exact H
              have Ny444 := Aside0.mk hy444
              clear hy444
              have H' := Aside0.mk H
              clear H
              have hcz50_0 : wr.cell? ⟨gb427, 0, none⟩ = some (.string a0_0) := (blk_cell BK427.out 0).trans rfl
              have hcz50_1 : wr.cell? ⟨gb427, 1, none⟩ = some (.slice A0_1 l0_1.length c0_1) := (blk_cell BK427.out 1).trans rfl
              have hcz50_2 : wr.cell? ⟨gb427, 2, none⟩ = some (.string a0_2) := (blk_cell BK427.out 2).trans rfl
              have hcz50_3 : wr.cell? ⟨gb427, 3, none⟩ = some (.slice A0_3 l0_3.length c0_3) := (blk_cell BK427.out 3).trans rfl
              have hcz50_4 : wr.cell? ⟨gb427, 4, none⟩ = some (.slice A0_4 l0_4.length c0_4) := (blk_cell BK427.out 4).trans rfl
              have hcz50_5 : wr.cell? ⟨gb427, 5, none⟩ = some (.slice A0_5 l0_5.length c0_5) := (blk_cell BK427.out 5).trans rfl
              have hfz50_0 := blk_frozen BK427.out 0
              have hfz50_1 := blk_frozen BK427.out 1
              have hfz50_2 := blk_frozen BK427.out 2
              have hfz50_3 := blk_frozen BK427.out 3
              have hfz50_4 := blk_frozen BK427.out 4
              have hfz50_5 := blk_frozen BK427.out 5
              go_wp2_with (first | (go_at_call 23; (with_reducible refine (truantref09_Order.calls k2 a0_0 _ _ l0_1 a0_2 _ _ l0_3 _ _ l0_4 _ _ l0_5 t441 _ ?side1 ?side2 ?side3 ?side4 ?side5 ?side6 ?side7 ?side8 A47.out).mono ?_); (case side1 => repeat (first | exact (Kd.C_below HR0_1.out HB.out) | (with_reducible refine Kd.C_alloc ?_ _) | (with_reducible refine Kd.C_drewN ?_ _) | (with_reducible refine Kd.C_drew ?_))); (case side2 => exact HC0_1.out); (case side3 => repeat (first | exact (Kd.C_below HR0_3.out HB.out) | (with_reducible refine Kd.C_alloc ?_ _) | (with_reducible refine Kd.C_drewN ?_ _) | (with_reducible refine Kd.C_drew ?_))); (case side4 => exact HC0_3.out); (case side5 => repeat (first | exact (Kd.C_below HR0_4.out HB.out) | (with_reducible refine Kd.C_alloc ?_ _) | (with_reducible refine Kd.C_drewN ?_ _) | (with_reducible refine Kd.C_drew ?_))); (case side6 => exact HC0_4.out); (case side7 => repeat (first | exact (Kd.C_below HR0_5.out HB.out) | (with_reducible refine Kd.C_alloc ?_ _) | (with_reducible refine Kd.C_drewN ?_ _) | (with_reducible refine Kd.C_drew ?_))); (case side8 => exact HC0_5.out); rintro e w51 ⟨v442, rfl, ho0, hb⟩; have n0_ := Aside0.mk (Kd.R_elder' (by (with_reducible repeat (first | apply Kd.R_alloc | apply Kd.R_drewN | apply Kd.R_drew)); exact HO_3.out) (Kd.R_base ho0) hb); have n1_ := Aside0.mk (Kd.R_elder' (by (with_reducible repeat (first | apply Kd.R_alloc | apply Kd.R_drewN | apply Kd.R_drew)); exact HO_4.out) (Kd.R_base ho0) hb); have n2_ := Aside0.mk (Kd.R_lower (Kd.R_new' (Kd.R_new' ho0 (Kd.R_lt (by (with_reducible repeat (first | apply Kd.R_alloc | apply Kd.R_drewN | apply Kd.R_drew)); exact HO_3.out))) (Kd.R_lt (by (with_reducible repeat (first | apply Kd.R_alloc | apply Kd.R_drewN | apply Kd.R_drew)); exact HO_4.out))) (below_size (by repeat (first | (with_reducible first | exact HB.out | apply below_alloc | apply pw_below_drewN | apply below_drew1 | refine below_set ?_ GE427.out) | exact HB.out)))); have n3_ := Aside0.mk (blk_below (g := gb427) (o := .cells #[.string a0_0, .slice A0_1 l0_1.length c0_1, .string a0_2, .slice A0_3 l0_3.length c0_3, .slice A0_4 l0_4.length c0_4, .slice A0_5 l0_5.length c0_5] 26 (0, 0)) (by (with_reducible repeat (first | refine blk_drewN ?_ _ | refine blk_drew ?_ | refine blk_alloc ?_ _)); exact BK427.out) hb); have n4_ := Aside0.mk (below_step (by repeat (first | (with_reducible first | exact HB.out | apply below_alloc | apply pw_below_drewN | apply below_drew1 | refine below_set ?_ GE427.out) | exact HB.out)) hb); clear HO_3; clear HO_4; clear BK427; clear HB; have HO_3 := n0_; have HO_4 := n1_; have HO443 := n2_; have BK427 := n3_; have HB := n4_; clear n0_ n1_ n2_ n3_ n4_; (try clear hb); (try clear hb2); (try clear hk); (try clear hi); (try clear ho0); have hcz52_0 : w51.cell? ⟨gb427, 0, none⟩ = some (.string a0_0) := (blk_cell BK427.out 0).trans rfl; have hcz52_1 : w51.cell? ⟨gb427, 1, none⟩ = some (.slice A0_1 l0_1.length c0_1) := (blk_cell BK427.out 1).trans rfl; have hcz52_2 : w51.cell? ⟨gb427, 2, none⟩ = some (.string a0_2) := (blk_cell BK427.out 2).trans rfl; have hcz52_3 : w51.cell? ⟨gb427, 3, none⟩ = some (.slice A0_3 l0_3.length c0_3) := (blk_cell BK427.out 3).trans rfl; have hcz52_4 : w51.cell? ⟨gb427, 4, none⟩ = some (.slice A0_4 l0_4.length c0_4) := (blk_cell BK427.out 4).trans rfl; have hcz52_5 : w51.cell? ⟨gb427, 5, none⟩ = some (.slice A0_5 l0_5.length c0_5) := (blk_cell BK427.out 5).trans rfl; have hfz52_0 := blk_frozen BK427.out 0; have hfz52_1 := blk_frozen BK427.out 1; have hfz52_2 := blk_frozen BK427.out 2; have hfz52_3 := blk_frozen BK427.out 3; have hfz52_4 := blk_frozen BK427.out 4; have hfz52_5 := blk_frozen BK427.out 5) | ((with_reducible refine gate_dst (N := 90) rfl ?_); (try (refine gate_guard (by rfl) ?_; dsimp only)); refine Kd.R_make (Kd.int .i64) _ 3 rfl (N := 90) rfl 34 _ _ rfl (l0_5.length : Int) rfl rfl Try.underlying34 (.int .i64 0) 8 info3 rfl (by decide) (by omega) 0 (ok := fun _ => True) (okp := fun _ => True) rfl (fun _ hk => hk) trivial (of_decide_eq_true (by first | (with_reducible assumption) | assumption)) (Nat.le_trans (Nat.mul_le_mul_right _ (of_decide_eq_true (by first | (with_reducible assumption) | assumption) : (l0_5.length : Int).toNat ≤ 35184372088832)) (by omega)) (Below.refl _ _) (Nat.le_refl _) ?_; intro v445 w53 ho54 hb hg_ hnew_; clear hg_ hnew_; (first | rw [← Ny444.out] at ho54 | (simp only [Int.reduceToNat] at ho54; rw [← Ny444.out] at ho54)); have n0_ := Aside0.mk (Kd.R_elder' (by (with_reducible repeat (first | apply Kd.R_alloc | apply Kd.R_drewN | apply Kd.R_drew)); exact HO_3.out) (Kd.R_base ho54) hb); have n1_ := Aside0.mk (Kd.R_elder' (by (with_reducible repeat (first | apply Kd.R_alloc | apply Kd.R_drewN | apply Kd.R_drew)); exact HO_4.out) (Kd.R_base ho54) hb); have n2_ := Aside0.mk (Kd.R_elder' (by (with_reducible repeat (first | apply Kd.R_alloc | apply Kd.R_drewN | apply Kd.R_drew)); exact HO443.out) (Kd.R_base ho54) hb); have n3_ := Aside0.mk (Kd.R_lower (Kd.R_new' (Kd.R_new' (Kd.R_new' ho54 (Kd.R_lt (by (with_reducible repeat (first | apply Kd.R_alloc | apply Kd.R_drewN | apply Kd.R_drew)); exact HO_3.out))) (Kd.R_lt (by (with_reducible repeat (first | apply Kd.R_alloc | apply Kd.R_drewN | apply Kd.R_drew)); exact HO_4.out))) (Kd.R_lt (by (with_reducible repeat (first | apply Kd.R_alloc | apply Kd.R_drewN | apply Kd.R_drew)); exact HO443.out))) (below_size (by repeat (first | (with_reducible first | exact HB.out | apply below_alloc | apply pw_below_drewN | apply below_drew1 | refine below_set ?_ GE427.out) | exact HB.out)))); have n4_ := Aside0.mk (blk_below (g := gb427) (o := .cells #[.string a0_0, .slice A0_1 l0_1.length c0_1, .string a0_2, .slice A0_3 l0_3.length c0_3, .slice A0_4 l0_4.length c0_4, .slice A0_5 l0_5.length c0_5] 26 (0, 0)) (by (with_reducible repeat (first | refine blk_drewN ?_ _ | refine blk_drew ?_ | refine blk_alloc ?_ _)); exact BK427.out) hb); have n5_ := Aside0.mk (below_step (by repeat (first | (with_reducible first | exact HB.out | apply below_alloc | apply pw_below_drewN | apply below_drew1 | refine below_set ?_ GE427.out) | exact HB.out)) hb); clear HO_3; clear HO_4; clear HO443; clear BK427; clear HB; have HO_3 := n0_; have HO_4 := n1_; have HO443 := n2_; have HO446 := n3_; have BK427 := n4_; have HB := n5_; clear n0_ n1_ n2_ n3_ n4_ n5_; clear hb ho54))
              repeat (go_quiet (first | (go_at_call 23; (with_reducible refine (truantref09_Order.calls k2 a0_0 _ _ l0_1 a0_2 _ _ l0_3 _ _ l0_4 _ _ l0_5 t441 _ ?side1 ?side2 ?side3 ?side4 ?side5 ?side6 ?side7 ?side8 A47.out).mono ?_); (case side1 => repeat (first | exact (Kd.C_below HR0_1.out HB.out) | (with_reducible refine Kd.C_alloc ?_ _) | (with_reducible refine Kd.C_drewN ?_ _) | (with_reducible refine Kd.C_drew ?_))); (case side2 => exact HC0_1.out); (case side3 => repeat (first | exact (Kd.C_below HR0_3.out HB.out) | (with_reducible refine Kd.C_alloc ?_ _) | (with_reducible refine Kd.C_drewN ?_ _) | (with_reducible refine Kd.C_drew ?_))); (case side4 => exact HC0_3.out); (case side5 => repeat (first | exact (Kd.C_below HR0_4.out HB.out) | (with_reducible refine Kd.C_alloc ?_ _) | (with_reducible refine Kd.C_drewN ?_ _) | (with_reducible refine Kd.C_drew ?_))); (case side6 => exact HC0_4.out); (case side7 => repeat (first | exact (Kd.C_below HR0_5.out HB.out) | (with_reducible refine Kd.C_alloc ?_ _) | (with_reducible refine Kd.C_drewN ?_ _) | (with_reducible refine Kd.C_drew ?_))); (case side8 => exact HC0_5.out); rintro e w51 ⟨v442, rfl, ho0, hb⟩; have n0_ := Aside0.mk (Kd.R_elder' (by (with_reducible repeat (first | apply Kd.R_alloc | apply Kd.R_drewN | apply Kd.R_drew)); exact HO_3.out) (Kd.R_base ho0) hb); have n1_ := Aside0.mk (Kd.R_elder' (by (with_reducible repeat (first | apply Kd.R_alloc | apply Kd.R_drewN | apply Kd.R_drew)); exact HO_4.out) (Kd.R_base ho0) hb); have n2_ := Aside0.mk (Kd.R_lower (Kd.R_new' (Kd.R_new' ho0 (Kd.R_lt (by (with_reducible repeat (first | apply Kd.R_alloc | apply Kd.R_drewN | apply Kd.R_drew)); exact HO_3.out))) (Kd.R_lt (by (with_reducible repeat (first | apply Kd.R_alloc | apply Kd.R_drewN | apply Kd.R_drew)); exact HO_4.out))) (below_size (by repeat (first | (with_reducible first | exact HB.out | apply below_alloc | apply pw_below_drewN | apply below_drew1 | refine below_set ?_ GE427.out) | exact HB.out)))); have n3_ := Aside0.mk (blk_below (g := gb427) (o := .cells #[.string a0_0, .slice A0_1 l0_1.length c0_1, .string a0_2, .slice A0_3 l0_3.length c0_3, .slice A0_4 l0_4.length c0_4, .slice A0_5 l0_5.length c0_5] 26 (0, 0)) (by (with_reducible repeat (first | refine blk_drewN ?_ _ | refine blk_drew ?_ | refine blk_alloc ?_ _)); exact BK427.out) hb); have n4_ := Aside0.mk (below_step (by repeat (first | (with_reducible first | exact HB.out | apply below_alloc | apply pw_below_drewN | apply below_drew1 | refine below_set ?_ GE427.out) | exact HB.out)) hb); clear HO_3; clear HO_4; clear BK427; clear HB; have HO_3 := n0_; have HO_4 := n1_; have HO443 := n2_; have BK427 := n3_; have HB := n4_; clear n0_ n1_ n2_ n3_ n4_; (try clear hb); (try clear hb2); (try clear hk); (try clear hi); (try clear ho0); have hcz52_0 : w51.cell? ⟨gb427, 0, none⟩ = some (.string a0_0) := (blk_cell BK427.out 0).trans rfl; have hcz52_1 : w51.cell? ⟨gb427, 1, none⟩ = some (.slice A0_1 l0_1.length c0_1) := (blk_cell BK427.out 1).trans rfl; have hcz52_2 : w51.cell? ⟨gb427, 2, none⟩ = some (.string a0_2) := (blk_cell BK427.out 2).trans rfl; have hcz52_3 : w51.cell? ⟨gb427, 3, none⟩ = some (.slice A0_3 l0_3.length c0_3) := (blk_cell BK427.out 3).trans rfl; have hcz52_4 : w51.cell? ⟨gb427, 4, none⟩ = some (.slice A0_4 l0_4.length c0_4) := (blk_cell BK427.out 4).trans rfl; have hcz52_5 : w51.cell? ⟨gb427, 5, none⟩ = some (.slice A0_5 l0_5.length c0_5) := (blk_cell BK427.out 5).trans rfl; have hfz52_0 := blk_frozen BK427.out 0; have hfz52_1 := blk_frozen BK427.out 1; have hfz52_2 := blk_frozen BK427.out 2; have hfz52_3 := blk_frozen BK427.out 3; have hfz52_4 := blk_frozen BK427.out 4; have hfz52_5 := blk_frozen BK427.out 5) | ((with_reducible refine gate_dst (N := 90) rfl ?_); (try (refine gate_guard (by rfl) ?_; dsimp only)); refine Kd.R_make (Kd.int .i64) _ 3 rfl (N := 90) rfl 34 _ _ rfl (l0_5.length : Int) rfl rfl Try.underlying34 (.int .i64 0) 8 info3 rfl (by decide) (by omega) 0 (ok := fun _ => True) (okp := fun _ => True) rfl (fun _ hk => hk) trivial (of_decide_eq_true (by first | (with_reducible assumption) | assumption)) (Nat.le_trans (Nat.mul_le_mul_right _ (of_decide_eq_true (by first | (with_reducible assumption) | assumption) : (l0_5.length : Int).toNat ≤ 35184372088832)) (by omega)) (Below.refl _ _) (Nat.le_refl _) ?_; intro v445 w53 ho54 hb hg_ hnew_; clear hg_ hnew_; (first | rw [← Ny444.out] at ho54 | (simp only [Int.reduceToNat] at ho54; rw [← Ny444.out] at ho54)); have n0_ := Aside0.mk (Kd.R_elder' (by (with_reducible repeat (first | apply Kd.R_alloc | apply Kd.R_drewN | apply Kd.R_drew)); exact HO_3.out) (Kd.R_base ho54) hb); have n1_ := Aside0.mk (Kd.R_elder' (by (with_reducible repeat (first | apply Kd.R_alloc | apply Kd.R_drewN | apply Kd.R_drew)); exact HO_4.out) (Kd.R_base ho54) hb); have n2_ := Aside0.mk (Kd.R_elder' (by (with_reducible repeat (first | apply Kd.R_alloc | apply Kd.R_drewN | apply Kd.R_drew)); exact HO443.out) (Kd.R_base ho54) hb); have n3_ := Aside0.mk (Kd.R_lower (Kd.R_new' (Kd.R_new' (Kd.R_new' ho54 (Kd.R_lt (by (with_reducible repeat (first | apply Kd.R_alloc | apply Kd.R_drewN | apply Kd.R_drew)); exact HO_3.out))) (Kd.R_lt (by (with_reducible repeat (first | apply Kd.R_alloc | apply Kd.R_drewN | apply Kd.R_drew)); exact HO_4.out))) (Kd.R_lt (by (with_reducible repeat (first | apply Kd.R_alloc | apply Kd.R_drewN | apply Kd.R_drew)); exact HO443.out))) (below_size (by repeat (first | (with_reducible first | exact HB.out | apply below_alloc | apply pw_below_drewN | apply below_drew1 | refine below_set ?_ GE427.out) | exact HB.out)))); have n4_ := Aside0.mk (blk_below (g := gb427) (o := .cells #[.string a0_0, .slice A0_1 l0_1.length c0_1, .string a0_2, .slice A0_3 l0_3.length c0_3, .slice A0_4 l0_4.length c0_4, .slice A0_5 l0_5.length c0_5] 26 (0, 0)) (by (with_reducible repeat (first | refine blk_drewN ?_ _ | refine blk_drew ?_ | refine blk_alloc ?_ _)); exact BK427.out) hb); have n5_ := Aside0.mk (below_step (by repeat (first | (with_reducible first | exact HB.out | apply below_alloc | apply pw_below_drewN | apply below_drew1 | refine below_set ?_ GE427.out) | exact HB.out)) hb); clear HO_3; clear HO_4; clear HO443; clear BK427; clear HB; have HO_3 := n0_; have HO_4 := n1_; have HO443 := n2_; have HO446 := n3_; have BK427 := n4_; have HB := n5_; clear n0_ n1_ n2_ n3_ n4_ n5_; clear hb ho54)); try go_wp2_with (first | (go_at_call 23; (with_reducible refine (truantref09_Order.calls k2 a0_0 _ _ l0_1 a0_2 _ _ l0_3 _ _ l0_4 _ _ l0_5 t441 _ ?side1 ?side2 ?side3 ?side4 ?side5 ?side6 ?side7 ?side8 A47.out).mono ?_); (case side1 => repeat (first | exact (Kd.C_below HR0_1.out HB.out) | (with_reducible refine Kd.C_alloc ?_ _) | (with_reducible refine Kd.C_drewN ?_ _) | (with_reducible refine Kd.C_drew ?_))); (case side2 => exact HC0_1.out); (case side3 => repeat (first | exact (Kd.C_below HR0_3.out HB.out) | (with_reducible refine Kd.C_alloc ?_ _) | (with_reducible refine Kd.C_drewN ?_ _) | (with_reducible refine Kd.C_drew ?_))); (case side4 => exact HC0_3.out); (case side5 => repeat (first | exact (Kd.C_below HR0_4.out HB.out) | (with_reducible refine Kd.C_alloc ?_ _) | (with_reducible refine Kd.C_drewN ?_ _) | (with_reducible refine Kd.C_drew ?_))); (case side6 => exact HC0_4.out); (case side7 => repeat (first | exact (Kd.C_below HR0_5.out HB.out) | (with_reducible refine Kd.C_alloc ?_ _) | (with_reducible refine Kd.C_drewN ?_ _) | (with_reducible refine Kd.C_drew ?_))); (case side8 => exact HC0_5.out); rintro e w51 ⟨v442, rfl, ho0, hb⟩; have n0_ := Aside0.mk (Kd.R_elder' (by (with_reducible repeat (first | apply Kd.R_alloc | apply Kd.R_drewN | apply Kd.R_drew)); exact HO_3.out) (Kd.R_base ho0) hb); have n1_ := Aside0.mk (Kd.R_elder' (by (with_reducible repeat (first | apply Kd.R_alloc | apply Kd.R_drewN | apply Kd.R_drew)); exact HO_4.out) (Kd.R_base ho0) hb); have n2_ := Aside0.mk (Kd.R_lower (Kd.R_new' (Kd.R_new' ho0 (Kd.R_lt (by (with_reducible repeat (first | apply Kd.R_alloc | apply Kd.R_drewN | apply Kd.R_drew)); exact HO_3.out))) (Kd.R_lt (by (with_reducible repeat (first | apply Kd.R_alloc | apply Kd.R_drewN | apply Kd.R_drew)); exact HO_4.out))) (below_size (by repeat (first | (with_reducible first | exact HB.out | apply below_alloc | apply pw_below_drewN | apply below_drew1 | refine below_set ?_ GE427.out) | exact HB.out)))); have n3_ := Aside0.mk (blk_below (g := gb427) (o := .cells #[.string a0_0, .slice A0_1 l0_1.length c0_1, .string a0_2, .slice A0_3 l0_3.length c0_3, .slice A0_4 l0_4.length c0_4, .slice A0_5 l0_5.length c0_5] 26 (0, 0)) (by (with_reducible repeat (first | refine blk_drewN ?_ _ | refine blk_drew ?_ | refine blk_alloc ?_ _)); exact BK427.out) hb); have n4_ := Aside0.mk (below_step (by repeat (first | (with_reducible first | exact HB.out | apply below_alloc | apply pw_below_drewN | apply below_drew1 | refine below_set ?_ GE427.out) | exact HB.out)) hb); clear HO_3; clear HO_4; clear BK427; clear HB; have HO_3 := n0_; have HO_4 := n1_; have HO443 := n2_; have BK427 := n3_; have HB := n4_; clear n0_ n1_ n2_ n3_ n4_; (try clear hb); (try clear hb2); (try clear hk); (try clear hi); (try clear ho0); have hcz52_0 : w51.cell? ⟨gb427, 0, none⟩ = some (.string a0_0) := (blk_cell BK427.out 0).trans rfl; have hcz52_1 : w51.cell? ⟨gb427, 1, none⟩ = some (.slice A0_1 l0_1.length c0_1) := (blk_cell BK427.out 1).trans rfl; have hcz52_2 : w51.cell? ⟨gb427, 2, none⟩ = some (.string a0_2) := (blk_cell BK427.out 2).trans rfl; have hcz52_3 : w51.cell? ⟨gb427, 3, none⟩ = some (.slice A0_3 l0_3.length c0_3) := (blk_cell BK427.out 3).trans rfl; have hcz52_4 : w51.cell? ⟨gb427, 4, none⟩ = some (.slice A0_4 l0_4.length c0_4) := (blk_cell BK427.out 4).trans rfl; have hcz52_5 : w51.cell? ⟨gb427, 5, none⟩ = some (.slice A0_5 l0_5.length c0_5) := (blk_cell BK427.out 5).trans rfl; have hfz52_0 := blk_frozen BK427.out 0; have hfz52_1 := blk_frozen BK427.out 1; have hfz52_2 := blk_frozen BK427.out 2; have hfz52_3 := blk_frozen BK427.out 3; have hfz52_4 := blk_frozen BK427.out 4; have hfz52_5 := blk_frozen BK427.out 5) | ((with_reducible refine gate_dst (N := 90) rfl ?_); (try (refine gate_guard (by rfl) ?_; dsimp only)); refine Kd.R_make (Kd.int .i64) _ 3 rfl (N := 90) rfl 34 _ _ rfl (l0_5.length : Int) rfl rfl Try.underlying34 (.int .i64 0) 8 info3 rfl (by decide) (by omega) 0 (ok := fun _ => True) (okp := fun _ => True) rfl (fun _ hk => hk) trivial (of_decide_eq_true (by first | (with_reducible assumption) | assumption)) (Nat.le_trans (Nat.mul_le_mul_right _ (of_decide_eq_true (by first | (with_reducible assumption) | assumption) : (l0_5.length : Int).toNat ≤ 35184372088832)) (by omega)) (Below.refl _ _) (Nat.le_refl _) ?_; intro v445 w53 ho54 hb hg_ hnew_; clear hg_ hnew_; (first | rw [← Ny444.out] at ho54 | (simp only [Int.reduceToNat] at ho54; rw [← Ny444.out] at ho54)); have n0_ := Aside0.mk (Kd.R_elder' (by (with_reducible repeat (first | apply Kd.R_alloc | apply Kd.R_drewN | apply Kd.R_drew)); exact HO_3.out) (Kd.R_base ho54) hb); have n1_ := Aside0.mk (Kd.R_elder' (by (with_reducible repeat (first | apply Kd.R_alloc | apply Kd.R_drewN | apply Kd.R_drew)); exact HO_4.out) (Kd.R_base ho54) hb); have n2_ := Aside0.mk (Kd.R_elder' (by (with_reducible repeat (first | apply Kd.R_alloc | apply Kd.R_drewN | apply Kd.R_drew)); exact HO443.out) (Kd.R_base ho54) hb); have n3_ := Aside0.mk (Kd.R_lower (Kd.R_new' (Kd.R_new' (Kd.R_new' ho54 (Kd.R_lt (by (with_reducible repeat (first | apply Kd.R_alloc | apply Kd.R_drewN | apply Kd.R_drew)); exact HO_3.out))) (Kd.R_lt (by (with_reducible repeat (first | apply Kd.R_alloc | apply Kd.R_drewN | apply Kd.R_drew)); exact HO_4.out))) (Kd.R_lt (by (with_reducible repeat (first | apply Kd.R_alloc | apply Kd.R_drewN | apply Kd.R_drew)); exact HO443.out))) (below_size (by repeat (first | (with_reducible first | exact HB.out | apply below_alloc | apply pw_below_drewN | apply below_drew1 | refine below_set ?_ GE427.out) | exact HB.out)))); have n4_ := Aside0.mk (blk_below (g := gb427) (o := .cells #[.string a0_0, .slice A0_1 l0_1.length c0_1, .string a0_2, .slice A0_3 l0_3.length c0_3, .slice A0_4 l0_4.length c0_4, .slice A0_5 l0_5.length c0_5] 26 (0, 0)) (by (with_reducible repeat (first | refine blk_drewN ?_ _ | refine blk_drew ?_ | refine blk_alloc ?_ _)); exact BK427.out) hb); have n5_ := Aside0.mk (below_step (by repeat (first | (with_reducible first | exact HB.out | apply below_alloc | apply pw_below_drewN | apply below_drew1 | refine below_set ?_ GE427.out) | exact HB.out)) hb); clear HO_3; clear HO_4; clear HO443; clear BK427; clear HB; have HO_3 := n0_; have HO_4 := n1_; have HO443 := n2_; have HO446 := n3_; have BK427 := n4_; have HB := n5_; clear n0_ n1_ n2_ n3_ n4_ n5_; clear hb ho54)))
              go_loopg [11] k2 (fun kq v11 w' => ∃ (x10_3 : List Int) (x11_3 : Int), v11 = .int .i64 x11_3 ∧ Aside0 (truantlaw09_FlowWhere.l3 kq t430 x4_2 t441 x10_3 x11_3 a0_0 l0_1 a0_2 l0_3 l0_4 l0_5 = some r) ∧ Aside0 (kq ≤ k2) ∧ Aside0 (Kd.R (Kd.int .i64) 3 w' w.heap.size (fun k_ => some k_ ≠ ((.slice Ao30 x4_2.length co30) : Value).ownBlock ∧ some k_ ≠ (v442 : Value).ownBlock ∧ some k_ ≠ (v445 : Value).ownBlock) (.slice Ao20 t430.length co20) t430) ∧ Aside0 (Kd.R (Kd.int .i64) 3 w' w.heap.size (fun k_ => some k_ ≠ ((.slice Ao20 t430.length co20) : Value).ownBlock ∧ some k_ ≠ (v442 : Value).ownBlock ∧ some k_ ≠ (v445 : Value).ownBlock) (.slice Ao30 x4_2.length co30) x4_2) ∧ Aside0 (Kd.R (Kd.int .i64) 3 w' w.heap.size (fun k_ => some k_ ≠ ((.slice Ao20 t430.length co20) : Value).ownBlock ∧ some k_ ≠ ((.slice Ao30 x4_2.length co30) : Value).ownBlock ∧ some k_ ≠ (v445 : Value).ownBlock) v442 t441) ∧ Aside0 (Kd.R (Kd.int .i64) 3 w' w.heap.size (fun k_ => some k_ ≠ ((.slice Ao20 t430.length co20) : Value).ownBlock ∧ some k_ ≠ ((.slice Ao30 x4_2.length co30) : Value).ownBlock ∧ some k_ ≠ (v442 : Value).ownBlock) v445 x10_3) ∧ Aside0 (w'.heap[gb427]? = some (.cells #[.string a0_0, (.slice A0_1 l0_1.length c0_1), .string a0_2, (.slice A0_3 l0_3.length c0_3), (.slice A0_4 l0_4.length c0_4), (.slice A0_5 l0_5.length c0_5)] 26 (0, 0))) ∧ Aside0 (Below w.heap.size w w'))
              case atStart => exact ⟨(y444), (0), (by first | rfl | (simp; done) | (simp [*]; done)), H', ⟨Nat.le_refl _⟩, ⟨by (try simp only [hl4_2]); (with_reducible repeat (first | apply Kd.R_alloc | apply Kd.R_drewN | apply Kd.R_drew)); exact Kd.R_mono HO_3.out (fun _ hk => ⟨hk.1.1, ⟨hk.1.2, hk.2⟩⟩)⟩, ⟨by (try simp only [hl4_2]); (with_reducible repeat (first | apply Kd.R_alloc | apply Kd.R_drewN | apply Kd.R_drew)); exact Kd.R_mono HO_4.out (fun _ hk => ⟨hk.1.1, ⟨hk.1.2, hk.2⟩⟩)⟩, ⟨by (try simp only [hl4_2]); (with_reducible repeat (first | apply Kd.R_alloc | apply Kd.R_drewN | apply Kd.R_drew)); exact Kd.R_mono HO443.out (fun _ hk => ⟨hk.1.1.2, ⟨hk.1.2, hk.2⟩⟩)⟩, ⟨by (try simp only [hl4_2]); (with_reducible repeat (first | apply Kd.R_alloc | apply Kd.R_drewN | apply Kd.R_drew)); exact Kd.R_mono HO446.out (fun _ hk => ⟨hk.1.1.2, ⟨hk.1.2, hk.2⟩⟩)⟩, ⟨by (try simp only [hl4_2]); (with_reducible repeat (first | refine blk_drewN ?_ _ | refine blk_drew ?_ | refine blk_alloc ?_ _)); exact BK427.out⟩, ⟨by repeat (first | (with_reducible first | exact HB.out | apply below_alloc | apply pw_below_drewN | apply below_drew1 | refine below_set ?_ GE427.out) | exact HB.out)⟩⟩
              case round =>
               clear H'
               try clear c1
               try clear c2
               try clear p2
               try clear q2
               try clear hx2
               try clear hf2
               try clear c3
               try clear c4
               try clear p4
               try clear q4
               try clear hx4
               try clear hf4
               try clear c5
               try clear p6
               try clear c11
               try clear c11b0
               try clear c11b1
               try clear c11b2
               try clear c12
               try clear c12b0
               try clear c12b1
               try clear c13
               try clear c13b0
               try clear c13b1
               try clear c24
               try clear c24b0
               try clear c25
               try clear c25b0
               try clear p26
               try clear q26
               try clear hx26
               try clear hf26
               try clear c32
               try clear c32b0
               try clear c33
               try clear c33b0
               try clear c34
               try clear c34b0
               try clear c35
               try clear c35b0
               try clear c36
               try clear c36b0
               try clear c37
               try clear c37b0
               try clear c38
               try clear c38b0
               try clear c39
               try clear c39b0
               try clear p40
               try clear q40
               try clear hx40
               try clear hf40
               try clear c43
               try clear p43
               try clear q43
               try clear hx43
               try clear c48
               try clear c48b0
               try clear c48b1
               try clear c49
               try clear c49b0
               try clear c49b1
               try clear hcz16_0
               try clear hcz16_1
               try clear hcz16_2
               try clear hcz16_3
               try clear hcz16_4
               try clear hcz16_5
               try clear hcz18_0
               try clear hcz18_1
               try clear hcz18_2
               try clear hcz18_3
               try clear hcz18_4
               try clear hcz18_5
               try clear hcz21_0
               try clear hcz21_1
               try clear hcz21_2
               try clear hcz21_3
               try clear hcz21_4
               try clear hcz21_5
               try clear hcz31_0
               try clear hcz31_1
               try clear hcz31_2
               try clear hcz31_3
               try clear hcz31_4
               try clear hcz31_5
               try clear hcz41_0
               try clear hcz41_1
               try clear hcz41_2
               try clear hcz41_3
               try clear hcz41_4
               try clear hcz41_5
               try clear hcz44_0
               try clear hcz44_1
               try clear hcz44_2
               try clear hcz44_3
               try clear hcz44_4
               try clear hcz44_5
               try clear hcz45_0
               try clear hcz45_1
               try clear hcz45_2
               try clear hcz45_3
               try clear hcz45_4
               try clear hcz45_5
               try clear hcz46_0
               try clear hcz46_1
               try clear hcz46_2
               try clear hcz46_3
               try clear hcz46_4
               try clear hcz46_5
               try clear hcz50_0
               try clear hcz50_1
               try clear hcz50_2
               try clear hcz50_3
               try clear hcz50_4
               try clear hcz50_5
               try clear hcz52_0
               try clear hcz52_1
               try clear hcz52_2
               try clear hcz52_3
               try clear hcz52_4
               try clear hcz52_5
               try clear hcz8_0
               try clear hcz8_1
               try clear hcz8_2
               try clear hcz8_3
               try clear hcz8_4
               try clear hcz8_5
               try clear hfz16_0
               try clear hfz16_1
               try clear hfz16_2
               try clear hfz16_3
               try clear hfz16_4
               try clear hfz16_5
               try clear hfz18_0
               try clear hfz18_1
               try clear hfz18_2
               try clear hfz18_3
               try clear hfz18_4
               try clear hfz18_5
               try clear hfz21_0
               try clear hfz21_1
               try clear hfz21_2
               try clear hfz21_3
               try clear hfz21_4
               try clear hfz21_5
               try clear hfz31_0
               try clear hfz31_1
               try clear hfz31_2
               try clear hfz31_3
               try clear hfz31_4
               try clear hfz31_5
               try clear hfz41_0
               try clear hfz41_1
               try clear hfz41_2
               try clear hfz41_3
               try clear hfz41_4
               try clear hfz41_5
               try clear hfz44_0
               try clear hfz44_1
               try clear hfz44_2
               try clear hfz44_3
               try clear hfz44_4
               try clear hfz44_5
               try clear hfz45_0
               try clear hfz45_1
               try clear hfz45_2
               try clear hfz45_3
               try clear hfz45_4
               try clear hfz45_5
               try clear hfz46_0
               try clear hfz46_1
               try clear hfz46_2
               try clear hfz46_3
               try clear hfz46_4
               try clear hfz46_5
               try clear hfz50_0
               try clear hfz50_1
               try clear hfz50_2
               try clear hfz50_3
               try clear hfz50_4
               try clear hfz50_5
               try clear hfz52_0
               try clear hfz52_1
               try clear hfz52_2
               try clear hfz52_3
               try clear hfz52_4
               try clear hfz52_5
               try clear hfz8_0
               try clear hfz8_1
               try clear hfz8_2
               try clear hfz8_3
               try clear hfz8_4
               try clear hfz8_5
               try clear hx26_0
               try clear hx40_0
               try clear hx437_0
               try clear hx437_1
               try clear hx437_2
               try clear hx437_3
               try clear hx437_4
               try clear hx438_0
               try clear hx438_1
               try clear hx438_2
               try clear hx438_3
               try clear hx438_4
               try clear hx439_0
               try clear p2
               try clear p26
               try clear p40
               try clear p437
               try clear p438
               try clear p439
               try clear p6
               try clear q2
               try clear q26
               try clear q40
               try clear q437
               try clear q438
               try clear q439
               obtain ⟨x10_3, x11_3, rfl, HA, HK3, HO_3, HO_4, HO_9, HO_10, BK427, HB⟩ := hrel
               cases gk with
               | zero => exact absurd HA.out (by simp [truantlaw09_FlowWhere.l3])
               | succ k3 =>
                have H := HA.out
                clear HA
                simp only [truantlaw09_FlowWhere.l3] at H
                by_cases c55 : x11_3 < (x10_3.length : Int)
                ·rw [if_pos c55] at H
                 have c55b0 : decide (x11_3 < (x10_3.length : Int)) = true := decide_eq_true c55
                 clear c55
                 by_cases c56 : 0 ≤ x11_3
                 ·rw [if_pos c56] at H
                  have c56b0 : decide (0 ≤ x11_3) = true := decide_eq_true c56
                  clear c56
                  obtain ⟨y447, hy447⟩ : ∃ y_ : List Int, y_ = (x10_3.set (x11_3 : Int).toNat (-1)) := ⟨_, rfl⟩
                  replace H : (truantlaw09_FlowWhere.l3 k3 t430 x4_2 t441 y447 (wrap64 (x11_3 + 1)) a0_0 l0_1 a0_2 l0_3 l0_4 l0_5) = some r := by first | (rw [hy447]; with_reducible exact H) | (have H2_ := (Option.bind_some _ _).symm.trans H; rw [hy447]; with_reducible exact H2_) | (have H2_ := (Option.bind_some _ _).symm.trans H; with_reducible exact H2_) | with_reducible exact H | (rw [hy447]; exact H) | exact H
                  have Ny447 := Aside0.mk hy447
                  clear hy447
                  have H' := Aside0.mk H
                  clear H
                  obtain ⟨Ao58, co58, eo58⟩ := Kd.R_slice HO_10.out
                  subst eo58
                  have p57 : 0 ≤ (x11_3 : Int) := of_decide_eq_true (by first | (with_reducible assumption) | assumption)
                  have q57 : (x11_3 : Int) < ((x10_3.length : Int) : Int) := of_decide_eq_true (by first | (with_reducible assumption) | assumption)
                  obtain ⟨go57, co57, eo57, gb57, gl57, cl57, HG57⟩ := Kd.R_form HO_10.out (by omega)
                  (first | cases eo57 | (injection eo57 with ea_ en_ ec_; (first | subst ea_ | (injection ea_ with ea_; subst ea_)); subst ec_; clear en_))
                  have GB57 := Aside0.mk gb57
                  have GG57 := Aside0.mk HG57
                  clear gb57 gl57 HG57
                  obtain ⟨hx57_0, hf57_0⟩ := Kd.R_celln 0 HO_10.out (x11_3 : Int) p57 q57
                  replace p57 := eq_true p57
                  replace q57 := eq_true q57
                  have HP59 := Kd.R_putg HO_10.out (x11_3 : Int) (-1)
                  go_wp2_with (first | ((with_reducible refine gate_store (t := 3) (p := 99) rfl ?_); (try (rw [drewN_self wr]; generalize hq_ : World.drewN wr _ = wr; have n0_ := Aside0.mk (Kd.R_at hq_ HO_3.out); have n1_ := Aside0.mk (Kd.R_at hq_ HO_4.out); have n2_ := Aside0.mk (Kd.R_at hq_ HO_9.out); have n3_ := Aside0.mk (Kd.R_at hq_ HO_10.out); have n4_ := Aside0.mk (blk_at hq_ BK427.out); have n5_ := Aside0.mk (below_at hq_ HB.out); clear hq_ HO_3 HO_4 HO_9 HO_10 BK427 HB; have HO_3 := n0_; have HO_4 := n1_; have HO_9 := n2_; have HO_10 := n3_; have BK427 := n4_; have HB := n5_; clear n0_ n1_ n2_ n3_ n4_ n5_; (try (have HP59 := Kd.R_putg HO_10.out (x11_3 : Int) (-1))))); refine store_event (t := 3) (p := 99) (v := ?vo_w60) (w1 := (wr.setCell ⟨go57, (x11_3 : Int).toNat, none⟩ (.int .i64 (-1)))) ?hg ?ho ?hn ?hr ?_; (case ho => rfl); (case hg => rfl); (case hn => rfl); (case hr => first | (go_simp; done) | (go_simp; rfl)); intro w60 hw; have hg : wr.grownBy w60 (some go57) := (by rw [hw]; exact HP59.2); have hp_ : Kd.R (Kd.int .i64) 3 w60 w.heap.size (fun k_ => some k_ ≠ (.slice Ao20 t430.length co20 : Value).ownBlock ∧ some k_ ≠ (.slice Ao30 x4_2.length co30 : Value).ownBlock ∧ some k_ ≠ (v442 : Value).ownBlock) (.slice (some ⟨go57, 0, none⟩) x10_3.length co58) y447 := (by rw [hw, Ny447.out]; exact HP59.1); clear HP59; have n0_ := Aside0.mk (Kd.R_after (v := (.slice (some ⟨go57, 0, none⟩) x10_3.length co58)) (v1 := (.slice (some ⟨go57, 0, none⟩) x10_3.length co58)) (ok := (fun k_ => some k_ ≠ (.slice Ao30 x4_2.length co30 : Value).ownBlock ∧ some k_ ≠ (v442 : Value).ownBlock)) (by (with_reducible repeat (first | apply Kd.R_alloc | apply Kd.R_drewN | apply Kd.R_drew)); exact Kd.R_mono HO_3.out (fun _ hk => ⟨⟨hk.1, hk.2.1⟩, hk.2.2⟩)) hg (.inl rfl)); have n1_ := Aside0.mk (Kd.R_after (v := (.slice (some ⟨go57, 0, none⟩) x10_3.length co58)) (v1 := (.slice (some ⟨go57, 0, none⟩) x10_3.length co58)) (ok := (fun k_ => some k_ ≠ (.slice Ao20 t430.length co20 : Value).ownBlock ∧ some k_ ≠ (v442 : Value).ownBlock)) (by (with_reducible repeat (first | apply Kd.R_alloc | apply Kd.R_drewN | apply Kd.R_drew)); exact Kd.R_mono HO_4.out (fun _ hk => ⟨⟨hk.1, hk.2.1⟩, hk.2.2⟩)) hg (.inl rfl)); have n2_ := Aside0.mk (Kd.R_after (v := (.slice (some ⟨go57, 0, none⟩) x10_3.length co58)) (v1 := (.slice (some ⟨go57, 0, none⟩) x10_3.length co58)) (ok := (fun k_ => some k_ ≠ (.slice Ao20 t430.length co20 : Value).ownBlock ∧ some k_ ≠ (.slice Ao30 x4_2.length co30 : Value).ownBlock)) (by (with_reducible repeat (first | apply Kd.R_alloc | apply Kd.R_drewN | apply Kd.R_drew)); exact Kd.R_mono HO_9.out (fun _ hk => ⟨⟨hk.1, hk.2.1⟩, hk.2.2⟩)) hg (.inl rfl)); have n3_ := Aside0.mk (hp_); have n4_ := Aside0.mk (blk_grown (g := gb427) (o := .cells #[.string a0_0, .slice A0_1 l0_1.length c0_1, .string a0_2, .slice A0_3 l0_3.length c0_3, .slice A0_4 l0_4.length c0_4, .slice A0_5 l0_5.length c0_5] 26 (0, 0)) (by (with_reducible repeat (first | refine blk_drewN ?_ _ | refine blk_drew ?_ | refine blk_alloc ?_ _)); exact BK427.out) hg (Kd.R_ne HO_10.out BK427.out (by decide))); have n5_ := Aside0.mk ((by rw [hw]; exact below_set (HB.out) GB57.out : Below w.heap.size w w60)); clear HO_3; clear HO_4; clear HO_9; clear HO_10; clear BK427; clear HB; have HO_3 := n0_; have HO_4 := n1_; have HO_9 := n2_; have HO_10 := n3_; have BK427 := n4_; have HB := n5_; clear n0_ n1_ n2_ n3_ n4_ n5_; clear hg hw hp_))
                  repeat (go_quiet (first | ((with_reducible refine gate_store (t := 3) (p := 99) rfl ?_); (try (rw [drewN_self wr]; generalize hq_ : World.drewN wr _ = wr; have n0_ := Aside0.mk (Kd.R_at hq_ HO_3.out); have n1_ := Aside0.mk (Kd.R_at hq_ HO_4.out); have n2_ := Aside0.mk (Kd.R_at hq_ HO_9.out); have n3_ := Aside0.mk (Kd.R_at hq_ HO_10.out); have n4_ := Aside0.mk (blk_at hq_ BK427.out); have n5_ := Aside0.mk (below_at hq_ HB.out); clear hq_ HO_3 HO_4 HO_9 HO_10 BK427 HB; have HO_3 := n0_; have HO_4 := n1_; have HO_9 := n2_; have HO_10 := n3_; have BK427 := n4_; have HB := n5_; clear n0_ n1_ n2_ n3_ n4_ n5_; (try (have HP59 := Kd.R_putg HO_10.out (x11_3 : Int) (-1))))); refine store_event (t := 3) (p := 99) (v := ?vo_w60) (w1 := (wr.setCell ⟨go57, (x11_3 : Int).toNat, none⟩ (.int .i64 (-1)))) ?hg ?ho ?hn ?hr ?_; (case ho => rfl); (case hg => rfl); (case hn => rfl); (case hr => first | (go_simp; done) | (go_simp; rfl)); intro w60 hw; have hg : wr.grownBy w60 (some go57) := (by rw [hw]; exact HP59.2); have hp_ : Kd.R (Kd.int .i64) 3 w60 w.heap.size (fun k_ => some k_ ≠ (.slice Ao20 t430.length co20 : Value).ownBlock ∧ some k_ ≠ (.slice Ao30 x4_2.length co30 : Value).ownBlock ∧ some k_ ≠ (v442 : Value).ownBlock) (.slice (some ⟨go57, 0, none⟩) x10_3.length co58) y447 := (by rw [hw, Ny447.out]; exact HP59.1); clear HP59; have n0_ := Aside0.mk (Kd.R_after (v := (.slice (some ⟨go57, 0, none⟩) x10_3.length co58)) (v1 := (.slice (some ⟨go57, 0, none⟩) x10_3.length co58)) (ok := (fun k_ => some k_ ≠ (.slice Ao30 x4_2.length co30 : Value).ownBlock ∧ some k_ ≠ (v442 : Value).ownBlock)) (by (with_reducible repeat (first | apply Kd.R_alloc | apply Kd.R_drewN | apply Kd.R_drew)); exact Kd.R_mono HO_3.out (fun _ hk => ⟨⟨hk.1, hk.2.1⟩, hk.2.2⟩)) hg (.inl rfl)); have n1_ := Aside0.mk (Kd.R_after (v := (.slice (some ⟨go57, 0, none⟩) x10_3.length co58)) (v1 := (.slice (some ⟨go57, 0, none⟩) x10_3.length co58)) (ok := (fun k_ => some k_ ≠ (.slice Ao20 t430.length co20 : Value).ownBlock ∧ some k_ ≠ (v442 : Value).ownBlock)) (by (with_reducible repeat (first | apply Kd.R_alloc | apply Kd.R_drewN | apply Kd.R_drew)); exact Kd.R_mono HO_4.out (fun _ hk => ⟨⟨hk.1, hk.2.1⟩, hk.2.2⟩)) hg (.inl rfl)); have n2_ := Aside0.mk (Kd.R_after (v := (.slice (some ⟨go57, 0, none⟩) x10_3.length co58)) (v1 := (.slice (some ⟨go57, 0, none⟩) x10_3.length co58)) (ok := (fun k_ => some k_ ≠ (.slice Ao20 t430.length co20 : Value).ownBlock ∧ some k_ ≠ (.slice Ao30 x4_2.length co30 : Value).ownBlock)) (by (with_reducible repeat (first | apply Kd.R_alloc | apply Kd.R_drewN | apply Kd.R_drew)); exact Kd.R_mono HO_9.out (fun _ hk => ⟨⟨hk.1, hk.2.1⟩, hk.2.2⟩)) hg (.inl rfl)); have n3_ := Aside0.mk (hp_); have n4_ := Aside0.mk (blk_grown (g := gb427) (o := .cells #[.string a0_0, .slice A0_1 l0_1.length c0_1, .string a0_2, .slice A0_3 l0_3.length c0_3, .slice A0_4 l0_4.length c0_4, .slice A0_5 l0_5.length c0_5] 26 (0, 0)) (by (with_reducible repeat (first | refine blk_drewN ?_ _ | refine blk_drew ?_ | refine blk_alloc ?_ _)); exact BK427.out) hg (Kd.R_ne HO_10.out BK427.out (by decide))); have n5_ := Aside0.mk ((by rw [hw]; exact below_set (HB.out) GB57.out : Below w.heap.size w w60)); clear HO_3; clear HO_4; clear HO_9; clear HO_10; clear BK427; clear HB; have HO_3 := n0_; have HO_4 := n1_; have HO_9 := n2_; have HO_10 := n3_; have BK427 := n4_; have HB := n5_; clear n0_ n1_ n2_ n3_ n4_ n5_; clear hg hw hp_)); try go_wp2_with (first | ((with_reducible refine gate_store (t := 3) (p := 99) rfl ?_); (try (rw [drewN_self wr]; generalize hq_ : World.drewN wr _ = wr; have n0_ := Aside0.mk (Kd.R_at hq_ HO_3.out); have n1_ := Aside0.mk (Kd.R_at hq_ HO_4.out); have n2_ := Aside0.mk (Kd.R_at hq_ HO_9.out); have n3_ := Aside0.mk (Kd.R_at hq_ HO_10.out); have n4_ := Aside0.mk (blk_at hq_ BK427.out); have n5_ := Aside0.mk (below_at hq_ HB.out); clear hq_ HO_3 HO_4 HO_9 HO_10 BK427 HB; have HO_3 := n0_; have HO_4 := n1_; have HO_9 := n2_; have HO_10 := n3_; have BK427 := n4_; have HB := n5_; clear n0_ n1_ n2_ n3_ n4_ n5_; (try (have HP59 := Kd.R_putg HO_10.out (x11_3 : Int) (-1))))); refine store_event (t := 3) (p := 99) (v := ?vo_w60) (w1 := (wr.setCell ⟨go57, (x11_3 : Int).toNat, none⟩ (.int .i64 (-1)))) ?hg ?ho ?hn ?hr ?_; (case ho => rfl); (case hg => rfl); (case hn => rfl); (case hr => first | (go_simp; done) | (go_simp; rfl)); intro w60 hw; have hg : wr.grownBy w60 (some go57) := (by rw [hw]; exact HP59.2); have hp_ : Kd.R (Kd.int .i64) 3 w60 w.heap.size (fun k_ => some k_ ≠ (.slice Ao20 t430.length co20 : Value).ownBlock ∧ some k_ ≠ (.slice Ao30 x4_2.length co30 : Value).ownBlock ∧ some k_ ≠ (v442 : Value).ownBlock) (.slice (some ⟨go57, 0, none⟩) x10_3.length co58) y447 := (by rw [hw, Ny447.out]; exact HP59.1); clear HP59; have n0_ := Aside0.mk (Kd.R_after (v := (.slice (some ⟨go57, 0, none⟩) x10_3.length co58)) (v1 := (.slice (some ⟨go57, 0, none⟩) x10_3.length co58)) (ok := (fun k_ => some k_ ≠ (.slice Ao30 x4_2.length co30 : Value).ownBlock ∧ some k_ ≠ (v442 : Value).ownBlock)) (by (with_reducible repeat (first | apply Kd.R_alloc | apply Kd.R_drewN | apply Kd.R_drew)); exact Kd.R_mono HO_3.out (fun _ hk => ⟨⟨hk.1, hk.2.1⟩, hk.2.2⟩)) hg (.inl rfl)); have n1_ := Aside0.mk (Kd.R_after (v := (.slice (some ⟨go57, 0, none⟩) x10_3.length co58)) (v1 := (.slice (some ⟨go57, 0, none⟩) x10_3.length co58)) (ok := (fun k_ => some k_ ≠ (.slice Ao20 t430.length co20 : Value).ownBlock ∧ some k_ ≠ (v442 : Value).ownBlock)) (by (with_reducible repeat (first | apply Kd.R_alloc | apply Kd.R_drewN | apply Kd.R_drew)); exact Kd.R_mono HO_4.out (fun _ hk => ⟨⟨hk.1, hk.2.1⟩, hk.2.2⟩)) hg (.inl rfl)); have n2_ := Aside0.mk (Kd.R_after (v := (.slice (some ⟨go57, 0, none⟩) x10_3.length co58)) (v1 := (.slice (some ⟨go57, 0, none⟩) x10_3.length co58)) (ok := (fun k_ => some k_ ≠ (.slice Ao20 t430.length co20 : Value).ownBlock ∧ some k_ ≠ (.slice Ao30 x4_2.length co30 : Value).ownBlock)) (by (with_reducible repeat (first | apply Kd.R_alloc | apply Kd.R_drewN | apply Kd.R_drew)); exact Kd.R_mono HO_9.out (fun _ hk => ⟨⟨hk.1, hk.2.1⟩, hk.2.2⟩)) hg (.inl rfl)); have n3_ := Aside0.mk (hp_); have n4_ := Aside0.mk (blk_grown (g := gb427) (o := .cells #[.string a0_0, .slice A0_1 l0_1.length c0_1, .string a0_2, .slice A0_3 l0_3.length c0_3, .slice A0_4 l0_4.length c0_4, .slice A0_5 l0_5.length c0_5] 26 (0, 0)) (by (with_reducible repeat (first | refine blk_drewN ?_ _ | refine blk_drew ?_ | refine blk_alloc ?_ _)); exact BK427.out) hg (Kd.R_ne HO_10.out BK427.out (by decide))); have n5_ := Aside0.mk ((by rw [hw]; exact below_set (HB.out) GB57.out : Below w.heap.size w w60)); clear HO_3; clear HO_4; clear HO_9; clear HO_10; clear BK427; clear HB; have HO_3 := n0_; have HO_4 := n1_; have HO_9 := n2_; have HO_10 := n3_; have BK427 := n4_; have HB := n5_; clear n0_ n1_ n2_ n3_ n4_ n5_; clear hg hw hp_)))
                  go_roundg k3
                  case measure => have := HK1.out; have := HK2.out; have := HK3.out; omega
                  case rel => exact ⟨(y447), (wrap64 (x11_3 + 1)), (by first | rfl | (simp; done) | (simp [*]; done)), H', ⟨by have := HK1.out; have := HK2.out; have := HK3.out; omega⟩, ⟨by (try simp only [hl4_2]); (with_reducible repeat (first | apply Kd.R_alloc | apply Kd.R_drewN | apply Kd.R_drew)); exact Kd.R_mono HO_3.out (fun _ hk => ⟨hk.1.1, ⟨hk.1.2, hk.2⟩⟩)⟩, ⟨by (try simp only [hl4_2]); (with_reducible repeat (first | apply Kd.R_alloc | apply Kd.R_drewN | apply Kd.R_drew)); exact Kd.R_mono HO_4.out (fun _ hk => ⟨hk.1.1, ⟨hk.1.2, hk.2⟩⟩)⟩, ⟨by (try simp only [hl4_2]); (with_reducible repeat (first | apply Kd.R_alloc | apply Kd.R_drewN | apply Kd.R_drew)); exact Kd.R_mono HO_9.out (fun _ hk => ⟨hk.1.1, ⟨hk.1.2, hk.2⟩⟩)⟩, ⟨by (try simp only [hl4_2]); (with_reducible repeat (first | apply Kd.R_alloc | apply Kd.R_drewN | apply Kd.R_drew)); exact HO_10.out⟩, ⟨by (try simp only [hl4_2]); (with_reducible repeat (first | refine blk_drewN ?_ _ | refine blk_drew ?_ | refine blk_alloc ?_ _)); exact BK427.out⟩, ⟨by repeat (first | (with_reducible first | exact HB.out | apply below_alloc | apply pw_below_drewN | apply below_drew1 | refine below_set ?_ GE427.out) | exact HB.out)⟩⟩
                 ·rw [if_neg c56] at H
                  exact absurd H (by simp)
                ·rw [if_neg c55] at H
                 have c55b0 : decide (x11_3 < (x10_3.length : Int)) = false := decide_eq_false c55
                 clear c55
                 have H' := Aside0.mk H
                 clear H
                 obtain ⟨Ao61, co61, eo61⟩ := Kd.R_slice HO_10.out
                 subst eo61
                 go_wp2
                 repeat (go_quiet (fail); try go_wp2)
                 go_loopg [12] k3 (fun kq v12 w' => ∃ (x10_4 : List Int) (x12_4 : Int), v12 = .int .i64 x12_4 ∧ Aside0 (truantlaw09_FlowWhere.l4 kq t430 x4_2 t441 x10_4 x12_4 a0_0 l0_1 a0_2 l0_3 l0_4 l0_5 = some r) ∧ Aside0 (kq ≤ k3) ∧ Aside0 (Kd.R (Kd.int .i64) 3 w' w.heap.size (fun k_ => some k_ ≠ ((.slice Ao30 x4_2.length co30) : Value).ownBlock ∧ some k_ ≠ (v442 : Value).ownBlock ∧ some k_ ≠ ((.slice Ao61 x10_3.length co61) : Value).ownBlock) (.slice Ao20 t430.length co20) t430) ∧ Aside0 (Kd.R (Kd.int .i64) 3 w' w.heap.size (fun k_ => some k_ ≠ ((.slice Ao20 t430.length co20) : Value).ownBlock ∧ some k_ ≠ (v442 : Value).ownBlock ∧ some k_ ≠ ((.slice Ao61 x10_3.length co61) : Value).ownBlock) (.slice Ao30 x4_2.length co30) x4_2) ∧ Aside0 (Kd.R (Kd.int .i64) 3 w' w.heap.size (fun k_ => some k_ ≠ ((.slice Ao20 t430.length co20) : Value).ownBlock ∧ some k_ ≠ ((.slice Ao30 x4_2.length co30) : Value).ownBlock ∧ some k_ ≠ ((.slice Ao61 x10_3.length co61) : Value).ownBlock) v442 t441) ∧ Aside0 (Kd.R (Kd.int .i64) 3 w' w.heap.size (fun k_ => some k_ ≠ ((.slice Ao20 t430.length co20) : Value).ownBlock ∧ some k_ ≠ ((.slice Ao30 x4_2.length co30) : Value).ownBlock ∧ some k_ ≠ (v442 : Value).ownBlock) (.slice Ao61 x10_3.length co61) x10_4) ∧ Aside0 (w'.heap[gb427]? = some (.cells #[.string a0_0, (.slice A0_1 l0_1.length c0_1), .string a0_2, (.slice A0_3 l0_3.length c0_3), (.slice A0_4 l0_4.length c0_4), (.slice A0_5 l0_5.length c0_5)] 26 (0, 0))) ∧ Aside0 (Below w.heap.size w w'))
                 case atStart => exact ⟨(x10_3), (0), (by first | rfl | (simp; done) | (simp [*]; done)), H', ⟨Nat.le_refl _⟩, ⟨by (try simp only [hl4_2]); (with_reducible repeat (first | apply Kd.R_alloc | apply Kd.R_drewN | apply Kd.R_drew)); exact HO_3.out⟩, ⟨by (try simp only [hl4_2]); (with_reducible repeat (first | apply Kd.R_alloc | apply Kd.R_drewN | apply Kd.R_drew)); exact HO_4.out⟩, ⟨by (try simp only [hl4_2]); (with_reducible repeat (first | apply Kd.R_alloc | apply Kd.R_drewN | apply Kd.R_drew)); exact HO_9.out⟩, ⟨by (try simp only [hl4_2]); (with_reducible repeat (first | apply Kd.R_alloc | apply Kd.R_drewN | apply Kd.R_drew)); exact HO_10.out⟩, ⟨by (try simp only [hl4_2]); (with_reducible repeat (first | refine blk_drewN ?_ _ | refine blk_drew ?_ | refine blk_alloc ?_ _)); exact BK427.out⟩, ⟨by repeat (first | (with_reducible first | exact HB.out | apply below_alloc | apply pw_below_drewN | apply below_drew1 | refine below_set ?_ GE427.out) | exact HB.out)⟩⟩
                 case round =>
                  clear H'
                  try clear c1
                  try clear c2
                  try clear p2
                  try clear q2
                  try clear hx2
                  try clear hf2
                  try clear c3
                  try clear c4
                  try clear p4
                  try clear q4
                  try clear hx4
                  try clear hf4
                  try clear c5
                  try clear p5
                  try clear q5
                  try clear hx5
                  try clear hf5
                  try clear p6
                  try clear c11
                  try clear c11b0
                  try clear c11b1
                  try clear c11b2
                  try clear c12
                  try clear c12b0
                  try clear c12b1
                  try clear c13
                  try clear c13b0
                  try clear c13b1
                  try clear c24
                  try clear c24b0
                  try clear c25
                  try clear c25b0
                  try clear p26
                  try clear q26
                  try clear hx26
                  try clear hf26
                  try clear c32
                  try clear c32b0
                  try clear c33
                  try clear c33b0
                  try clear c34
                  try clear c34b0
                  try clear c35
                  try clear c35b0
                  try clear c36
                  try clear c36b0
                  try clear c37
                  try clear c37b0
                  try clear c38
                  try clear c38b0
                  try clear c39
                  try clear c39b0
                  try clear p40
                  try clear q40
                  try clear hx40
                  try clear hf40
                  try clear c43
                  try clear p43
                  try clear q43
                  try clear hx43
                  try clear c48
                  try clear c48b0
                  try clear c48b1
                  try clear c49
                  try clear c49b0
                  try clear c49b1
                  try clear c55
                  try clear c55b0
                  try clear c56
                  try clear c56b0
                  try clear p57
                  try clear q57
                  try clear hx57
                  try clear hf57
                  try clear hcz16_0
                  try clear hcz16_1
                  try clear hcz16_2
                  try clear hcz16_3
                  try clear hcz16_4
                  try clear hcz16_5
                  try clear hcz18_0
                  try clear hcz18_1
                  try clear hcz18_2
                  try clear hcz18_3
                  try clear hcz18_4
                  try clear hcz18_5
                  try clear hcz21_0
                  try clear hcz21_1
                  try clear hcz21_2
                  try clear hcz21_3
                  try clear hcz21_4
                  try clear hcz21_5
                  try clear hcz31_0
                  try clear hcz31_1
                  try clear hcz31_2
                  try clear hcz31_3
                  try clear hcz31_4
                  try clear hcz31_5
                  try clear hcz41_0
                  try clear hcz41_1
                  try clear hcz41_2
                  try clear hcz41_3
                  try clear hcz41_4
                  try clear hcz41_5
                  try clear hcz44_0
                  try clear hcz44_1
                  try clear hcz44_2
                  try clear hcz44_3
                  try clear hcz44_4
                  try clear hcz44_5
                  try clear hcz45_0
                  try clear hcz45_1
                  try clear hcz45_2
                  try clear hcz45_3
                  try clear hcz45_4
                  try clear hcz45_5
                  try clear hcz46_0
                  try clear hcz46_1
                  try clear hcz46_2
                  try clear hcz46_3
                  try clear hcz46_4
                  try clear hcz46_5
                  try clear hcz50_0
                  try clear hcz50_1
                  try clear hcz50_2
                  try clear hcz50_3
                  try clear hcz50_4
                  try clear hcz50_5
                  try clear hcz52_0
                  try clear hcz52_1
                  try clear hcz52_2
                  try clear hcz52_3
                  try clear hcz52_4
                  try clear hcz52_5
                  try clear hcz8_0
                  try clear hcz8_1
                  try clear hcz8_2
                  try clear hcz8_3
                  try clear hcz8_4
                  try clear hcz8_5
                  try clear hfz16_0
                  try clear hfz16_1
                  try clear hfz16_2
                  try clear hfz16_3
                  try clear hfz16_4
                  try clear hfz16_5
                  try clear hfz18_0
                  try clear hfz18_1
                  try clear hfz18_2
                  try clear hfz18_3
                  try clear hfz18_4
                  try clear hfz18_5
                  try clear hfz21_0
                  try clear hfz21_1
                  try clear hfz21_2
                  try clear hfz21_3
                  try clear hfz21_4
                  try clear hfz21_5
                  try clear hfz31_0
                  try clear hfz31_1
                  try clear hfz31_2
                  try clear hfz31_3
                  try clear hfz31_4
                  try clear hfz31_5
                  try clear hfz41_0
                  try clear hfz41_1
                  try clear hfz41_2
                  try clear hfz41_3
                  try clear hfz41_4
                  try clear hfz41_5
                  try clear hfz44_0
                  try clear hfz44_1
                  try clear hfz44_2
                  try clear hfz44_3
                  try clear hfz44_4
                  try clear hfz44_5
                  try clear hfz45_0
                  try clear hfz45_1
                  try clear hfz45_2
                  try clear hfz45_3
                  try clear hfz45_4
                  try clear hfz45_5
                  try clear hfz46_0
                  try clear hfz46_1
                  try clear hfz46_2
                  try clear hfz46_3
                  try clear hfz46_4
                  try clear hfz46_5
                  try clear hfz50_0
                  try clear hfz50_1
                  try clear hfz50_2
                  try clear hfz50_3
                  try clear hfz50_4
                  try clear hfz50_5
                  try clear hfz52_0
                  try clear hfz52_1
                  try clear hfz52_2
                  try clear hfz52_3
                  try clear hfz52_4
                  try clear hfz52_5
                  try clear hfz8_0
                  try clear hfz8_1
                  try clear hfz8_2
                  try clear hfz8_3
                  try clear hfz8_4
                  try clear hfz8_5
                  try clear hx26_0
                  try clear hx40_0
                  try clear hx437_0
                  try clear hx437_1
                  try clear hx437_2
                  try clear hx437_3
                  try clear hx437_4
                  try clear hx438_0
                  try clear hx438_1
                  try clear hx438_2
                  try clear hx438_3
                  try clear hx438_4
                  try clear hx439_0
                  try clear hx57_0
                  try clear p2
                  try clear p26
                  try clear p4
                  try clear p40
                  try clear p43
                  try clear p437
                  try clear p438
                  try clear p439
                  try clear p57
                  try clear p6
                  try clear q2
                  try clear q26
                  try clear q4
                  try clear q40
                  try clear q43
                  try clear q437
                  try clear q438
                  try clear q439
                  try clear q57
                  obtain ⟨x10_4, x12_4, rfl, HA, HK4, HO_3, HO_4, HO_9, HO_10, BK427, HB⟩ := hrel
                  have hl10_4 := (Kd.R_reads' HO_10.out).1
                  rw [hl10_4] at HO_10
                  (try simp only [hl10_4])
                  (try simp only [hl10_4] at BK427)
                  (try simp only [hl10_4] at HO_3)
                  (try simp only [hl10_4] at HO_4)
                  (try simp only [hl10_4] at HO_9)
                  cases gk with
                  | zero => exact absurd HA.out (by simp [truantlaw09_FlowWhere.l4])
                  | succ k4 =>
                   have H := HA.out
                   clear HA
                   simp only [truantlaw09_FlowWhere.l4] at H
                   by_cases c62 : x12_4 < (t441.length : Int)
                   ·rw [if_pos c62] at H
                    have c62b0 : decide (x12_4 < (t441.length : Int)) = true := decide_eq_true c62
                    clear c62
                    by_cases c63 : 0 ≤ x12_4
                    ·rw [if_pos c63] at H
                     have c63b0 : decide (0 ≤ x12_4) = true := decide_eq_true c63
                     clear c63
                     by_cases c64 : 0 ≤ (rd t441 x12_4)
                     ·rw [if_pos c64] at H
                      have c64b0 : decide (0 ≤ (rd t441 x12_4)) = true := decide_eq_true c64
                      clear c64
                      by_cases c65 : (rd t441 x12_4) < (x10_4.length : Int)
                      ·rw [if_pos c65] at H
                       have c65b0 : decide ((rd t441 x12_4) < (x10_4.length : Int)) = true := decide_eq_true c65
                       clear c65
                       obtain ⟨y449, hy449⟩ : ∃ y_ : List Int, y_ = (x10_4.set ((rd t441 x12_4) : Int).toNat x12_4) := ⟨_, rfl⟩
                       replace H : (truantlaw09_FlowWhere.l4 k4 t430 x4_2 t441 y449 (wrap64 (x12_4 + 1)) a0_0 l0_1 a0_2 l0_3 l0_4 l0_5) = some r := by first | (rw [hy449]; with_reducible exact H) | (have H2_ := (Option.bind_some _ _).symm.trans H; rw [hy449]; with_reducible exact H2_) | (have H2_ := (Option.bind_some _ _).symm.trans H; with_reducible exact H2_) | with_reducible exact H | (rw [hy449]; exact H) | exact H
                       have Ny449 := Aside0.mk hy449
                       clear hy449
                       have H' := Aside0.mk H
                       clear H
                       obtain ⟨Ao67, co67, eo67⟩ := Kd.R_slice HO_9.out
                       subst eo67
                       have p448 : 0 ≤ (x12_4 : Int) := of_decide_eq_true (by first | (with_reducible assumption) | assumption)
                       have q448 : x12_4 < (t441.length : Int) := of_decide_eq_true (by first | (with_reducible assumption) | assumption)
                       obtain ⟨ad448, e448, hx448_0⟩ := Kd.at_int (Kd.R_reads' HO_9.out).2.2 x12_4 p448 q448
                       cases e448
                       replace p448 := eq_true p448
                       replace q448 := eq_true q448
                       have p66 : 0 ≤ ((rd t441 x12_4) : Int) := of_decide_eq_true (by first | (with_reducible assumption) | assumption)
                       have q66 : ((rd t441 x12_4) : Int) < ((x10_4.length : Int) : Int) := of_decide_eq_true (by first | (with_reducible assumption) | assumption)
                       obtain ⟨go66, co66, eo66, gb66, gl66, cl66, HG66⟩ := Kd.R_form HO_10.out (by omega)
                       (first | cases eo66 | (injection eo66 with ea_ en_ ec_; (first | subst ea_ | (injection ea_ with ea_; subst ea_)); subst ec_; clear en_))
                       have GB66 := Aside0.mk gb66
                       have GG66 := Aside0.mk HG66
                       clear gb66 gl66 HG66
                       obtain ⟨hx66_0, hf66_0⟩ := Kd.R_celln 0 HO_10.out ((rd t441 x12_4) : Int) p66 q66
                       replace p66 := eq_true p66
                       replace q66 := eq_true q66
                       have HP68 := Kd.R_putg HO_10.out ((rd t441 x12_4) : Int) x12_4
                       go_wp2_with (first | ((with_reducible refine gate_store (t := 3) (p := 112) rfl ?_); (try (rw [drewN_self wr]; generalize hq_ : World.drewN wr _ = wr; have n0_ := Aside0.mk (Kd.R_at hq_ HO_3.out); have n1_ := Aside0.mk (Kd.R_at hq_ HO_4.out); have n2_ := Aside0.mk (Kd.R_at hq_ HO_9.out); have n3_ := Aside0.mk (Kd.R_at hq_ HO_10.out); have n4_ := Aside0.mk (blk_at hq_ BK427.out); have n5_ := Aside0.mk (below_at hq_ HB.out); clear hq_ HO_3 HO_4 HO_9 HO_10 BK427 HB; have HO_3 := n0_; have HO_4 := n1_; have HO_9 := n2_; have HO_10 := n3_; have BK427 := n4_; have HB := n5_; clear n0_ n1_ n2_ n3_ n4_ n5_; (try (have HP68 := Kd.R_putg HO_10.out ((rd t441 x12_4) : Int) x12_4)))); refine store_event (t := 3) (p := 112) (v := ?vo_w69) (w1 := (wr.setCell ⟨go66, ((rd t441 x12_4) : Int).toNat, none⟩ (.int .i64 x12_4))) ?hg ?ho ?hn ?hr ?_; (case ho => rfl); (case hg => rfl); (case hn => rfl); (case hr => first | (go_simp; done) | (go_simp; rfl)); intro w69 hw; have hg : wr.grownBy w69 (some go66) := (by rw [hw]; exact HP68.2); have hp_ : Kd.R (Kd.int .i64) 3 w69 w.heap.size (fun k_ => some k_ ≠ (.slice Ao20 t430.length co20 : Value).ownBlock ∧ some k_ ≠ (.slice Ao30 x4_2.length co30 : Value).ownBlock ∧ some k_ ≠ (.slice (some ad448) t441.length co67 : Value).ownBlock) (.slice (some ⟨go66, 0, none⟩) x10_4.length co61) y449 := (by rw [hw, Ny449.out]; exact HP68.1); clear HP68; have n0_ := Aside0.mk (Kd.R_after (v := (.slice (some ⟨go66, 0, none⟩) x10_4.length co61)) (v1 := (.slice (some ⟨go66, 0, none⟩) x10_4.length co61)) (ok := (fun k_ => some k_ ≠ (.slice Ao30 x4_2.length co30 : Value).ownBlock ∧ some k_ ≠ (.slice (some ad448) t441.length co67 : Value).ownBlock)) (by (with_reducible repeat (first | apply Kd.R_alloc | apply Kd.R_drewN | apply Kd.R_drew)); exact Kd.R_mono HO_3.out (fun _ hk => ⟨⟨hk.1, hk.2.1⟩, hk.2.2⟩)) hg (.inl rfl)); have n1_ := Aside0.mk (Kd.R_after (v := (.slice (some ⟨go66, 0, none⟩) x10_4.length co61)) (v1 := (.slice (some ⟨go66, 0, none⟩) x10_4.length co61)) (ok := (fun k_ => some k_ ≠ (.slice Ao20 t430.length co20 : Value).ownBlock ∧ some k_ ≠ (.slice (some ad448) t441.length co67 : Value).ownBlock)) (by (with_reducible repeat (first | apply Kd.R_alloc | apply Kd.R_drewN | apply Kd.R_drew)); exact Kd.R_mono HO_4.out (fun _ hk => ⟨⟨hk.1, hk.2.1⟩, hk.2.2⟩)) hg (.inl rfl)); have n2_ := Aside0.mk (Kd.R_after (v := (.slice (some ⟨go66, 0, none⟩) x10_4.length co61)) (v1 := (.slice (some ⟨go66, 0, none⟩) x10_4.length co61)) (ok := (fun k_ => some k_ ≠ (.slice Ao20 t430.length co20 : Value).ownBlock ∧ some k_ ≠ (.slice Ao30 x4_2.length co30 : Value).ownBlock)) (by (with_reducible repeat (first | apply Kd.R_alloc | apply Kd.R_drewN | apply Kd.R_drew)); exact Kd.R_mono HO_9.out (fun _ hk => ⟨⟨hk.1, hk.2.1⟩, hk.2.2⟩)) hg (.inl rfl)); have n3_ := Aside0.mk (hp_); have n4_ := Aside0.mk (blk_grown (g := gb427) (o := .cells #[.string a0_0, .slice A0_1 l0_1.length c0_1, .string a0_2, .slice A0_3 l0_3.length c0_3, .slice A0_4 l0_4.length c0_4, .slice A0_5 l0_5.length c0_5] 26 (0, 0)) (by (with_reducible repeat (first | refine blk_drewN ?_ _ | refine blk_drew ?_ | refine blk_alloc ?_ _)); exact BK427.out) hg (Kd.R_ne HO_10.out BK427.out (by decide))); have n5_ := Aside0.mk ((by rw [hw]; exact below_set (HB.out) GB66.out : Below w.heap.size w w69)); clear HO_3; clear HO_4; clear HO_9; clear HO_10; clear BK427; clear HB; have HO_3 := n0_; have HO_4 := n1_; have HO_9 := n2_; have HO_10 := n3_; have BK427 := n4_; have HB := n5_; clear n0_ n1_ n2_ n3_ n4_ n5_; clear hg hw hp_))
                       repeat (go_quiet (first | ((with_reducible refine gate_store (t := 3) (p := 112) rfl ?_); (try (rw [drewN_self wr]; generalize hq_ : World.drewN wr _ = wr; have n0_ := Aside0.mk (Kd.R_at hq_ HO_3.out); have n1_ := Aside0.mk (Kd.R_at hq_ HO_4.out); have n2_ := Aside0.mk (Kd.R_at hq_ HO_9.out); have n3_ := Aside0.mk (Kd.R_at hq_ HO_10.out); have n4_ := Aside0.mk (blk_at hq_ BK427.out); have n5_ := Aside0.mk (below_at hq_ HB.out); clear hq_ HO_3 HO_4 HO_9 HO_10 BK427 HB; have HO_3 := n0_; have HO_4 := n1_; have HO_9 := n2_; have HO_10 := n3_; have BK427 := n4_; have HB := n5_; clear n0_ n1_ n2_ n3_ n4_ n5_; (try (have HP68 := Kd.R_putg HO_10.out ((rd t441 x12_4) : Int) x12_4)))); refine store_event (t := 3) (p := 112) (v := ?vo_w69) (w1 := (wr.setCell ⟨go66, ((rd t441 x12_4) : Int).toNat, none⟩ (.int .i64 x12_4))) ?hg ?ho ?hn ?hr ?_; (case ho => rfl); (case hg => rfl); (case hn => rfl); (case hr => first | (go_simp; done) | (go_simp; rfl)); intro w69 hw; have hg : wr.grownBy w69 (some go66) := (by rw [hw]; exact HP68.2); have hp_ : Kd.R (Kd.int .i64) 3 w69 w.heap.size (fun k_ => some k_ ≠ (.slice Ao20 t430.length co20 : Value).ownBlock ∧ some k_ ≠ (.slice Ao30 x4_2.length co30 : Value).ownBlock ∧ some k_ ≠ (.slice (some ad448) t441.length co67 : Value).ownBlock) (.slice (some ⟨go66, 0, none⟩) x10_4.length co61) y449 := (by rw [hw, Ny449.out]; exact HP68.1); clear HP68; have n0_ := Aside0.mk (Kd.R_after (v := (.slice (some ⟨go66, 0, none⟩) x10_4.length co61)) (v1 := (.slice (some ⟨go66, 0, none⟩) x10_4.length co61)) (ok := (fun k_ => some k_ ≠ (.slice Ao30 x4_2.length co30 : Value).ownBlock ∧ some k_ ≠ (.slice (some ad448) t441.length co67 : Value).ownBlock)) (by (with_reducible repeat (first | apply Kd.R_alloc | apply Kd.R_drewN | apply Kd.R_drew)); exact Kd.R_mono HO_3.out (fun _ hk => ⟨⟨hk.1, hk.2.1⟩, hk.2.2⟩)) hg (.inl rfl)); have n1_ := Aside0.mk (Kd.R_after (v := (.slice (some ⟨go66, 0, none⟩) x10_4.length co61)) (v1 := (.slice (some ⟨go66, 0, none⟩) x10_4.length co61)) (ok := (fun k_ => some k_ ≠ (.slice Ao20 t430.length co20 : Value).ownBlock ∧ some k_ ≠ (.slice (some ad448) t441.length co67 : Value).ownBlock)) (by (with_reducible repeat (first | apply Kd.R_alloc | apply Kd.R_drewN | apply Kd.R_drew)); exact Kd.R_mono HO_4.out (fun _ hk => ⟨⟨hk.1, hk.2.1⟩, hk.2.2⟩)) hg (.inl rfl)); have n2_ := Aside0.mk (Kd.R_after (v := (.slice (some ⟨go66, 0, none⟩) x10_4.length co61)) (v1 := (.slice (some ⟨go66, 0, none⟩) x10_4.length co61)) (ok := (fun k_ => some k_ ≠ (.slice Ao20 t430.length co20 : Value).ownBlock ∧ some k_ ≠ (.slice Ao30 x4_2.length co30 : Value).ownBlock)) (by (with_reducible repeat (first | apply Kd.R_alloc | apply Kd.R_drewN | apply Kd.R_drew)); exact Kd.R_mono HO_9.out (fun _ hk => ⟨⟨hk.1, hk.2.1⟩, hk.2.2⟩)) hg (.inl rfl)); have n3_ := Aside0.mk (hp_); have n4_ := Aside0.mk (blk_grown (g := gb427) (o := .cells #[.string a0_0, .slice A0_1 l0_1.length c0_1, .string a0_2, .slice A0_3 l0_3.length c0_3, .slice A0_4 l0_4.length c0_4, .slice A0_5 l0_5.length c0_5] 26 (0, 0)) (by (with_reducible repeat (first | refine blk_drewN ?_ _ | refine blk_drew ?_ | refine blk_alloc ?_ _)); exact BK427.out) hg (Kd.R_ne HO_10.out BK427.out (by decide))); have n5_ := Aside0.mk ((by rw [hw]; exact below_set (HB.out) GB66.out : Below w.heap.size w w69)); clear HO_3; clear HO_4; clear HO_9; clear HO_10; clear BK427; clear HB; have HO_3 := n0_; have HO_4 := n1_; have HO_9 := n2_; have HO_10 := n3_; have BK427 := n4_; have HB := n5_; clear n0_ n1_ n2_ n3_ n4_ n5_; clear hg hw hp_)); try go_wp2_with (first | ((with_reducible refine gate_store (t := 3) (p := 112) rfl ?_); (try (rw [drewN_self wr]; generalize hq_ : World.drewN wr _ = wr; have n0_ := Aside0.mk (Kd.R_at hq_ HO_3.out); have n1_ := Aside0.mk (Kd.R_at hq_ HO_4.out); have n2_ := Aside0.mk (Kd.R_at hq_ HO_9.out); have n3_ := Aside0.mk (Kd.R_at hq_ HO_10.out); have n4_ := Aside0.mk (blk_at hq_ BK427.out); have n5_ := Aside0.mk (below_at hq_ HB.out); clear hq_ HO_3 HO_4 HO_9 HO_10 BK427 HB; have HO_3 := n0_; have HO_4 := n1_; have HO_9 := n2_; have HO_10 := n3_; have BK427 := n4_; have HB := n5_; clear n0_ n1_ n2_ n3_ n4_ n5_; (try (have HP68 := Kd.R_putg HO_10.out ((rd t441 x12_4) : Int) x12_4)))); refine store_event (t := 3) (p := 112) (v := ?vo_w69) (w1 := (wr.setCell ⟨go66, ((rd t441 x12_4) : Int).toNat, none⟩ (.int .i64 x12_4))) ?hg ?ho ?hn ?hr ?_; (case ho => rfl); (case hg => rfl); (case hn => rfl); (case hr => first | (go_simp; done) | (go_simp; rfl)); intro w69 hw; have hg : wr.grownBy w69 (some go66) := (by rw [hw]; exact HP68.2); have hp_ : Kd.R (Kd.int .i64) 3 w69 w.heap.size (fun k_ => some k_ ≠ (.slice Ao20 t430.length co20 : Value).ownBlock ∧ some k_ ≠ (.slice Ao30 x4_2.length co30 : Value).ownBlock ∧ some k_ ≠ (.slice (some ad448) t441.length co67 : Value).ownBlock) (.slice (some ⟨go66, 0, none⟩) x10_4.length co61) y449 := (by rw [hw, Ny449.out]; exact HP68.1); clear HP68; have n0_ := Aside0.mk (Kd.R_after (v := (.slice (some ⟨go66, 0, none⟩) x10_4.length co61)) (v1 := (.slice (some ⟨go66, 0, none⟩) x10_4.length co61)) (ok := (fun k_ => some k_ ≠ (.slice Ao30 x4_2.length co30 : Value).ownBlock ∧ some k_ ≠ (.slice (some ad448) t441.length co67 : Value).ownBlock)) (by (with_reducible repeat (first | apply Kd.R_alloc | apply Kd.R_drewN | apply Kd.R_drew)); exact Kd.R_mono HO_3.out (fun _ hk => ⟨⟨hk.1, hk.2.1⟩, hk.2.2⟩)) hg (.inl rfl)); have n1_ := Aside0.mk (Kd.R_after (v := (.slice (some ⟨go66, 0, none⟩) x10_4.length co61)) (v1 := (.slice (some ⟨go66, 0, none⟩) x10_4.length co61)) (ok := (fun k_ => some k_ ≠ (.slice Ao20 t430.length co20 : Value).ownBlock ∧ some k_ ≠ (.slice (some ad448) t441.length co67 : Value).ownBlock)) (by (with_reducible repeat (first | apply Kd.R_alloc | apply Kd.R_drewN | apply Kd.R_drew)); exact Kd.R_mono HO_4.out (fun _ hk => ⟨⟨hk.1, hk.2.1⟩, hk.2.2⟩)) hg (.inl rfl)); have n2_ := Aside0.mk (Kd.R_after (v := (.slice (some ⟨go66, 0, none⟩) x10_4.length co61)) (v1 := (.slice (some ⟨go66, 0, none⟩) x10_4.length co61)) (ok := (fun k_ => some k_ ≠ (.slice Ao20 t430.length co20 : Value).ownBlock ∧ some k_ ≠ (.slice Ao30 x4_2.length co30 : Value).ownBlock)) (by (with_reducible repeat (first | apply Kd.R_alloc | apply Kd.R_drewN | apply Kd.R_drew)); exact Kd.R_mono HO_9.out (fun _ hk => ⟨⟨hk.1, hk.2.1⟩, hk.2.2⟩)) hg (.inl rfl)); have n3_ := Aside0.mk (hp_); have n4_ := Aside0.mk (blk_grown (g := gb427) (o := .cells #[.string a0_0, .slice A0_1 l0_1.length c0_1, .string a0_2, .slice A0_3 l0_3.length c0_3, .slice A0_4 l0_4.length c0_4, .slice A0_5 l0_5.length c0_5] 26 (0, 0)) (by (with_reducible repeat (first | refine blk_drewN ?_ _ | refine blk_drew ?_ | refine blk_alloc ?_ _)); exact BK427.out) hg (Kd.R_ne HO_10.out BK427.out (by decide))); have n5_ := Aside0.mk ((by rw [hw]; exact below_set (HB.out) GB66.out : Below w.heap.size w w69)); clear HO_3; clear HO_4; clear HO_9; clear HO_10; clear BK427; clear HB; have HO_3 := n0_; have HO_4 := n1_; have HO_9 := n2_; have HO_10 := n3_; have BK427 := n4_; have HB := n5_; clear n0_ n1_ n2_ n3_ n4_ n5_; clear hg hw hp_)))
                       (try simp only [← hl10_4])
                       go_roundg k4
                       case measure => have := HK1.out; have := HK2.out; have := HK3.out; have := HK4.out; omega
                       case rel => exact ⟨(y449), (wrap64 (x12_4 + 1)), (by first | rfl | (simp; done) | (simp [*]; done)), H', ⟨by have := HK1.out; have := HK2.out; have := HK3.out; have := HK4.out; omega⟩, ⟨by (try simp only [hl4_2]); (try simp only [hl10_4]); (with_reducible repeat (first | apply Kd.R_alloc | apply Kd.R_drewN | apply Kd.R_drew)); exact Kd.R_mono HO_3.out (fun _ hk => ⟨hk.1.1, ⟨hk.1.2, hk.2⟩⟩)⟩, ⟨by (try simp only [hl4_2]); (try simp only [hl10_4]); (with_reducible repeat (first | apply Kd.R_alloc | apply Kd.R_drewN | apply Kd.R_drew)); exact Kd.R_mono HO_4.out (fun _ hk => ⟨hk.1.1, ⟨hk.1.2, hk.2⟩⟩)⟩, ⟨by (try simp only [hl4_2]); (try simp only [hl10_4]); (with_reducible repeat (first | apply Kd.R_alloc | apply Kd.R_drewN | apply Kd.R_drew)); exact Kd.R_mono HO_9.out (fun _ hk => ⟨hk.1.1, ⟨hk.1.2, hk.2⟩⟩)⟩, ⟨by (try simp only [hl4_2]); (try simp only [hl10_4]); (with_reducible repeat (first | apply Kd.R_alloc | apply Kd.R_drewN | apply Kd.R_drew)); exact HO_10.out⟩, ⟨by (try simp only [hl4_2]); (try simp only [hl10_4]); (with_reducible repeat (first | refine blk_drewN ?_ _ | refine blk_drew ?_ | refine blk_alloc ?_ _)); exact BK427.out⟩, ⟨by repeat (first | (with_reducible first | exact HB.out | apply below_alloc | apply pw_below_drewN | apply below_drew1 | refine below_set ?_ GE427.out) | exact HB.out)⟩⟩
                      ·rw [if_neg c65] at H
                       exact absurd H (by simp)
                     ·rw [if_neg c64] at H
                      exact absurd H (by simp)
                    ·rw [if_neg c63] at H
                     exact absurd H (by simp)
                   ·rw [if_neg c62] at H
                    have c62b0 : decide (x12_4 < (t441.length : Int)) = false := decide_eq_false c62
                    clear c62
                    replace H := Option.bind_eq_some_iff.mp H
                    obtain ⟨t450, A700, H⟩ := H
                    replace H : (truantlaw09_FlowWhere.l5 k4 t430 x4_2 x10_4 t450 0 0 a0_0 l0_1 a0_2 l0_3 l0_4 l0_5) = some r := H
                    have A70 := Aside0.mk A700
                    clear A700
                    have H' := Aside0.mk H
                    clear H
                    obtain ⟨Ao71, co71, eo71⟩ := Kd.R_slice HO_9.out
                    subst eo71
                    have hcz72_0 : wr.cell? ⟨gb427, 0, none⟩ = some (.string a0_0) := (blk_cell BK427.out 0).trans rfl
                    have hcz72_1 : wr.cell? ⟨gb427, 1, none⟩ = some (.slice A0_1 l0_1.length c0_1) := (blk_cell BK427.out 1).trans rfl
                    have hcz72_2 : wr.cell? ⟨gb427, 2, none⟩ = some (.string a0_2) := (blk_cell BK427.out 2).trans rfl
                    have hcz72_3 : wr.cell? ⟨gb427, 3, none⟩ = some (.slice A0_3 l0_3.length c0_3) := (blk_cell BK427.out 3).trans rfl
                    have hcz72_4 : wr.cell? ⟨gb427, 4, none⟩ = some (.slice A0_4 l0_4.length c0_4) := (blk_cell BK427.out 4).trans rfl
                    have hcz72_5 : wr.cell? ⟨gb427, 5, none⟩ = some (.slice A0_5 l0_5.length c0_5) := (blk_cell BK427.out 5).trans rfl
                    have hfz72_0 := blk_frozen BK427.out 0
                    have hfz72_1 := blk_frozen BK427.out 1
                    have hfz72_2 := blk_frozen BK427.out 2
                    have hfz72_3 := blk_frozen BK427.out 3
                    have hfz72_4 := blk_frozen BK427.out 4
                    have hfz72_5 := blk_frozen BK427.out 5
                    go_wp2_with (first | (go_at_call 26; (with_reducible refine (flow_Back.calls a0_0 _ _ l0_1 a0_2 _ _ l0_3 _ _ l0_4 _ _ l0_5 t450 _ ?side1 ?side2 ?side3 ?side4 ?side5 ?side6 ?side7 ?side8 A70.out).mono ?_); (case side1 => repeat (first | exact (Kd.C_below HR0_1.out HB.out) | (with_reducible refine Kd.C_alloc ?_ _) | (with_reducible refine Kd.C_drewN ?_ _) | (with_reducible refine Kd.C_drew ?_))); (case side2 => exact HC0_1.out); (case side3 => repeat (first | exact (Kd.C_below HR0_3.out HB.out) | (with_reducible refine Kd.C_alloc ?_ _) | (with_reducible refine Kd.C_drewN ?_ _) | (with_reducible refine Kd.C_drew ?_))); (case side4 => exact HC0_3.out); (case side5 => repeat (first | exact (Kd.C_below HR0_4.out HB.out) | (with_reducible refine Kd.C_alloc ?_ _) | (with_reducible refine Kd.C_drewN ?_ _) | (with_reducible refine Kd.C_drew ?_))); (case side6 => exact HC0_4.out); (case side7 => repeat (first | exact (Kd.C_below HR0_5.out HB.out) | (with_reducible refine Kd.C_alloc ?_ _) | (with_reducible refine Kd.C_drewN ?_ _) | (with_reducible refine Kd.C_drew ?_))); (case side8 => exact HC0_5.out); rintro e w73 ⟨v451, rfl, ho0, hb⟩; have n0_ := Aside0.mk (Kd.R_below (by (with_reducible repeat (first | apply Kd.R_alloc | apply Kd.R_drewN | apply Kd.R_drew)); exact HO_3.out) hb); have n1_ := Aside0.mk (Kd.R_below (by (with_reducible repeat (first | apply Kd.R_alloc | apply Kd.R_drewN | apply Kd.R_drew)); exact HO_4.out) hb); have n2_ := Aside0.mk (Kd.R_below (by (with_reducible repeat (first | apply Kd.R_alloc | apply Kd.R_drewN | apply Kd.R_drew)); exact HO_9.out) hb); have n3_ := Aside0.mk (Kd.R_below (by (with_reducible repeat (first | apply Kd.R_alloc | apply Kd.R_drewN | apply Kd.R_drew)); exact HO_10.out) hb); have n4_ := Aside0.mk (Kd.R_lower ho0 (below_size (by repeat (first | (with_reducible first | exact HB.out | apply below_alloc | apply pw_below_drewN | apply below_drew1 | refine below_set ?_ GE427.out) | exact HB.out)))); have n5_ := Aside0.mk (blk_below (g := gb427) (o := .cells #[.string a0_0, .slice A0_1 l0_1.length c0_1, .string a0_2, .slice A0_3 l0_3.length c0_3, .slice A0_4 l0_4.length c0_4, .slice A0_5 l0_5.length c0_5] 26 (0, 0)) (by (with_reducible repeat (first | refine blk_drewN ?_ _ | refine blk_drew ?_ | refine blk_alloc ?_ _)); exact BK427.out) hb); have n6_ := Aside0.mk (below_step (by repeat (first | (with_reducible first | exact HB.out | apply below_alloc | apply pw_below_drewN | apply below_drew1 | refine below_set ?_ GE427.out) | exact HB.out)) hb); clear HO_3; clear HO_4; clear HO_9; clear HO_10; clear BK427; clear HB; have HO_3 := n0_; have HO_4 := n1_; have HO_9 := n2_; have HO_10 := n3_; have HO452 := n4_; have BK427 := n5_; have HB := n6_; clear n0_ n1_ n2_ n3_ n4_ n5_ n6_; (try clear hb); (try clear hb2); (try clear hk); (try clear hi); (try clear ho0)))
                    repeat (go_quiet (first | (go_at_call 26; (with_reducible refine (flow_Back.calls a0_0 _ _ l0_1 a0_2 _ _ l0_3 _ _ l0_4 _ _ l0_5 t450 _ ?side1 ?side2 ?side3 ?side4 ?side5 ?side6 ?side7 ?side8 A70.out).mono ?_); (case side1 => repeat (first | exact (Kd.C_below HR0_1.out HB.out) | (with_reducible refine Kd.C_alloc ?_ _) | (with_reducible refine Kd.C_drewN ?_ _) | (with_reducible refine Kd.C_drew ?_))); (case side2 => exact HC0_1.out); (case side3 => repeat (first | exact (Kd.C_below HR0_3.out HB.out) | (with_reducible refine Kd.C_alloc ?_ _) | (with_reducible refine Kd.C_drewN ?_ _) | (with_reducible refine Kd.C_drew ?_))); (case side4 => exact HC0_3.out); (case side5 => repeat (first | exact (Kd.C_below HR0_4.out HB.out) | (with_reducible refine Kd.C_alloc ?_ _) | (with_reducible refine Kd.C_drewN ?_ _) | (with_reducible refine Kd.C_drew ?_))); (case side6 => exact HC0_4.out); (case side7 => repeat (first | exact (Kd.C_below HR0_5.out HB.out) | (with_reducible refine Kd.C_alloc ?_ _) | (with_reducible refine Kd.C_drewN ?_ _) | (with_reducible refine Kd.C_drew ?_))); (case side8 => exact HC0_5.out); rintro e w73 ⟨v451, rfl, ho0, hb⟩; have n0_ := Aside0.mk (Kd.R_below (by (with_reducible repeat (first | apply Kd.R_alloc | apply Kd.R_drewN | apply Kd.R_drew)); exact HO_3.out) hb); have n1_ := Aside0.mk (Kd.R_below (by (with_reducible repeat (first | apply Kd.R_alloc | apply Kd.R_drewN | apply Kd.R_drew)); exact HO_4.out) hb); have n2_ := Aside0.mk (Kd.R_below (by (with_reducible repeat (first | apply Kd.R_alloc | apply Kd.R_drewN | apply Kd.R_drew)); exact HO_9.out) hb); have n3_ := Aside0.mk (Kd.R_below (by (with_reducible repeat (first | apply Kd.R_alloc | apply Kd.R_drewN | apply Kd.R_drew)); exact HO_10.out) hb); have n4_ := Aside0.mk (Kd.R_lower ho0 (below_size (by repeat (first | (with_reducible first | exact HB.out | apply below_alloc | apply pw_below_drewN | apply below_drew1 | refine below_set ?_ GE427.out) | exact HB.out)))); have n5_ := Aside0.mk (blk_below (g := gb427) (o := .cells #[.string a0_0, .slice A0_1 l0_1.length c0_1, .string a0_2, .slice A0_3 l0_3.length c0_3, .slice A0_4 l0_4.length c0_4, .slice A0_5 l0_5.length c0_5] 26 (0, 0)) (by (with_reducible repeat (first | refine blk_drewN ?_ _ | refine blk_drew ?_ | refine blk_alloc ?_ _)); exact BK427.out) hb); have n6_ := Aside0.mk (below_step (by repeat (first | (with_reducible first | exact HB.out | apply below_alloc | apply pw_below_drewN | apply below_drew1 | refine below_set ?_ GE427.out) | exact HB.out)) hb); clear HO_3; clear HO_4; clear HO_9; clear HO_10; clear BK427; clear HB; have HO_3 := n0_; have HO_4 := n1_; have HO_9 := n2_; have HO_10 := n3_; have HO452 := n4_; have BK427 := n5_; have HB := n6_; clear n0_ n1_ n2_ n3_ n4_ n5_ n6_; (try clear hb); (try clear hb2); (try clear hk); (try clear hi); (try clear ho0))); try go_wp2_with (first | (go_at_call 26; (with_reducible refine (flow_Back.calls a0_0 _ _ l0_1 a0_2 _ _ l0_3 _ _ l0_4 _ _ l0_5 t450 _ ?side1 ?side2 ?side3 ?side4 ?side5 ?side6 ?side7 ?side8 A70.out).mono ?_); (case side1 => repeat (first | exact (Kd.C_below HR0_1.out HB.out) | (with_reducible refine Kd.C_alloc ?_ _) | (with_reducible refine Kd.C_drewN ?_ _) | (with_reducible refine Kd.C_drew ?_))); (case side2 => exact HC0_1.out); (case side3 => repeat (first | exact (Kd.C_below HR0_3.out HB.out) | (with_reducible refine Kd.C_alloc ?_ _) | (with_reducible refine Kd.C_drewN ?_ _) | (with_reducible refine Kd.C_drew ?_))); (case side4 => exact HC0_3.out); (case side5 => repeat (first | exact (Kd.C_below HR0_4.out HB.out) | (with_reducible refine Kd.C_alloc ?_ _) | (with_reducible refine Kd.C_drewN ?_ _) | (with_reducible refine Kd.C_drew ?_))); (case side6 => exact HC0_4.out); (case side7 => repeat (first | exact (Kd.C_below HR0_5.out HB.out) | (with_reducible refine Kd.C_alloc ?_ _) | (with_reducible refine Kd.C_drewN ?_ _) | (with_reducible refine Kd.C_drew ?_))); (case side8 => exact HC0_5.out); rintro e w73 ⟨v451, rfl, ho0, hb⟩; have n0_ := Aside0.mk (Kd.R_below (by (with_reducible repeat (first | apply Kd.R_alloc | apply Kd.R_drewN | apply Kd.R_drew)); exact HO_3.out) hb); have n1_ := Aside0.mk (Kd.R_below (by (with_reducible repeat (first | apply Kd.R_alloc | apply Kd.R_drewN | apply Kd.R_drew)); exact HO_4.out) hb); have n2_ := Aside0.mk (Kd.R_below (by (with_reducible repeat (first | apply Kd.R_alloc | apply Kd.R_drewN | apply Kd.R_drew)); exact HO_9.out) hb); have n3_ := Aside0.mk (Kd.R_below (by (with_reducible repeat (first | apply Kd.R_alloc | apply Kd.R_drewN | apply Kd.R_drew)); exact HO_10.out) hb); have n4_ := Aside0.mk (Kd.R_lower ho0 (below_size (by repeat (first | (with_reducible first | exact HB.out | apply below_alloc | apply pw_below_drewN | apply below_drew1 | refine below_set ?_ GE427.out) | exact HB.out)))); have n5_ := Aside0.mk (blk_below (g := gb427) (o := .cells #[.string a0_0, .slice A0_1 l0_1.length c0_1, .string a0_2, .slice A0_3 l0_3.length c0_3, .slice A0_4 l0_4.length c0_4, .slice A0_5 l0_5.length c0_5] 26 (0, 0)) (by (with_reducible repeat (first | refine blk_drewN ?_ _ | refine blk_drew ?_ | refine blk_alloc ?_ _)); exact BK427.out) hb); have n6_ := Aside0.mk (below_step (by repeat (first | (with_reducible first | exact HB.out | apply below_alloc | apply pw_below_drewN | apply below_drew1 | refine below_set ?_ GE427.out) | exact HB.out)) hb); clear HO_3; clear HO_4; clear HO_9; clear HO_10; clear BK427; clear HB; have HO_3 := n0_; have HO_4 := n1_; have HO_9 := n2_; have HO_10 := n3_; have HO452 := n4_; have BK427 := n5_; have HB := n6_; clear n0_ n1_ n2_ n3_ n4_ n5_ n6_; (try clear hb); (try clear hb2); (try clear hk); (try clear hi); (try clear ho0))))
                    go_loopg [14, 15] k4 (fun kq v14 v15 w' => ∃ (x14_5 : Int) (x15_5 : Int), v14 = .int .i64 x14_5 ∧ v15 = .int .i64 x15_5 ∧ Aside0 (truantlaw09_FlowWhere.l5 kq t430 x4_2 x10_4 t450 x14_5 x15_5 a0_0 l0_1 a0_2 l0_3 l0_4 l0_5 = some r) ∧ Aside0 (kq ≤ k4) ∧ Aside0 (Kd.R (Kd.int .i64) 3 w' w.heap.size (fun k_ => some k_ ≠ ((.slice Ao30 x4_2.length co30) : Value).ownBlock ∧ some k_ ≠ ((.slice Ao61 x10_4.length co61) : Value).ownBlock) (.slice Ao20 t430.length co20) t430) ∧ Aside0 (Kd.R (Kd.int .i64) 3 w' w.heap.size (fun k_ => some k_ ≠ ((.slice Ao20 t430.length co20) : Value).ownBlock ∧ some k_ ≠ ((.slice Ao61 x10_4.length co61) : Value).ownBlock) (.slice Ao30 x4_2.length co30) x4_2) ∧ Aside0 (Kd.R (Kd.int .i64) 3 w' w.heap.size (fun k_ => some k_ ≠ ((.slice Ao20 t430.length co20) : Value).ownBlock ∧ some k_ ≠ ((.slice Ao30 x4_2.length co30) : Value).ownBlock) (.slice Ao61 x10_4.length co61) x10_4) ∧ Aside0 (Kd.R k38 38 w' w.heap.size (fun _ => True) v451 t450) ∧ Aside0 (w'.heap[gb427]? = some (.cells #[.string a0_0, (.slice A0_1 l0_1.length c0_1), .string a0_2, (.slice A0_3 l0_3.length c0_3), (.slice A0_4 l0_4.length c0_4), (.slice A0_5 l0_5.length c0_5)] 26 (0, 0))) ∧ Aside0 (Below w.heap.size w w'))
                    case atStart => exact ⟨(0), (0), (by first | rfl | (simp; done) | (simp [*]; done)), (by first | rfl | (simp; done) | (simp [*]; done)), H', ⟨Nat.le_refl _⟩, ⟨by (try simp only [hl4_2]); (try simp only [hl10_4]); (with_reducible repeat (first | apply Kd.R_alloc | apply Kd.R_drewN | apply Kd.R_drew)); exact Kd.R_mono HO_3.out (fun _ hk => ⟨hk.1, hk.2.2⟩)⟩, ⟨by (try simp only [hl4_2]); (try simp only [hl10_4]); (with_reducible repeat (first | apply Kd.R_alloc | apply Kd.R_drewN | apply Kd.R_drew)); exact Kd.R_mono HO_4.out (fun _ hk => ⟨hk.1, hk.2.2⟩)⟩, ⟨by (try simp only [hl4_2]); (try simp only [hl10_4]); (with_reducible repeat (first | apply Kd.R_alloc | apply Kd.R_drewN | apply Kd.R_drew)); exact Kd.R_mono HO_10.out (fun _ hk => ⟨hk.1, hk.2.1⟩)⟩, ⟨by (try simp only [hl4_2]); (try simp only [hl10_4]); (with_reducible repeat (first | apply Kd.R_alloc | apply Kd.R_drewN | apply Kd.R_drew)); exact HO452.out⟩, ⟨by (try simp only [hl4_2]); (try simp only [hl10_4]); (with_reducible repeat (first | refine blk_drewN ?_ _ | refine blk_drew ?_ | refine blk_alloc ?_ _)); exact BK427.out⟩, ⟨by repeat (first | (with_reducible first | exact HB.out | apply below_alloc | apply pw_below_drewN | apply below_drew1 | refine below_set ?_ GE427.out) | exact HB.out)⟩⟩
                    case round =>
                     clear H'
                     try clear c1
                     try clear c2
                     try clear p2
                     try clear q2
                     try clear hx2
                     try clear hf2
                     try clear c3
                     try clear c4
                     try clear p4
                     try clear q4
                     try clear hx4
                     try clear hf4
                     try clear c5
                     try clear p5
                     try clear q5
                     try clear hx5
                     try clear hf5
                     try clear c6
                     try clear p6
                     try clear q6
                     try clear hx6
                     try clear hf6
                     try clear c11
                     try clear c11b0
                     try clear c11b1
                     try clear c11b2
                     try clear c12
                     try clear c12b0
                     try clear c12b1
                     try clear c13
                     try clear c13b0
                     try clear c13b1
                     try clear c24
                     try clear c24b0
                     try clear c25
                     try clear c25b0
                     try clear p26
                     try clear q26
                     try clear hx26
                     try clear hf26
                     try clear c32
                     try clear c32b0
                     try clear c33
                     try clear c33b0
                     try clear c34
                     try clear c34b0
                     try clear c35
                     try clear c35b0
                     try clear c36
                     try clear c36b0
                     try clear c37
                     try clear c37b0
                     try clear c38
                     try clear c38b0
                     try clear c39
                     try clear c39b0
                     try clear p40
                     try clear q40
                     try clear hx40
                     try clear hf40
                     try clear c43
                     try clear p43
                     try clear q43
                     try clear hx43
                     try clear p44
                     try clear q44
                     try clear hx44
                     try clear c48
                     try clear c48b0
                     try clear c48b1
                     try clear c49
                     try clear c49b0
                     try clear c49b1
                     try clear c55
                     try clear c55b0
                     try clear c56
                     try clear c56b0
                     try clear p57
                     try clear q57
                     try clear hx57
                     try clear hf57
                     try clear c62
                     try clear c62b0
                     try clear c63
                     try clear c63b0
                     try clear c64
                     try clear c64b0
                     try clear p64
                     try clear c65
                     try clear c65b0
                     try clear p66
                     try clear q66
                     try clear hx66
                     try clear hf66
                     try clear hcz16_0
                     try clear hcz16_1
                     try clear hcz16_2
                     try clear hcz16_3
                     try clear hcz16_4
                     try clear hcz16_5
                     try clear hcz18_0
                     try clear hcz18_1
                     try clear hcz18_2
                     try clear hcz18_3
                     try clear hcz18_4
                     try clear hcz18_5
                     try clear hcz21_0
                     try clear hcz21_1
                     try clear hcz21_2
                     try clear hcz21_3
                     try clear hcz21_4
                     try clear hcz21_5
                     try clear hcz31_0
                     try clear hcz31_1
                     try clear hcz31_2
                     try clear hcz31_3
                     try clear hcz31_4
                     try clear hcz31_5
                     try clear hcz41_0
                     try clear hcz41_1
                     try clear hcz41_2
                     try clear hcz41_3
                     try clear hcz41_4
                     try clear hcz41_5
                     try clear hcz44_0
                     try clear hcz44_1
                     try clear hcz44_2
                     try clear hcz44_3
                     try clear hcz44_4
                     try clear hcz44_5
                     try clear hcz45_0
                     try clear hcz45_1
                     try clear hcz45_2
                     try clear hcz45_3
                     try clear hcz45_4
                     try clear hcz45_5
                     try clear hcz46_0
                     try clear hcz46_1
                     try clear hcz46_2
                     try clear hcz46_3
                     try clear hcz46_4
                     try clear hcz46_5
                     try clear hcz50_0
                     try clear hcz50_1
                     try clear hcz50_2
                     try clear hcz50_3
                     try clear hcz50_4
                     try clear hcz50_5
                     try clear hcz52_0
                     try clear hcz52_1
                     try clear hcz52_2
                     try clear hcz52_3
                     try clear hcz52_4
                     try clear hcz52_5
                     try clear hcz72_0
                     try clear hcz72_1
                     try clear hcz72_2
                     try clear hcz72_3
                     try clear hcz72_4
                     try clear hcz72_5
                     try clear hcz8_0
                     try clear hcz8_1
                     try clear hcz8_2
                     try clear hcz8_3
                     try clear hcz8_4
                     try clear hcz8_5
                     try clear hfz16_0
                     try clear hfz16_1
                     try clear hfz16_2
                     try clear hfz16_3
                     try clear hfz16_4
                     try clear hfz16_5
                     try clear hfz18_0
                     try clear hfz18_1
                     try clear hfz18_2
                     try clear hfz18_3
                     try clear hfz18_4
                     try clear hfz18_5
                     try clear hfz21_0
                     try clear hfz21_1
                     try clear hfz21_2
                     try clear hfz21_3
                     try clear hfz21_4
                     try clear hfz21_5
                     try clear hfz31_0
                     try clear hfz31_1
                     try clear hfz31_2
                     try clear hfz31_3
                     try clear hfz31_4
                     try clear hfz31_5
                     try clear hfz41_0
                     try clear hfz41_1
                     try clear hfz41_2
                     try clear hfz41_3
                     try clear hfz41_4
                     try clear hfz41_5
                     try clear hfz44_0
                     try clear hfz44_1
                     try clear hfz44_2
                     try clear hfz44_3
                     try clear hfz44_4
                     try clear hfz44_5
                     try clear hfz45_0
                     try clear hfz45_1
                     try clear hfz45_2
                     try clear hfz45_3
                     try clear hfz45_4
                     try clear hfz45_5
                     try clear hfz46_0
                     try clear hfz46_1
                     try clear hfz46_2
                     try clear hfz46_3
                     try clear hfz46_4
                     try clear hfz46_5
                     try clear hfz50_0
                     try clear hfz50_1
                     try clear hfz50_2
                     try clear hfz50_3
                     try clear hfz50_4
                     try clear hfz50_5
                     try clear hfz52_0
                     try clear hfz52_1
                     try clear hfz52_2
                     try clear hfz52_3
                     try clear hfz52_4
                     try clear hfz52_5
                     try clear hfz72_0
                     try clear hfz72_1
                     try clear hfz72_2
                     try clear hfz72_3
                     try clear hfz72_4
                     try clear hfz72_5
                     try clear hfz8_0
                     try clear hfz8_1
                     try clear hfz8_2
                     try clear hfz8_3
                     try clear hfz8_4
                     try clear hfz8_5
                     try clear hx26_0
                     try clear hx40_0
                     try clear hx437_0
                     try clear hx437_1
                     try clear hx437_2
                     try clear hx437_3
                     try clear hx437_4
                     try clear hx438_0
                     try clear hx438_1
                     try clear hx438_2
                     try clear hx438_3
                     try clear hx438_4
                     try clear hx439_0
                     try clear hx448_0
                     try clear hx57_0
                     try clear hx66_0
                     try clear p2
                     try clear p26
                     try clear p4
                     try clear p40
                     try clear p43
                     try clear p437
                     try clear p438
                     try clear p439
                     try clear p448
                     try clear p5
                     try clear p57
                     try clear p6
                     try clear p66
                     try clear q2
                     try clear q26
                     try clear q4
                     try clear q40
                     try clear q43
                     try clear q437
                     try clear q438
                     try clear q439
                     try clear q448
                     try clear q5
                     try clear q57
                     try clear q66
                     obtain ⟨x14_5, x15_5, rfl, rfl, HA, HK5, HO_3, HO_4, HO_10, HO_13, BK427, HB⟩ := hrel
                     cases gk with
                     | zero => exact absurd HA.out (by simp [truantlaw09_FlowWhere.l5])
                     | succ k5 =>
                      have H := HA.out
                      clear HA
                      simp only [truantlaw09_FlowWhere.l5] at H
                      by_cases c74 : x15_5 < (l0_5.length : Int)
                      ·rw [if_pos c74] at H
                       have c74b0 : decide (x15_5 < (l0_5.length : Int)) = true := decide_eq_true c74
                       clear c74
                       have H' := Aside0.mk H
                       clear H
                       have hcz75_0 : wr.cell? ⟨gb427, 0, none⟩ = some (.string a0_0) := (blk_cell BK427.out 0).trans rfl
                       have hcz75_1 : wr.cell? ⟨gb427, 1, none⟩ = some (.slice A0_1 l0_1.length c0_1) := (blk_cell BK427.out 1).trans rfl
                       have hcz75_2 : wr.cell? ⟨gb427, 2, none⟩ = some (.string a0_2) := (blk_cell BK427.out 2).trans rfl
                       have hcz75_3 : wr.cell? ⟨gb427, 3, none⟩ = some (.slice A0_3 l0_3.length c0_3) := (blk_cell BK427.out 3).trans rfl
                       have hcz75_4 : wr.cell? ⟨gb427, 4, none⟩ = some (.slice A0_4 l0_4.length c0_4) := (blk_cell BK427.out 4).trans rfl
                       have hcz75_5 : wr.cell? ⟨gb427, 5, none⟩ = some (.slice A0_5 l0_5.length c0_5) := (blk_cell BK427.out 5).trans rfl
                       have hfz75_0 := blk_frozen BK427.out 0
                       have hfz75_1 := blk_frozen BK427.out 1
                       have hfz75_2 := blk_frozen BK427.out 2
                       have hfz75_3 := blk_frozen BK427.out 3
                       have hfz75_4 := blk_frozen BK427.out 4
                       have hfz75_5 := blk_frozen BK427.out 5
                       go_wp2
                       repeat (go_quiet (fail); try go_wp2)
                       go_loopg [14, 16] k5 (fun kq v14 v16 w' => ∃ (x14_6 : Int) (x16_6 : Int), v14 = .int .i64 x14_6 ∧ v16 = .int .i64 x16_6 ∧ Aside0 (truantlaw09_FlowWhere.l6 kq t430 x4_2 x10_4 t450 x14_6 x15_5 x16_6 a0_0 l0_1 a0_2 l0_3 l0_4 l0_5 = some r) ∧ Aside0 (kq ≤ k5) ∧ Aside0 (Kd.R (Kd.int .i64) 3 w' w.heap.size (fun k_ => some k_ ≠ ((.slice Ao30 x4_2.length co30) : Value).ownBlock ∧ some k_ ≠ ((.slice Ao61 x10_4.length co61) : Value).ownBlock) (.slice Ao20 t430.length co20) t430) ∧ Aside0 (Kd.R (Kd.int .i64) 3 w' w.heap.size (fun k_ => some k_ ≠ ((.slice Ao20 t430.length co20) : Value).ownBlock ∧ some k_ ≠ ((.slice Ao61 x10_4.length co61) : Value).ownBlock) (.slice Ao30 x4_2.length co30) x4_2) ∧ Aside0 (Kd.R (Kd.int .i64) 3 w' w.heap.size (fun k_ => some k_ ≠ ((.slice Ao20 t430.length co20) : Value).ownBlock ∧ some k_ ≠ ((.slice Ao30 x4_2.length co30) : Value).ownBlock) (.slice Ao61 x10_4.length co61) x10_4) ∧ Aside0 (Kd.R k38 38 w' w.heap.size (fun _ => True) v451 t450) ∧ Aside0 (w'.heap[gb427]? = some (.cells #[.string a0_0, (.slice A0_1 l0_1.length c0_1), .string a0_2, (.slice A0_3 l0_3.length c0_3), (.slice A0_4 l0_4.length c0_4), (.slice A0_5 l0_5.length c0_5)] 26 (0, 0))) ∧ Aside0 (Below w.heap.size w w'))
                       case atStart => exact ⟨(x14_5), (0), (by first | rfl | (simp; done) | (simp [*]; done)), (by first | rfl | (simp; done) | (simp [*]; done)), H', ⟨Nat.le_refl _⟩, ⟨by (try simp only [hl4_2]); (try simp only [hl10_4]); (with_reducible repeat (first | apply Kd.R_alloc | apply Kd.R_drewN | apply Kd.R_drew)); exact HO_3.out⟩, ⟨by (try simp only [hl4_2]); (try simp only [hl10_4]); (with_reducible repeat (first | apply Kd.R_alloc | apply Kd.R_drewN | apply Kd.R_drew)); exact HO_4.out⟩, ⟨by (try simp only [hl4_2]); (try simp only [hl10_4]); (with_reducible repeat (first | apply Kd.R_alloc | apply Kd.R_drewN | apply Kd.R_drew)); exact HO_10.out⟩, ⟨by (try simp only [hl4_2]); (try simp only [hl10_4]); (with_reducible repeat (first | apply Kd.R_alloc | apply Kd.R_drewN | apply Kd.R_drew)); exact HO_13.out⟩, ⟨by (try simp only [hl4_2]); (try simp only [hl10_4]); (with_reducible repeat (first | refine blk_drewN ?_ _ | refine blk_drew ?_ | refine blk_alloc ?_ _)); exact BK427.out⟩, ⟨by repeat (first | (with_reducible first | exact HB.out | apply below_alloc | apply pw_below_drewN | apply below_drew1 | refine below_set ?_ GE427.out) | exact HB.out)⟩⟩
                       case round =>
                        clear H'
                        try clear c1
                        try clear c2
                        try clear p2
                        try clear q2
                        try clear hx2
                        try clear hf2
                        try clear c3
                        try clear c4
                        try clear p4
                        try clear q4
                        try clear hx4
                        try clear hf4
                        try clear c5
                        try clear p5
                        try clear q5
                        try clear hx5
                        try clear hf5
                        try clear c6
                        try clear p6
                        try clear q6
                        try clear hx6
                        try clear hf6
                        try clear c7
                        try clear c11
                        try clear c11b0
                        try clear c11b1
                        try clear c11b2
                        try clear c12
                        try clear c12b0
                        try clear c12b1
                        try clear c13
                        try clear c13b0
                        try clear c13b1
                        try clear c24
                        try clear c24b0
                        try clear c25
                        try clear c25b0
                        try clear p26
                        try clear q26
                        try clear hx26
                        try clear hf26
                        try clear c32
                        try clear c32b0
                        try clear c33
                        try clear c33b0
                        try clear c34
                        try clear c34b0
                        try clear c35
                        try clear c35b0
                        try clear c36
                        try clear c36b0
                        try clear c37
                        try clear c37b0
                        try clear c38
                        try clear c38b0
                        try clear c39
                        try clear c39b0
                        try clear p40
                        try clear q40
                        try clear hx40
                        try clear hf40
                        try clear c43
                        try clear p43
                        try clear q43
                        try clear hx43
                        try clear p44
                        try clear q44
                        try clear hx44
                        try clear c48
                        try clear c48b0
                        try clear c48b1
                        try clear c49
                        try clear c49b0
                        try clear c49b1
                        try clear c55
                        try clear c55b0
                        try clear c56
                        try clear c56b0
                        try clear p57
                        try clear q57
                        try clear hx57
                        try clear hf57
                        try clear c62
                        try clear c62b0
                        try clear c63
                        try clear c63b0
                        try clear c64
                        try clear c64b0
                        try clear p64
                        try clear c65
                        try clear c65b0
                        try clear p66
                        try clear q66
                        try clear hx66
                        try clear hf66
                        try clear c74
                        try clear c74b0
                        try clear hcz16_0
                        try clear hcz16_1
                        try clear hcz16_2
                        try clear hcz16_3
                        try clear hcz16_4
                        try clear hcz16_5
                        try clear hcz18_0
                        try clear hcz18_1
                        try clear hcz18_2
                        try clear hcz18_3
                        try clear hcz18_4
                        try clear hcz18_5
                        try clear hcz21_0
                        try clear hcz21_1
                        try clear hcz21_2
                        try clear hcz21_3
                        try clear hcz21_4
                        try clear hcz21_5
                        try clear hcz31_0
                        try clear hcz31_1
                        try clear hcz31_2
                        try clear hcz31_3
                        try clear hcz31_4
                        try clear hcz31_5
                        try clear hcz41_0
                        try clear hcz41_1
                        try clear hcz41_2
                        try clear hcz41_3
                        try clear hcz41_4
                        try clear hcz41_5
                        try clear hcz44_0
                        try clear hcz44_1
                        try clear hcz44_2
                        try clear hcz44_3
                        try clear hcz44_4
                        try clear hcz44_5
                        try clear hcz45_0
                        try clear hcz45_1
                        try clear hcz45_2
                        try clear hcz45_3
                        try clear hcz45_4
                        try clear hcz45_5
                        try clear hcz46_0
                        try clear hcz46_1
                        try clear hcz46_2
                        try clear hcz46_3
                        try clear hcz46_4
                        try clear hcz46_5
                        try clear hcz50_0
                        try clear hcz50_1
                        try clear hcz50_2
                        try clear hcz50_3
                        try clear hcz50_4
                        try clear hcz50_5
                        try clear hcz52_0
                        try clear hcz52_1
                        try clear hcz52_2
                        try clear hcz52_3
                        try clear hcz52_4
                        try clear hcz52_5
                        try clear hcz72_0
                        try clear hcz72_1
                        try clear hcz72_2
                        try clear hcz72_3
                        try clear hcz72_4
                        try clear hcz72_5
                        try clear hcz75_0
                        try clear hcz75_1
                        try clear hcz75_2
                        try clear hcz75_3
                        try clear hcz75_4
                        try clear hcz75_5
                        try clear hcz8_0
                        try clear hcz8_1
                        try clear hcz8_2
                        try clear hcz8_3
                        try clear hcz8_4
                        try clear hcz8_5
                        try clear hfz16_0
                        try clear hfz16_1
                        try clear hfz16_2
                        try clear hfz16_3
                        try clear hfz16_4
                        try clear hfz16_5
                        try clear hfz18_0
                        try clear hfz18_1
                        try clear hfz18_2
                        try clear hfz18_3
                        try clear hfz18_4
                        try clear hfz18_5
                        try clear hfz21_0
                        try clear hfz21_1
                        try clear hfz21_2
                        try clear hfz21_3
                        try clear hfz21_4
                        try clear hfz21_5
                        try clear hfz31_0
                        try clear hfz31_1
                        try clear hfz31_2
                        try clear hfz31_3
                        try clear hfz31_4
                        try clear hfz31_5
                        try clear hfz41_0
                        try clear hfz41_1
                        try clear hfz41_2
                        try clear hfz41_3
                        try clear hfz41_4
                        try clear hfz41_5
                        try clear hfz44_0
                        try clear hfz44_1
                        try clear hfz44_2
                        try clear hfz44_3
                        try clear hfz44_4
                        try clear hfz44_5
                        try clear hfz45_0
                        try clear hfz45_1
                        try clear hfz45_2
                        try clear hfz45_3
                        try clear hfz45_4
                        try clear hfz45_5
                        try clear hfz46_0
                        try clear hfz46_1
                        try clear hfz46_2
                        try clear hfz46_3
                        try clear hfz46_4
                        try clear hfz46_5
                        try clear hfz50_0
                        try clear hfz50_1
                        try clear hfz50_2
                        try clear hfz50_3
                        try clear hfz50_4
                        try clear hfz50_5
                        try clear hfz52_0
                        try clear hfz52_1
                        try clear hfz52_2
                        try clear hfz52_3
                        try clear hfz52_4
                        try clear hfz52_5
                        try clear hfz72_0
                        try clear hfz72_1
                        try clear hfz72_2
                        try clear hfz72_3
                        try clear hfz72_4
                        try clear hfz72_5
                        try clear hfz75_0
                        try clear hfz75_1
                        try clear hfz75_2
                        try clear hfz75_3
                        try clear hfz75_4
                        try clear hfz75_5
                        try clear hfz8_0
                        try clear hfz8_1
                        try clear hfz8_2
                        try clear hfz8_3
                        try clear hfz8_4
                        try clear hfz8_5
                        try clear hx26_0
                        try clear hx40_0
                        try clear hx437_0
                        try clear hx437_1
                        try clear hx437_2
                        try clear hx437_3
                        try clear hx437_4
                        try clear hx438_0
                        try clear hx438_1
                        try clear hx438_2
                        try clear hx438_3
                        try clear hx438_4
                        try clear hx439_0
                        try clear hx448_0
                        try clear hx57_0
                        try clear hx66_0
                        try clear p2
                        try clear p26
                        try clear p4
                        try clear p40
                        try clear p43
                        try clear p437
                        try clear p438
                        try clear p439
                        try clear p44
                        try clear p448
                        try clear p5
                        try clear p57
                        try clear p6
                        try clear p64
                        try clear p66
                        try clear q2
                        try clear q26
                        try clear q4
                        try clear q40
                        try clear q43
                        try clear q437
                        try clear q438
                        try clear q439
                        try clear q44
                        try clear q448
                        try clear q5
                        try clear q57
                        try clear q6
                        try clear q66
                        obtain ⟨x14_6, x16_6, rfl, rfl, HA, HK6, HO_3, HO_4, HO_10, HO_13, BK427, HB⟩ := hrel
                        cases gk with
                        | zero => exact absurd HA.out (by simp [truantlaw09_FlowWhere.l6])
                        | succ k6 =>
                         have H := HA.out
                         clear HA
                         simp only [truantlaw09_FlowWhere.l6] at H
                         by_cases c76 : 0 ≤ x15_5
                         ·rw [if_pos c76] at H
                          have c76b0 : decide (0 ≤ x15_5) = true := decide_eq_true c76
                          clear c76
                          by_cases c77 : x15_5 < (x10_4.length : Int)
                          ·rw [if_pos c77] at H
                           have c77b0 : decide (x15_5 < (x10_4.length : Int)) = true := decide_eq_true c77
                           clear c77
                           by_cases c78 : (rd x10_4 x15_5) ≥ 0
                           ·rw [if_pos c78] at H
                            have c78b0 : decide (0 ≤ (rd x10_4 x15_5)) = true := decide_eq_true c78
                            clear c78
                            by_cases c79 : x16_6 < (l0_5.length : Int)
                            ·rw [if_pos c79] at H
                             have c79b0 : decide (x16_6 < (l0_5.length : Int)) = true := decide_eq_true c79
                             clear c79
                             replace H := Option.bind_eq_some_iff.mp H
                             obtain ⟨t454, A800, H⟩ := H
                             replace H : (truantlaw09_FlowWhere.l7 k6 t430 x4_2 x10_4 t450 x14_6 x15_5 x16_6 false t454 0 a0_0 l0_1 a0_2 l0_3 l0_4 l0_5) = some r := H
                             have A80 := Aside0.mk A800
                             clear A800
                             have H' := Aside0.mk H
                             clear H
                             have p453 : 0 ≤ (x15_5 : Int) := of_decide_eq_true (by first | (with_reducible assumption) | assumption)
                             have q453 : x15_5 < (x10_4.length : Int) := of_decide_eq_true (by first | (with_reducible assumption) | assumption)
                             obtain ⟨ad453, e453, hx453_0⟩ := Kd.at_int (Kd.R_reads' HO_10.out).2.2 x15_5 p453 q453
                             cases e453
                             replace p453 := eq_true p453
                             replace q453 := eq_true q453
                             have hcz81_0 : wr.cell? ⟨gb427, 0, none⟩ = some (.string a0_0) := (blk_cell BK427.out 0).trans rfl
                             have hcz81_1 : wr.cell? ⟨gb427, 1, none⟩ = some (.slice A0_1 l0_1.length c0_1) := (blk_cell BK427.out 1).trans rfl
                             have hcz81_2 : wr.cell? ⟨gb427, 2, none⟩ = some (.string a0_2) := (blk_cell BK427.out 2).trans rfl
                             have hcz81_3 : wr.cell? ⟨gb427, 3, none⟩ = some (.slice A0_3 l0_3.length c0_3) := (blk_cell BK427.out 3).trans rfl
                             have hcz81_4 : wr.cell? ⟨gb427, 4, none⟩ = some (.slice A0_4 l0_4.length c0_4) := (blk_cell BK427.out 4).trans rfl
                             have hcz81_5 : wr.cell? ⟨gb427, 5, none⟩ = some (.slice A0_5 l0_5.length c0_5) := (blk_cell BK427.out 5).trans rfl
                             have hfz81_0 := blk_frozen BK427.out 0
                             have hfz81_1 := blk_frozen BK427.out 1
                             have hfz81_2 := blk_frozen BK427.out 2
                             have hfz81_3 := blk_frozen BK427.out 3
                             have hfz81_4 := blk_frozen BK427.out 4
                             have hfz81_5 := blk_frozen BK427.out 5
                             go_wp2_with (first | (go_at_call 21; (with_reducible refine (truantref09_Next.calls k6 a0_0 _ _ l0_1 a0_2 _ _ l0_3 _ _ l0_4 _ _ l0_5 x15_5 t454 _ ?side1 ?side2 ?side3 ?side4 ?side5 ?side6 ?side7 ?side8 A80.out).mono ?_); (case side1 => repeat (first | exact (Kd.C_below HR0_1.out HB.out) | (with_reducible refine Kd.C_alloc ?_ _) | (with_reducible refine Kd.C_drewN ?_ _) | (with_reducible refine Kd.C_drew ?_))); (case side2 => exact HC0_1.out); (case side3 => repeat (first | exact (Kd.C_below HR0_3.out HB.out) | (with_reducible refine Kd.C_alloc ?_ _) | (with_reducible refine Kd.C_drewN ?_ _) | (with_reducible refine Kd.C_drew ?_))); (case side4 => exact HC0_3.out); (case side5 => repeat (first | exact (Kd.C_below HR0_4.out HB.out) | (with_reducible refine Kd.C_alloc ?_ _) | (with_reducible refine Kd.C_drewN ?_ _) | (with_reducible refine Kd.C_drew ?_))); (case side6 => exact HC0_4.out); (case side7 => repeat (first | exact (Kd.C_below HR0_5.out HB.out) | (with_reducible refine Kd.C_alloc ?_ _) | (with_reducible refine Kd.C_drewN ?_ _) | (with_reducible refine Kd.C_drew ?_))); (case side8 => exact HC0_5.out); rintro e w82 ⟨v455, rfl, ho0, hb⟩; have n0_ := Aside0.mk (Kd.R_elder' (by (with_reducible repeat (first | apply Kd.R_alloc | apply Kd.R_drewN | apply Kd.R_drew)); exact HO_3.out) (Kd.R_base ho0) hb); have n1_ := Aside0.mk (Kd.R_elder' (by (with_reducible repeat (first | apply Kd.R_alloc | apply Kd.R_drewN | apply Kd.R_drew)); exact HO_4.out) (Kd.R_base ho0) hb); have n2_ := Aside0.mk (Kd.R_elder' (by (with_reducible repeat (first | apply Kd.R_alloc | apply Kd.R_drewN | apply Kd.R_drew)); exact HO_10.out) (Kd.R_base ho0) hb); have n3_ := Aside0.mk (Kd.R_below (by (with_reducible repeat (first | apply Kd.R_alloc | apply Kd.R_drewN | apply Kd.R_drew)); exact HO_13.out) hb); have n4_ := Aside0.mk (Kd.R_lower (Kd.R_new' (Kd.R_new' (Kd.R_new' ho0 (Kd.R_lt (by (with_reducible repeat (first | apply Kd.R_alloc | apply Kd.R_drewN | apply Kd.R_drew)); exact HO_3.out))) (Kd.R_lt (by (with_reducible repeat (first | apply Kd.R_alloc | apply Kd.R_drewN | apply Kd.R_drew)); exact HO_4.out))) (Kd.R_lt (by (with_reducible repeat (first | apply Kd.R_alloc | apply Kd.R_drewN | apply Kd.R_drew)); exact HO_10.out))) (below_size (by repeat (first | (with_reducible first | exact HB.out | apply below_alloc | apply pw_below_drewN | apply below_drew1 | refine below_set ?_ GE427.out) | exact HB.out)))); have n5_ := Aside0.mk (blk_below (g := gb427) (o := .cells #[.string a0_0, .slice A0_1 l0_1.length c0_1, .string a0_2, .slice A0_3 l0_3.length c0_3, .slice A0_4 l0_4.length c0_4, .slice A0_5 l0_5.length c0_5] 26 (0, 0)) (by (with_reducible repeat (first | refine blk_drewN ?_ _ | refine blk_drew ?_ | refine blk_alloc ?_ _)); exact BK427.out) hb); have n6_ := Aside0.mk (below_step (by repeat (first | (with_reducible first | exact HB.out | apply below_alloc | apply pw_below_drewN | apply below_drew1 | refine below_set ?_ GE427.out) | exact HB.out)) hb); clear HO_3; clear HO_4; clear HO_10; clear HO_13; clear BK427; clear HB; have HO_3 := n0_; have HO_4 := n1_; have HO_10 := n2_; have HO_13 := n3_; have HO456 := n4_; have BK427 := n5_; have HB := n6_; clear n0_ n1_ n2_ n3_ n4_ n5_ n6_; (try clear hb); (try clear hb2); (try clear hk); (try clear hi); (try clear ho0)))
                             repeat (go_quiet (first | (go_at_call 21; (with_reducible refine (truantref09_Next.calls k6 a0_0 _ _ l0_1 a0_2 _ _ l0_3 _ _ l0_4 _ _ l0_5 x15_5 t454 _ ?side1 ?side2 ?side3 ?side4 ?side5 ?side6 ?side7 ?side8 A80.out).mono ?_); (case side1 => repeat (first | exact (Kd.C_below HR0_1.out HB.out) | (with_reducible refine Kd.C_alloc ?_ _) | (with_reducible refine Kd.C_drewN ?_ _) | (with_reducible refine Kd.C_drew ?_))); (case side2 => exact HC0_1.out); (case side3 => repeat (first | exact (Kd.C_below HR0_3.out HB.out) | (with_reducible refine Kd.C_alloc ?_ _) | (with_reducible refine Kd.C_drewN ?_ _) | (with_reducible refine Kd.C_drew ?_))); (case side4 => exact HC0_3.out); (case side5 => repeat (first | exact (Kd.C_below HR0_4.out HB.out) | (with_reducible refine Kd.C_alloc ?_ _) | (with_reducible refine Kd.C_drewN ?_ _) | (with_reducible refine Kd.C_drew ?_))); (case side6 => exact HC0_4.out); (case side7 => repeat (first | exact (Kd.C_below HR0_5.out HB.out) | (with_reducible refine Kd.C_alloc ?_ _) | (with_reducible refine Kd.C_drewN ?_ _) | (with_reducible refine Kd.C_drew ?_))); (case side8 => exact HC0_5.out); rintro e w82 ⟨v455, rfl, ho0, hb⟩; have n0_ := Aside0.mk (Kd.R_elder' (by (with_reducible repeat (first | apply Kd.R_alloc | apply Kd.R_drewN | apply Kd.R_drew)); exact HO_3.out) (Kd.R_base ho0) hb); have n1_ := Aside0.mk (Kd.R_elder' (by (with_reducible repeat (first | apply Kd.R_alloc | apply Kd.R_drewN | apply Kd.R_drew)); exact HO_4.out) (Kd.R_base ho0) hb); have n2_ := Aside0.mk (Kd.R_elder' (by (with_reducible repeat (first | apply Kd.R_alloc | apply Kd.R_drewN | apply Kd.R_drew)); exact HO_10.out) (Kd.R_base ho0) hb); have n3_ := Aside0.mk (Kd.R_below (by (with_reducible repeat (first | apply Kd.R_alloc | apply Kd.R_drewN | apply Kd.R_drew)); exact HO_13.out) hb); have n4_ := Aside0.mk (Kd.R_lower (Kd.R_new' (Kd.R_new' (Kd.R_new' ho0 (Kd.R_lt (by (with_reducible repeat (first | apply Kd.R_alloc | apply Kd.R_drewN | apply Kd.R_drew)); exact HO_3.out))) (Kd.R_lt (by (with_reducible repeat (first | apply Kd.R_alloc | apply Kd.R_drewN | apply Kd.R_drew)); exact HO_4.out))) (Kd.R_lt (by (with_reducible repeat (first | apply Kd.R_alloc | apply Kd.R_drewN | apply Kd.R_drew)); exact HO_10.out))) (below_size (by repeat (first | (with_reducible first | exact HB.out | apply below_alloc | apply pw_below_drewN | apply below_drew1 | refine below_set ?_ GE427.out) | exact HB.out)))); have n5_ := Aside0.mk (blk_below (g := gb427) (o := .cells #[.string a0_0, .slice A0_1 l0_1.length c0_1, .string a0_2, .slice A0_3 l0_3.length c0_3, .slice A0_4 l0_4.length c0_4, .slice A0_5 l0_5.length c0_5] 26 (0, 0)) (by (with_reducible repeat (first | refine blk_drewN ?_ _ | refine blk_drew ?_ | refine blk_alloc ?_ _)); exact BK427.out) hb); have n6_ := Aside0.mk (below_step (by repeat (first | (with_reducible first | exact HB.out | apply below_alloc | apply pw_below_drewN | apply below_drew1 | refine below_set ?_ GE427.out) | exact HB.out)) hb); clear HO_3; clear HO_4; clear HO_10; clear HO_13; clear BK427; clear HB; have HO_3 := n0_; have HO_4 := n1_; have HO_10 := n2_; have HO_13 := n3_; have HO456 := n4_; have BK427 := n5_; have HB := n6_; clear n0_ n1_ n2_ n3_ n4_ n5_ n6_; (try clear hb); (try clear hb2); (try clear hk); (try clear hi); (try clear ho0))); try go_wp2_with (first | (go_at_call 21; (with_reducible refine (truantref09_Next.calls k6 a0_0 _ _ l0_1 a0_2 _ _ l0_3 _ _ l0_4 _ _ l0_5 x15_5 t454 _ ?side1 ?side2 ?side3 ?side4 ?side5 ?side6 ?side7 ?side8 A80.out).mono ?_); (case side1 => repeat (first | exact (Kd.C_below HR0_1.out HB.out) | (with_reducible refine Kd.C_alloc ?_ _) | (with_reducible refine Kd.C_drewN ?_ _) | (with_reducible refine Kd.C_drew ?_))); (case side2 => exact HC0_1.out); (case side3 => repeat (first | exact (Kd.C_below HR0_3.out HB.out) | (with_reducible refine Kd.C_alloc ?_ _) | (with_reducible refine Kd.C_drewN ?_ _) | (with_reducible refine Kd.C_drew ?_))); (case side4 => exact HC0_3.out); (case side5 => repeat (first | exact (Kd.C_below HR0_4.out HB.out) | (with_reducible refine Kd.C_alloc ?_ _) | (with_reducible refine Kd.C_drewN ?_ _) | (with_reducible refine Kd.C_drew ?_))); (case side6 => exact HC0_4.out); (case side7 => repeat (first | exact (Kd.C_below HR0_5.out HB.out) | (with_reducible refine Kd.C_alloc ?_ _) | (with_reducible refine Kd.C_drewN ?_ _) | (with_reducible refine Kd.C_drew ?_))); (case side8 => exact HC0_5.out); rintro e w82 ⟨v455, rfl, ho0, hb⟩; have n0_ := Aside0.mk (Kd.R_elder' (by (with_reducible repeat (first | apply Kd.R_alloc | apply Kd.R_drewN | apply Kd.R_drew)); exact HO_3.out) (Kd.R_base ho0) hb); have n1_ := Aside0.mk (Kd.R_elder' (by (with_reducible repeat (first | apply Kd.R_alloc | apply Kd.R_drewN | apply Kd.R_drew)); exact HO_4.out) (Kd.R_base ho0) hb); have n2_ := Aside0.mk (Kd.R_elder' (by (with_reducible repeat (first | apply Kd.R_alloc | apply Kd.R_drewN | apply Kd.R_drew)); exact HO_10.out) (Kd.R_base ho0) hb); have n3_ := Aside0.mk (Kd.R_below (by (with_reducible repeat (first | apply Kd.R_alloc | apply Kd.R_drewN | apply Kd.R_drew)); exact HO_13.out) hb); have n4_ := Aside0.mk (Kd.R_lower (Kd.R_new' (Kd.R_new' (Kd.R_new' ho0 (Kd.R_lt (by (with_reducible repeat (first | apply Kd.R_alloc | apply Kd.R_drewN | apply Kd.R_drew)); exact HO_3.out))) (Kd.R_lt (by (with_reducible repeat (first | apply Kd.R_alloc | apply Kd.R_drewN | apply Kd.R_drew)); exact HO_4.out))) (Kd.R_lt (by (with_reducible repeat (first | apply Kd.R_alloc | apply Kd.R_drewN | apply Kd.R_drew)); exact HO_10.out))) (below_size (by repeat (first | (with_reducible first | exact HB.out | apply below_alloc | apply pw_below_drewN | apply below_drew1 | refine below_set ?_ GE427.out) | exact HB.out)))); have n5_ := Aside0.mk (blk_below (g := gb427) (o := .cells #[.string a0_0, .slice A0_1 l0_1.length c0_1, .string a0_2, .slice A0_3 l0_3.length c0_3, .slice A0_4 l0_4.length c0_4, .slice A0_5 l0_5.length c0_5] 26 (0, 0)) (by (with_reducible repeat (first | refine blk_drewN ?_ _ | refine blk_drew ?_ | refine blk_alloc ?_ _)); exact BK427.out) hb); have n6_ := Aside0.mk (below_step (by repeat (first | (with_reducible first | exact HB.out | apply below_alloc | apply pw_below_drewN | apply below_drew1 | refine below_set ?_ GE427.out) | exact HB.out)) hb); clear HO_3; clear HO_4; clear HO_10; clear HO_13; clear BK427; clear HB; have HO_3 := n0_; have HO_4 := n1_; have HO_10 := n2_; have HO_13 := n3_; have HO456 := n4_; have BK427 := n5_; have HB := n6_; clear n0_ n1_ n2_ n3_ n4_ n5_ n6_; (try clear hb); (try clear hb2); (try clear hk); (try clear hi); (try clear ho0))))
                             go_loopg [17, 19] k6 (fun kq v17 v19 w' => ∃ (x17_7 : Bool) (x19_7 : Int), v17 = .bool x17_7 ∧ v19 = .int .i64 x19_7 ∧ Aside0 (truantlaw09_FlowWhere.l7 kq t430 x4_2 x10_4 t450 x14_6 x15_5 x16_6 x17_7 t454 x19_7 a0_0 l0_1 a0_2 l0_3 l0_4 l0_5 = some r) ∧ Aside0 (kq ≤ k6) ∧ Aside0 (Kd.R (Kd.int .i64) 3 w' w.heap.size (fun k_ => some k_ ≠ ((.slice Ao30 x4_2.length co30) : Value).ownBlock ∧ some k_ ≠ ((.slice (some ad453) x10_4.length co61) : Value).ownBlock ∧ some k_ ≠ (v455 : Value).ownBlock) (.slice Ao20 t430.length co20) t430) ∧ Aside0 (Kd.R (Kd.int .i64) 3 w' w.heap.size (fun k_ => some k_ ≠ ((.slice Ao20 t430.length co20) : Value).ownBlock ∧ some k_ ≠ ((.slice (some ad453) x10_4.length co61) : Value).ownBlock ∧ some k_ ≠ (v455 : Value).ownBlock) (.slice Ao30 x4_2.length co30) x4_2) ∧ Aside0 (Kd.R (Kd.int .i64) 3 w' w.heap.size (fun k_ => some k_ ≠ ((.slice Ao20 t430.length co20) : Value).ownBlock ∧ some k_ ≠ ((.slice Ao30 x4_2.length co30) : Value).ownBlock ∧ some k_ ≠ (v455 : Value).ownBlock) (.slice (some ad453) x10_4.length co61) x10_4) ∧ Aside0 (Kd.R k38 38 w' w.heap.size (fun _ => True) v451 t450) ∧ Aside0 (Kd.R (Kd.int .i64) 3 w' w.heap.size (fun k_ => some k_ ≠ ((.slice Ao20 t430.length co20) : Value).ownBlock ∧ some k_ ≠ ((.slice Ao30 x4_2.length co30) : Value).ownBlock ∧ some k_ ≠ ((.slice (some ad453) x10_4.length co61) : Value).ownBlock) v455 t454) ∧ Aside0 (w'.heap[gb427]? = some (.cells #[.string a0_0, (.slice A0_1 l0_1.length c0_1), .string a0_2, (.slice A0_3 l0_3.length c0_3), (.slice A0_4 l0_4.length c0_4), (.slice A0_5 l0_5.length c0_5)] 26 (0, 0))) ∧ Aside0 (Below w.heap.size w w'))
                             case atStart => exact ⟨(false), (0), (by first | rfl | (simp; done) | (simp [*]; done)), (by first | rfl | (simp; done) | (simp [*]; done)), H', ⟨Nat.le_refl _⟩, ⟨by (try simp only [hl4_2]); (try simp only [hl10_4]); (with_reducible repeat (first | apply Kd.R_alloc | apply Kd.R_drewN | apply Kd.R_drew)); exact Kd.R_mono HO_3.out (fun _ hk => ⟨hk.1.1, ⟨hk.1.2, hk.2⟩⟩)⟩, ⟨by (try simp only [hl4_2]); (try simp only [hl10_4]); (with_reducible repeat (first | apply Kd.R_alloc | apply Kd.R_drewN | apply Kd.R_drew)); exact Kd.R_mono HO_4.out (fun _ hk => ⟨hk.1.1, ⟨hk.1.2, hk.2⟩⟩)⟩, ⟨by (try simp only [hl4_2]); (try simp only [hl10_4]); (with_reducible repeat (first | apply Kd.R_alloc | apply Kd.R_drewN | apply Kd.R_drew)); exact Kd.R_mono HO_10.out (fun _ hk => ⟨hk.1.1, ⟨hk.1.2, hk.2⟩⟩)⟩, ⟨by (try simp only [hl4_2]); (try simp only [hl10_4]); (with_reducible repeat (first | apply Kd.R_alloc | apply Kd.R_drewN | apply Kd.R_drew)); exact HO_13.out⟩, ⟨by (try simp only [hl4_2]); (try simp only [hl10_4]); (with_reducible repeat (first | apply Kd.R_alloc | apply Kd.R_drewN | apply Kd.R_drew)); exact Kd.R_mono HO456.out (fun _ hk => ⟨hk.1.1.2, ⟨hk.1.2, hk.2⟩⟩)⟩, ⟨by (try simp only [hl4_2]); (try simp only [hl10_4]); (with_reducible repeat (first | refine blk_drewN ?_ _ | refine blk_drew ?_ | refine blk_alloc ?_ _)); exact BK427.out⟩, ⟨by repeat (first | (with_reducible first | exact HB.out | apply below_alloc | apply pw_below_drewN | apply below_drew1 | refine below_set ?_ GE427.out) | exact HB.out)⟩⟩
                             case round =>
                              clear H'
                              try clear c1
                              try clear c2
                              try clear p2
                              try clear q2
                              try clear hx2
                              try clear hf2
                              try clear c3
                              try clear c4
                              try clear p4
                              try clear q4
                              try clear hx4
                              try clear hf4
                              try clear c5
                              try clear p5
                              try clear q5
                              try clear hx5
                              try clear hf5
                              try clear c6
                              try clear p6
                              try clear q6
                              try clear hx6
                              try clear hf6
                              try clear c7
                              try clear c11
                              try clear c11b0
                              try clear c11b1
                              try clear c11b2
                              try clear c12
                              try clear c12b0
                              try clear c12b1
                              try clear c13
                              try clear c13b0
                              try clear c13b1
                              try clear c24
                              try clear c24b0
                              try clear c25
                              try clear c25b0
                              try clear p26
                              try clear q26
                              try clear hx26
                              try clear hf26
                              try clear c32
                              try clear c32b0
                              try clear c33
                              try clear c33b0
                              try clear c34
                              try clear c34b0
                              try clear c35
                              try clear c35b0
                              try clear c36
                              try clear c36b0
                              try clear c37
                              try clear c37b0
                              try clear c38
                              try clear c38b0
                              try clear c39
                              try clear c39b0
                              try clear p40
                              try clear q40
                              try clear hx40
                              try clear hf40
                              try clear c43
                              try clear p43
                              try clear q43
                              try clear hx43
                              try clear p44
                              try clear q44
                              try clear hx44
                              try clear p45
                              try clear q45
                              try clear hx45
                              try clear c48
                              try clear c48b0
                              try clear c48b1
                              try clear c49
                              try clear c49b0
                              try clear c49b1
                              try clear c55
                              try clear c55b0
                              try clear c56
                              try clear c56b0
                              try clear p57
                              try clear q57
                              try clear hx57
                              try clear hf57
                              try clear c62
                              try clear c62b0
                              try clear c63
                              try clear c63b0
                              try clear c64
                              try clear c64b0
                              try clear p64
                              try clear c65
                              try clear c65b0
                              try clear p66
                              try clear q66
                              try clear hx66
                              try clear hf66
                              try clear c74
                              try clear c74b0
                              try clear c76
                              try clear c76b0
                              try clear c77
                              try clear c77b0
                              try clear c78
                              try clear c78b0
                              try clear c79
                              try clear c79b0
                              try clear hcz16_0
                              try clear hcz16_1
                              try clear hcz16_2
                              try clear hcz16_3
                              try clear hcz16_4
                              try clear hcz16_5
                              try clear hcz18_0
                              try clear hcz18_1
                              try clear hcz18_2
                              try clear hcz18_3
                              try clear hcz18_4
                              try clear hcz18_5
                              try clear hcz21_0
                              try clear hcz21_1
                              try clear hcz21_2
                              try clear hcz21_3
                              try clear hcz21_4
                              try clear hcz21_5
                              try clear hcz31_0
                              try clear hcz31_1
                              try clear hcz31_2
                              try clear hcz31_3
                              try clear hcz31_4
                              try clear hcz31_5
                              try clear hcz41_0
                              try clear hcz41_1
                              try clear hcz41_2
                              try clear hcz41_3
                              try clear hcz41_4
                              try clear hcz41_5
                              try clear hcz44_0
                              try clear hcz44_1
                              try clear hcz44_2
                              try clear hcz44_3
                              try clear hcz44_4
                              try clear hcz44_5
                              try clear hcz45_0
                              try clear hcz45_1
                              try clear hcz45_2
                              try clear hcz45_3
                              try clear hcz45_4
                              try clear hcz45_5
                              try clear hcz46_0
                              try clear hcz46_1
                              try clear hcz46_2
                              try clear hcz46_3
                              try clear hcz46_4
                              try clear hcz46_5
                              try clear hcz50_0
                              try clear hcz50_1
                              try clear hcz50_2
                              try clear hcz50_3
                              try clear hcz50_4
                              try clear hcz50_5
                              try clear hcz52_0
                              try clear hcz52_1
                              try clear hcz52_2
                              try clear hcz52_3
                              try clear hcz52_4
                              try clear hcz52_5
                              try clear hcz72_0
                              try clear hcz72_1
                              try clear hcz72_2
                              try clear hcz72_3
                              try clear hcz72_4
                              try clear hcz72_5
                              try clear hcz75_0
                              try clear hcz75_1
                              try clear hcz75_2
                              try clear hcz75_3
                              try clear hcz75_4
                              try clear hcz75_5
                              try clear hcz81_0
                              try clear hcz81_1
                              try clear hcz81_2
                              try clear hcz81_3
                              try clear hcz81_4
                              try clear hcz81_5
                              try clear hcz8_0
                              try clear hcz8_1
                              try clear hcz8_2
                              try clear hcz8_3
                              try clear hcz8_4
                              try clear hcz8_5
                              try clear hfz16_0
                              try clear hfz16_1
                              try clear hfz16_2
                              try clear hfz16_3
                              try clear hfz16_4
                              try clear hfz16_5
                              try clear hfz18_0
                              try clear hfz18_1
                              try clear hfz18_2
                              try clear hfz18_3
                              try clear hfz18_4
                              try clear hfz18_5
                              try clear hfz21_0
                              try clear hfz21_1
                              try clear hfz21_2
                              try clear hfz21_3
                              try clear hfz21_4
                              try clear hfz21_5
                              try clear hfz31_0
                              try clear hfz31_1
                              try clear hfz31_2
                              try clear hfz31_3
                              try clear hfz31_4
                              try clear hfz31_5
                              try clear hfz41_0
                              try clear hfz41_1
                              try clear hfz41_2
                              try clear hfz41_3
                              try clear hfz41_4
                              try clear hfz41_5
                              try clear hfz44_0
                              try clear hfz44_1
                              try clear hfz44_2
                              try clear hfz44_3
                              try clear hfz44_4
                              try clear hfz44_5
                              try clear hfz45_0
                              try clear hfz45_1
                              try clear hfz45_2
                              try clear hfz45_3
                              try clear hfz45_4
                              try clear hfz45_5
                              try clear hfz46_0
                              try clear hfz46_1
                              try clear hfz46_2
                              try clear hfz46_3
                              try clear hfz46_4
                              try clear hfz46_5
                              try clear hfz50_0
                              try clear hfz50_1
                              try clear hfz50_2
                              try clear hfz50_3
                              try clear hfz50_4
                              try clear hfz50_5
                              try clear hfz52_0
                              try clear hfz52_1
                              try clear hfz52_2
                              try clear hfz52_3
                              try clear hfz52_4
                              try clear hfz52_5
                              try clear hfz72_0
                              try clear hfz72_1
                              try clear hfz72_2
                              try clear hfz72_3
                              try clear hfz72_4
                              try clear hfz72_5
                              try clear hfz75_0
                              try clear hfz75_1
                              try clear hfz75_2
                              try clear hfz75_3
                              try clear hfz75_4
                              try clear hfz75_5
                              try clear hfz81_0
                              try clear hfz81_1
                              try clear hfz81_2
                              try clear hfz81_3
                              try clear hfz81_4
                              try clear hfz81_5
                              try clear hfz8_0
                              try clear hfz8_1
                              try clear hfz8_2
                              try clear hfz8_3
                              try clear hfz8_4
                              try clear hfz8_5
                              try clear hx26_0
                              try clear hx40_0
                              try clear hx437_0
                              try clear hx437_1
                              try clear hx437_2
                              try clear hx437_3
                              try clear hx437_4
                              try clear hx438_0
                              try clear hx438_1
                              try clear hx438_2
                              try clear hx438_3
                              try clear hx438_4
                              try clear hx439_0
                              try clear hx448_0
                              try clear hx453_0
                              try clear hx57_0
                              try clear hx66_0
                              try clear p2
                              try clear p26
                              try clear p4
                              try clear p40
                              try clear p43
                              try clear p437
                              try clear p438
                              try clear p439
                              try clear p44
                              try clear p448
                              try clear p453
                              try clear p5
                              try clear p57
                              try clear p6
                              try clear p64
                              try clear p66
                              try clear q2
                              try clear q26
                              try clear q4
                              try clear q40
                              try clear q43
                              try clear q437
                              try clear q438
                              try clear q439
                              try clear q44
                              try clear q448
                              try clear q453
                              try clear q5
                              try clear q57
                              try clear q6
                              try clear q66
                              obtain ⟨x17_7, x19_7, rfl, rfl, HA, HK7, HO_3, HO_4, HO_10, HO_13, HO_18, BK427, HB⟩ := hrel
                              cases gk with
                              | zero => exact absurd HA.out (by simp [truantlaw09_FlowWhere.l7])
                              | succ k7 =>
                               have H := HA.out
                               clear HA
                               simp only [truantlaw09_FlowWhere.l7] at H
                               by_cases c83 : x19_7 < (t454.length : Int)
                               ·rw [if_pos c83] at H
                                have c83b0 : decide (x19_7 < (t454.length : Int)) = true := decide_eq_true c83
                                clear c83
                                by_cases c84 : x17_7 = true
                                ·subst c84
                                 have H1 : (truantlaw09_FlowWhere.l7 k7 t430 x4_2 x10_4 t450 x14_6 x15_5 x16_6 true t454 (wrap64 (x19_7 + 1)) a0_0 l0_1 a0_2 l0_3 l0_4 l0_5) = some r := by rw [if_pos rfl] at H; exact H
                                 clear H
                                 have H := H1
                                 clear H1
                                 have H' := Aside0.mk H
                                 clear H
                                 obtain ⟨Ao85, co85, eo85⟩ := Kd.R_slice HO_18.out
                                 subst eo85
                                 go_wp2
                                 repeat (go_quiet (fail); try go_wp2)
                                 go_roundg k7
                                 case measure => have := HK1.out; have := HK2.out; have := HK3.out; have := HK4.out; have := HK5.out; have := HK6.out; have := HK7.out; omega
                                 case rel => exact ⟨(true), (wrap64 (x19_7 + 1)), (by first | rfl | (simp; done) | (simp [*]; done)), (by first | rfl | (simp; done) | (simp [*]; done)), H', ⟨by have := HK1.out; have := HK2.out; have := HK3.out; have := HK4.out; have := HK5.out; have := HK6.out; have := HK7.out; omega⟩, ⟨by (try simp only [hl4_2]); (try simp only [hl10_4]); (with_reducible repeat (first | apply Kd.R_alloc | apply Kd.R_drewN | apply Kd.R_drew)); exact HO_3.out⟩, ⟨by (try simp only [hl4_2]); (try simp only [hl10_4]); (with_reducible repeat (first | apply Kd.R_alloc | apply Kd.R_drewN | apply Kd.R_drew)); exact HO_4.out⟩, ⟨by (try simp only [hl4_2]); (try simp only [hl10_4]); (with_reducible repeat (first | apply Kd.R_alloc | apply Kd.R_drewN | apply Kd.R_drew)); exact HO_10.out⟩, ⟨by (try simp only [hl4_2]); (try simp only [hl10_4]); (with_reducible repeat (first | apply Kd.R_alloc | apply Kd.R_drewN | apply Kd.R_drew)); exact HO_13.out⟩, ⟨by (try simp only [hl4_2]); (try simp only [hl10_4]); (with_reducible repeat (first | apply Kd.R_alloc | apply Kd.R_drewN | apply Kd.R_drew)); exact HO_18.out⟩, ⟨by (try simp only [hl4_2]); (try simp only [hl10_4]); (with_reducible repeat (first | refine blk_drewN ?_ _ | refine blk_drew ?_ | refine blk_alloc ?_ _)); exact BK427.out⟩, ⟨by repeat (first | (with_reducible first | exact HB.out | apply below_alloc | apply pw_below_drewN | apply below_drew1 | refine below_set ?_ GE427.out) | exact HB.out)⟩⟩
                                ·replace c84 := Bool.eq_false_iff.mpr c84
                                 subst c84
                                 have H1 : (if 0 ≤ x19_7 then (truantlaw09_FlowWhere.l7 k7 t430 x4_2 x10_4 t450 x14_6 x15_5 x16_6 ((rd t454 x19_7) == x16_6) t454 (wrap64 (x19_7 + 1)) a0_0 l0_1 a0_2 l0_3 l0_4 l0_5) else (none)) = some r := by rw [if_neg (show ¬ (false = true) by decide)] at H; exact H
                                 clear H
                                 have H := H1
                                 clear H1
                                 by_cases c86 : 0 ≤ x19_7
                                 ·rw [if_pos c86] at H
                                  have c86b0 : decide (0 ≤ x19_7) = true := decide_eq_true c86
                                  clear c86
                                  have H' := Aside0.mk H
                                  clear H
                                  obtain ⟨Ao87, co87, eo87⟩ := Kd.R_slice HO_18.out
                                  subst eo87
                                  have p457 : 0 ≤ (x19_7 : Int) := of_decide_eq_true (by first | (with_reducible assumption) | assumption)
                                  have q457 : x19_7 < (t454.length : Int) := of_decide_eq_true (by first | (with_reducible assumption) | assumption)
                                  obtain ⟨ad457, e457, hx457_0⟩ := Kd.at_int (Kd.R_reads' HO_18.out).2.2 x19_7 p457 q457
                                  cases e457
                                  replace p457 := eq_true p457
                                  replace q457 := eq_true q457
                                  go_wp2
                                  repeat (go_quiet (fail); try go_wp2)
                                  go_roundg k7
                                  case measure => have := HK1.out; have := HK2.out; have := HK3.out; have := HK4.out; have := HK5.out; have := HK6.out; have := HK7.out; omega
                                  case rel => exact ⟨(((rd t454 x19_7) == x16_6)), (wrap64 (x19_7 + 1)), (by first | rfl | (simp; done) | (simp [*]; done)), (by first | rfl | (simp; done) | (simp [*]; done)), H', ⟨by have := HK1.out; have := HK2.out; have := HK3.out; have := HK4.out; have := HK5.out; have := HK6.out; have := HK7.out; omega⟩, ⟨by (try simp only [hl4_2]); (try simp only [hl10_4]); (with_reducible repeat (first | apply Kd.R_alloc | apply Kd.R_drewN | apply Kd.R_drew)); exact HO_3.out⟩, ⟨by (try simp only [hl4_2]); (try simp only [hl10_4]); (with_reducible repeat (first | apply Kd.R_alloc | apply Kd.R_drewN | apply Kd.R_drew)); exact HO_4.out⟩, ⟨by (try simp only [hl4_2]); (try simp only [hl10_4]); (with_reducible repeat (first | apply Kd.R_alloc | apply Kd.R_drewN | apply Kd.R_drew)); exact HO_10.out⟩, ⟨by (try simp only [hl4_2]); (try simp only [hl10_4]); (with_reducible repeat (first | apply Kd.R_alloc | apply Kd.R_drewN | apply Kd.R_drew)); exact HO_13.out⟩, ⟨by (try simp only [hl4_2]); (try simp only [hl10_4]); (with_reducible repeat (first | apply Kd.R_alloc | apply Kd.R_drewN | apply Kd.R_drew)); exact HO_18.out⟩, ⟨by (try simp only [hl4_2]); (try simp only [hl10_4]); (with_reducible repeat (first | refine blk_drewN ?_ _ | refine blk_drew ?_ | refine blk_alloc ?_ _)); exact BK427.out⟩, ⟨by repeat (first | (with_reducible first | exact HB.out | apply below_alloc | apply pw_below_drewN | apply below_drew1 | refine below_set ?_ GE427.out) | exact HB.out)⟩⟩
                                 ·rw [if_neg c86] at H
                                  exact absurd H (by simp)
                               ·rw [if_neg c83] at H
                                have c83b0 : decide (x19_7 < (t454.length : Int)) = false := decide_eq_false c83
                                clear c83
                                by_cases c88 : x17_7 = true
                                ·subst c88
                                 have H1 : (if 0 ≤ x16_6 then (if x16_6 < (x10_4.length : Int) then (if 0 ≤ x15_5 then (if x15_5 < (x10_4.length : Int) then (if (rd x10_4 x16_6) > (rd x10_4 x15_5) then (truantlaw09_FlowWhere.l6 k7 t430 x4_2 x10_4 t450 x14_6 x15_5 (wrap64 (x16_6 + 1)) a0_0 l0_1 a0_2 l0_3 l0_4 l0_5) else (if x14_6 ≥ (t450.length : Int) then (none) else (if 0 ≤ x14_6 then (if x14_6 < (t450.length : Int) then (if ((rd_T38 t450 x14_6).f0) = x15_5 then (if ((rd_T38 t450 x14_6).f1) = x16_6 then (truantlaw09_FlowWhere.l6 k7 t430 x4_2 x10_4 t450 (wrap64 (x14_6 + 1)) x15_5 (wrap64 (x16_6 + 1)) a0_0 l0_1 a0_2 l0_3 l0_4 l0_5) else (none)) else (none)) else (none)) else (none)))) else (none)) else (none)) else (none)) else (none)) = some r := by rw [if_pos rfl] at H; exact H
                                 clear H
                                 have H := H1
                                 clear H1
                                 by_cases c89 : 0 ≤ x16_6
                                 ·rw [if_pos c89] at H
                                  have c89b0 : decide (0 ≤ x16_6) = true := decide_eq_true c89
                                  clear c89
                                  by_cases c90 : x16_6 < (x10_4.length : Int)
                                  ·rw [if_pos c90] at H
                                   have c90b0 : decide (x16_6 < (x10_4.length : Int)) = true := decide_eq_true c90
                                   clear c90
                                   by_cases c91 : 0 ≤ x15_5
                                   ·rw [if_pos c91] at H
                                    have c91b0 : decide (0 ≤ x15_5) = true := decide_eq_true c91
                                    clear c91
                                    by_cases c92 : x15_5 < (x10_4.length : Int)
                                    ·rw [if_pos c92] at H
                                     have c92b0 : decide (x15_5 < (x10_4.length : Int)) = true := decide_eq_true c92
                                     clear c92
                                     by_cases c93 : (rd x10_4 x16_6) > (rd x10_4 x15_5)
                                     ·rw [if_pos c93] at H
                                      have c93b0 : decide ((rd x10_4 x15_5) < (rd x10_4 x16_6)) = true := decide_eq_true c93
                                      clear c93
                                      have H' := Aside0.mk H
                                      clear H
                                      obtain ⟨Ao94, co94, eo94⟩ := Kd.R_slice HO_18.out
                                      subst eo94
                                      have p458 : 0 ≤ (x16_6 : Int) := of_decide_eq_true (by first | (with_reducible assumption) | assumption)
                                      have q458 : x16_6 < (x10_4.length : Int) := of_decide_eq_true (by first | (with_reducible assumption) | assumption)
                                      obtain ⟨ad458, e458, hx458_0⟩ := Kd.at_int (Kd.R_reads' HO_10.out).2.2 x16_6 p458 q458
                                      obtain rfl : ad453 = ad458 := (by injection e458)
                                      replace p458 := eq_true p458
                                      replace q458 := eq_true q458
                                      have p459 : 0 ≤ (x15_5 : Int) := of_decide_eq_true (by first | (with_reducible assumption) | assumption)
                                      have q459 : x15_5 < (x10_4.length : Int) := of_decide_eq_true (by first | (with_reducible assumption) | assumption)
                                      obtain ⟨ad459, e459, hx459_0⟩ := Kd.at_int (Kd.R_reads' HO_10.out).2.2 x15_5 p459 q459
                                      obtain rfl : ad453 = ad459 := (by injection e459)
                                      replace p459 := eq_true p459
                                      replace q459 := eq_true q459
                                      go_wp2
                                      repeat (go_quiet (fail); try go_wp2)
                                      go_roundg k7
                                      case measure => have := HK1.out; have := HK2.out; have := HK3.out; have := HK4.out; have := HK5.out; have := HK6.out; have := HK7.out; omega
                                      case rel => exact ⟨(x14_6), (wrap64 (x16_6 + 1)), (by first | rfl | (simp; done) | (simp [*]; done)), (by first | rfl | (simp; done) | (simp [*]; done)), H', ⟨by have := HK1.out; have := HK2.out; have := HK3.out; have := HK4.out; have := HK5.out; have := HK6.out; have := HK7.out; omega⟩, ⟨by (try simp only [hl4_2]); (try simp only [hl10_4]); (with_reducible repeat (first | apply Kd.R_alloc | apply Kd.R_drewN | apply Kd.R_drew)); exact Kd.R_mono HO_3.out (fun _ hk => ⟨hk.1, hk.2.1⟩)⟩, ⟨by (try simp only [hl4_2]); (try simp only [hl10_4]); (with_reducible repeat (first | apply Kd.R_alloc | apply Kd.R_drewN | apply Kd.R_drew)); exact Kd.R_mono HO_4.out (fun _ hk => ⟨hk.1, hk.2.1⟩)⟩, ⟨by (try simp only [hl4_2]); (try simp only [hl10_4]); (with_reducible repeat (first | apply Kd.R_alloc | apply Kd.R_drewN | apply Kd.R_drew)); exact Kd.R_mono HO_10.out (fun _ hk => ⟨hk.1, hk.2.1⟩)⟩, ⟨by (try simp only [hl4_2]); (try simp only [hl10_4]); (with_reducible repeat (first | apply Kd.R_alloc | apply Kd.R_drewN | apply Kd.R_drew)); exact HO_13.out⟩, ⟨by (try simp only [hl4_2]); (try simp only [hl10_4]); (with_reducible repeat (first | refine blk_drewN ?_ _ | refine blk_drew ?_ | refine blk_alloc ?_ _)); exact BK427.out⟩, ⟨by repeat (first | (with_reducible first | exact HB.out | apply below_alloc | apply pw_below_drewN | apply below_drew1 | refine below_set ?_ GE427.out) | exact HB.out)⟩⟩
                                     ·rw [if_neg c93] at H
                                      have c93b0 : decide ((rd x10_4 x15_5) < (rd x10_4 x16_6)) = false := decide_eq_false c93
                                      clear c93
                                      by_cases c95 : x14_6 ≥ (t450.length : Int)
                                      ·rw [if_pos c95] at H
                                       exact absurd H (by simp)
                                      ·rw [if_neg c95] at H
                                       have c95b0 : decide ((t450.length : Int) ≤ x14_6) = false := decide_eq_false c95
                                       clear c95
                                       by_cases c96 : 0 ≤ x14_6
                                       ·rw [if_pos c96] at H
                                        have c96b0 : decide (0 ≤ x14_6) = true := decide_eq_true c96
                                        clear c96
                                        by_cases c97 : x14_6 < (t450.length : Int)
                                        ·rw [if_pos c97] at H
                                         have c97b0 : decide (x14_6 < (t450.length : Int)) = true := decide_eq_true c97
                                         clear c97
                                         by_cases c98 : ((rd_T38 t450 x14_6).f0) = x15_5
                                         ·rw [if_pos c98] at H
                                          have c98b0 : (((rd_T38 t450 x14_6).f0) == x15_5) = true := beq_iff_eq.mpr c98
                                          have c98b1 : (((rd_T38 t450 x14_6).f0) != x15_5) = false := bne_eq_false_iff_eq.mpr c98
                                          clear c98
                                          by_cases c99 : ((rd_T38 t450 x14_6).f1) = x16_6
                                          ·rw [if_pos c99] at H
                                           have c99b0 : (((rd_T38 t450 x14_6).f1) == x16_6) = true := beq_iff_eq.mpr c99
                                           have c99b1 : (((rd_T38 t450 x14_6).f1) != x16_6) = false := bne_eq_false_iff_eq.mpr c99
                                           clear c99
                                           have H' := Aside0.mk H
                                           clear H
                                           obtain ⟨Ao100, co100, eo100⟩ := Kd.R_slice HO_18.out
                                           subst eo100
                                           have p458 : 0 ≤ (x16_6 : Int) := of_decide_eq_true (by first | (with_reducible assumption) | assumption)
                                           have q458 : x16_6 < (x10_4.length : Int) := of_decide_eq_true (by first | (with_reducible assumption) | assumption)
                                           obtain ⟨ad458, e458, hx458_0⟩ := Kd.at_int (Kd.R_reads' HO_10.out).2.2 x16_6 p458 q458
                                           obtain rfl : ad453 = ad458 := (by injection e458)
                                           replace p458 := eq_true p458
                                           replace q458 := eq_true q458
                                           have p459 : 0 ≤ (x15_5 : Int) := of_decide_eq_true (by first | (with_reducible assumption) | assumption)
                                           have q459 : x15_5 < (x10_4.length : Int) := of_decide_eq_true (by first | (with_reducible assumption) | assumption)
                                           obtain ⟨ad459, e459, hx459_0⟩ := Kd.at_int (Kd.R_reads' HO_10.out).2.2 x15_5 p459 q459
                                           obtain rfl : ad453 = ad459 := (by injection e459)
                                           replace p459 := eq_true p459
                                           replace q459 := eq_true q459
                                           obtain ⟨Ao101, co101, eo101⟩ := Kd.R_slice HO_13.out
                                           subst eo101
                                           have p460 : 0 ≤ (x14_6 : Int) := of_decide_eq_true (by first | (with_reducible assumption) | assumption)
                                           have q460 : x14_6 < (t450.length : Int) := of_decide_eq_true (by first | (with_reducible assumption) | assumption)
                                           obtain ⟨ad460, e460, hx460_0, hx460_1⟩ := at_T38 (Kd.R_reads' HO_13.out).2.2 x14_6 p460 q460
                                           cases e460
                                           replace p460 := eq_true p460
                                           replace q460 := eq_true q460
                                           have p461 : 0 ≤ (x14_6 : Int) := of_decide_eq_true (by first | (with_reducible assumption) | assumption)
                                           have q461 : x14_6 < (t450.length : Int) := of_decide_eq_true (by first | (with_reducible assumption) | assumption)
                                           obtain ⟨ad461, e461, hx461_0, hx461_1⟩ := at_T38 (Kd.R_reads' HO_13.out).2.2 x14_6 p461 q461
                                           obtain rfl : ad460 = ad461 := (by injection e461)
                                           replace p461 := eq_true p461
                                           replace q461 := eq_true q461
                                           go_wp2
                                           repeat (go_quiet (fail); try go_wp2)
                                           go_roundg k7
                                           case measure => have := HK1.out; have := HK2.out; have := HK3.out; have := HK4.out; have := HK5.out; have := HK6.out; have := HK7.out; omega
                                           case rel => exact ⟨(wrap64 (x14_6 + 1)), (wrap64 (x16_6 + 1)), (by first | rfl | (simp; done) | (simp [*]; done)), (by first | rfl | (simp; done) | (simp [*]; done)), H', ⟨by have := HK1.out; have := HK2.out; have := HK3.out; have := HK4.out; have := HK5.out; have := HK6.out; have := HK7.out; omega⟩, ⟨by (try simp only [hl4_2]); (try simp only [hl10_4]); (with_reducible repeat (first | apply Kd.R_alloc | apply Kd.R_drewN | apply Kd.R_drew)); exact Kd.R_mono HO_3.out (fun _ hk => ⟨hk.1, hk.2.1⟩)⟩, ⟨by (try simp only [hl4_2]); (try simp only [hl10_4]); (with_reducible repeat (first | apply Kd.R_alloc | apply Kd.R_drewN | apply Kd.R_drew)); exact Kd.R_mono HO_4.out (fun _ hk => ⟨hk.1, hk.2.1⟩)⟩, ⟨by (try simp only [hl4_2]); (try simp only [hl10_4]); (with_reducible repeat (first | apply Kd.R_alloc | apply Kd.R_drewN | apply Kd.R_drew)); exact Kd.R_mono HO_10.out (fun _ hk => ⟨hk.1, hk.2.1⟩)⟩, ⟨by (try simp only [hl4_2]); (try simp only [hl10_4]); (with_reducible repeat (first | apply Kd.R_alloc | apply Kd.R_drewN | apply Kd.R_drew)); exact HO_13.out⟩, ⟨by (try simp only [hl4_2]); (try simp only [hl10_4]); (with_reducible repeat (first | refine blk_drewN ?_ _ | refine blk_drew ?_ | refine blk_alloc ?_ _)); exact BK427.out⟩, ⟨by repeat (first | (with_reducible first | exact HB.out | apply below_alloc | apply pw_below_drewN | apply below_drew1 | refine below_set ?_ GE427.out) | exact HB.out)⟩⟩
                                          ·rw [if_neg c99] at H
                                           exact absurd H (by simp)
                                         ·rw [if_neg c98] at H
                                          exact absurd H (by simp)
                                        ·rw [if_neg c97] at H
                                         exact absurd H (by simp)
                                       ·rw [if_neg c96] at H
                                        exact absurd H (by simp)
                                    ·rw [if_neg c92] at H
                                     exact absurd H (by simp)
                                   ·rw [if_neg c91] at H
                                    exact absurd H (by simp)
                                  ·rw [if_neg c90] at H
                                   exact absurd H (by simp)
                                 ·rw [if_neg c89] at H
                                  exact absurd H (by simp)
                                ·replace c88 := Bool.eq_false_iff.mpr c88
                                 subst c88
                                 have H1 : (truantlaw09_FlowWhere.l6 k7 t430 x4_2 x10_4 t450 x14_6 x15_5 (wrap64 (x16_6 + 1)) a0_0 l0_1 a0_2 l0_3 l0_4 l0_5) = some r := by rw [if_neg (show ¬ (false = true) by decide)] at H; exact H
                                 clear H
                                 have H := H1
                                 clear H1
                                 have H' := Aside0.mk H
                                 clear H
                                 obtain ⟨Ao102, co102, eo102⟩ := Kd.R_slice HO_18.out
                                 subst eo102
                                 go_wp2
                                 repeat (go_quiet (fail); try go_wp2)
                                 go_roundg k7
                                 case measure => have := HK1.out; have := HK2.out; have := HK3.out; have := HK4.out; have := HK5.out; have := HK6.out; have := HK7.out; omega
                                 case rel => exact ⟨(x14_6), (wrap64 (x16_6 + 1)), (by first | rfl | (simp; done) | (simp [*]; done)), (by first | rfl | (simp; done) | (simp [*]; done)), H', ⟨by have := HK1.out; have := HK2.out; have := HK3.out; have := HK4.out; have := HK5.out; have := HK6.out; have := HK7.out; omega⟩, ⟨by (try simp only [hl4_2]); (try simp only [hl10_4]); (with_reducible repeat (first | apply Kd.R_alloc | apply Kd.R_drewN | apply Kd.R_drew)); exact Kd.R_mono HO_3.out (fun _ hk => ⟨hk.1, hk.2.1⟩)⟩, ⟨by (try simp only [hl4_2]); (try simp only [hl10_4]); (with_reducible repeat (first | apply Kd.R_alloc | apply Kd.R_drewN | apply Kd.R_drew)); exact Kd.R_mono HO_4.out (fun _ hk => ⟨hk.1, hk.2.1⟩)⟩, ⟨by (try simp only [hl4_2]); (try simp only [hl10_4]); (with_reducible repeat (first | apply Kd.R_alloc | apply Kd.R_drewN | apply Kd.R_drew)); exact Kd.R_mono HO_10.out (fun _ hk => ⟨hk.1, hk.2.1⟩)⟩, ⟨by (try simp only [hl4_2]); (try simp only [hl10_4]); (with_reducible repeat (first | apply Kd.R_alloc | apply Kd.R_drewN | apply Kd.R_drew)); exact HO_13.out⟩, ⟨by (try simp only [hl4_2]); (try simp only [hl10_4]); (with_reducible repeat (first | refine blk_drewN ?_ _ | refine blk_drew ?_ | refine blk_alloc ?_ _)); exact BK427.out⟩, ⟨by repeat (first | (with_reducible first | exact HB.out | apply below_alloc | apply pw_below_drewN | apply below_drew1 | refine below_set ?_ GE427.out) | exact HB.out)⟩⟩
                            ·rw [if_neg c79] at H
                             have c79b0 : decide (x16_6 < (l0_5.length : Int)) = false := decide_eq_false c79
                             clear c79
                             have H' := Aside0.mk H
                             clear H
                             have p453 : 0 ≤ (x15_5 : Int) := of_decide_eq_true (by first | (with_reducible assumption) | assumption)
                             have q453 : x15_5 < (x10_4.length : Int) := of_decide_eq_true (by first | (with_reducible assumption) | assumption)
                             obtain ⟨ad453, e453, hx453_0⟩ := Kd.at_int (Kd.R_reads' HO_10.out).2.2 x15_5 p453 q453
                             cases e453
                             replace p453 := eq_true p453
                             replace q453 := eq_true q453
                             have hcz103_0 : wr.cell? ⟨gb427, 0, none⟩ = some (.string a0_0) := (blk_cell BK427.out 0).trans rfl
                             have hcz103_1 : wr.cell? ⟨gb427, 1, none⟩ = some (.slice A0_1 l0_1.length c0_1) := (blk_cell BK427.out 1).trans rfl
                             have hcz103_2 : wr.cell? ⟨gb427, 2, none⟩ = some (.string a0_2) := (blk_cell BK427.out 2).trans rfl
                             have hcz103_3 : wr.cell? ⟨gb427, 3, none⟩ = some (.slice A0_3 l0_3.length c0_3) := (blk_cell BK427.out 3).trans rfl
                             have hcz103_4 : wr.cell? ⟨gb427, 4, none⟩ = some (.slice A0_4 l0_4.length c0_4) := (blk_cell BK427.out 4).trans rfl
                             have hcz103_5 : wr.cell? ⟨gb427, 5, none⟩ = some (.slice A0_5 l0_5.length c0_5) := (blk_cell BK427.out 5).trans rfl
                             have hfz103_0 := blk_frozen BK427.out 0
                             have hfz103_1 := blk_frozen BK427.out 1
                             have hfz103_2 := blk_frozen BK427.out 2
                             have hfz103_3 := blk_frozen BK427.out 3
                             have hfz103_4 := blk_frozen BK427.out 4
                             have hfz103_5 := blk_frozen BK427.out 5
                             go_wp2
                             repeat (go_quiet (fail); try go_wp2)
                             go_roundg k6
                             case measure => have := HK1.out; have := HK2.out; have := HK3.out; have := HK4.out; have := HK5.out; have := HK6.out; omega
                             case rel => exact ⟨(x14_6), (wrap64 (x15_5 + 1)), (by first | rfl | (simp; done) | (simp [*]; done)), (by first | rfl | (simp; done) | (simp [*]; done)), H', ⟨by have := HK1.out; have := HK2.out; have := HK3.out; have := HK4.out; have := HK5.out; have := HK6.out; omega⟩, ⟨by (try simp only [hl4_2]); (try simp only [hl10_4]); (with_reducible repeat (first | apply Kd.R_alloc | apply Kd.R_drewN | apply Kd.R_drew)); exact HO_3.out⟩, ⟨by (try simp only [hl4_2]); (try simp only [hl10_4]); (with_reducible repeat (first | apply Kd.R_alloc | apply Kd.R_drewN | apply Kd.R_drew)); exact HO_4.out⟩, ⟨by (try simp only [hl4_2]); (try simp only [hl10_4]); (with_reducible repeat (first | apply Kd.R_alloc | apply Kd.R_drewN | apply Kd.R_drew)); exact HO_10.out⟩, ⟨by (try simp only [hl4_2]); (try simp only [hl10_4]); (with_reducible repeat (first | apply Kd.R_alloc | apply Kd.R_drewN | apply Kd.R_drew)); exact HO_13.out⟩, ⟨by (try simp only [hl4_2]); (try simp only [hl10_4]); (with_reducible repeat (first | refine blk_drewN ?_ _ | refine blk_drew ?_ | refine blk_alloc ?_ _)); exact BK427.out⟩, ⟨by repeat (first | (with_reducible first | exact HB.out | apply below_alloc | apply pw_below_drewN | apply below_drew1 | refine below_set ?_ GE427.out) | exact HB.out)⟩⟩
                           ·rw [if_neg c78] at H
                            have c78b0 : decide (0 ≤ (rd x10_4 x15_5)) = false := decide_eq_false c78
                            clear c78
                            have H' := Aside0.mk H
                            clear H
                            have p453 : 0 ≤ (x15_5 : Int) := of_decide_eq_true (by first | (with_reducible assumption) | assumption)
                            have q453 : x15_5 < (x10_4.length : Int) := of_decide_eq_true (by first | (with_reducible assumption) | assumption)
                            obtain ⟨ad453, e453, hx453_0⟩ := Kd.at_int (Kd.R_reads' HO_10.out).2.2 x15_5 p453 q453
                            cases e453
                            replace p453 := eq_true p453
                            replace q453 := eq_true q453
                            go_wp2
                            repeat (go_quiet (fail); try go_wp2)
                            go_roundg k6
                            case measure => have := HK1.out; have := HK2.out; have := HK3.out; have := HK4.out; have := HK5.out; have := HK6.out; omega
                            case rel => exact ⟨(x14_6), (wrap64 (x15_5 + 1)), (by first | rfl | (simp; done) | (simp [*]; done)), (by first | rfl | (simp; done) | (simp [*]; done)), H', ⟨by have := HK1.out; have := HK2.out; have := HK3.out; have := HK4.out; have := HK5.out; have := HK6.out; omega⟩, ⟨by (try simp only [hl4_2]); (try simp only [hl10_4]); (with_reducible repeat (first | apply Kd.R_alloc | apply Kd.R_drewN | apply Kd.R_drew)); exact HO_3.out⟩, ⟨by (try simp only [hl4_2]); (try simp only [hl10_4]); (with_reducible repeat (first | apply Kd.R_alloc | apply Kd.R_drewN | apply Kd.R_drew)); exact HO_4.out⟩, ⟨by (try simp only [hl4_2]); (try simp only [hl10_4]); (with_reducible repeat (first | apply Kd.R_alloc | apply Kd.R_drewN | apply Kd.R_drew)); exact HO_10.out⟩, ⟨by (try simp only [hl4_2]); (try simp only [hl10_4]); (with_reducible repeat (first | apply Kd.R_alloc | apply Kd.R_drewN | apply Kd.R_drew)); exact HO_13.out⟩, ⟨by (try simp only [hl4_2]); (try simp only [hl10_4]); (with_reducible repeat (first | refine blk_drewN ?_ _ | refine blk_drew ?_ | refine blk_alloc ?_ _)); exact BK427.out⟩, ⟨by repeat (first | (with_reducible first | exact HB.out | apply below_alloc | apply pw_below_drewN | apply below_drew1 | refine below_set ?_ GE427.out) | exact HB.out)⟩⟩
                          ·rw [if_neg c77] at H
                           exact absurd H (by simp)
                         ·rw [if_neg c76] at H
                          exact absurd H (by simp)
                      ·rw [if_neg c74] at H
                       have c74b0 : decide (x15_5 < (l0_5.length : Int)) = false := decide_eq_false c74
                       clear c74
                       replace H := Option.bind_eq_some_iff.mp H
                       obtain ⟨t462, A1040, H⟩ := H
                       replace H : (if t462 = true then (some (x14_5 == (t450.length : Int))) else (none)) = some r := H
                       have A104 := Aside0.mk A1040
                       clear A1040
                       by_cases c105 : t462 = true
                       ·subst c105
                        have H1 : (some (x14_5 == (t450.length : Int))) = some r := by rw [if_pos rfl] at H; exact H
                        clear H
                        have H := H1
                        clear H1
                        obtain rfl := Option.some.inj H
                        have hcz106_0 : wr.cell? ⟨gb427, 0, none⟩ = some (.string a0_0) := (blk_cell BK427.out 0).trans rfl
                        have hcz106_1 : wr.cell? ⟨gb427, 1, none⟩ = some (.slice A0_1 l0_1.length c0_1) := (blk_cell BK427.out 1).trans rfl
                        have hcz106_2 : wr.cell? ⟨gb427, 2, none⟩ = some (.string a0_2) := (blk_cell BK427.out 2).trans rfl
                        have hcz106_3 : wr.cell? ⟨gb427, 3, none⟩ = some (.slice A0_3 l0_3.length c0_3) := (blk_cell BK427.out 3).trans rfl
                        have hcz106_4 : wr.cell? ⟨gb427, 4, none⟩ = some (.slice A0_4 l0_4.length c0_4) := (blk_cell BK427.out 4).trans rfl
                        have hcz106_5 : wr.cell? ⟨gb427, 5, none⟩ = some (.slice A0_5 l0_5.length c0_5) := (blk_cell BK427.out 5).trans rfl
                        have hfz106_0 := blk_frozen BK427.out 0
                        have hfz106_1 := blk_frozen BK427.out 1
                        have hfz106_2 := blk_frozen BK427.out 2
                        have hfz106_3 := blk_frozen BK427.out 3
                        have hfz106_4 := blk_frozen BK427.out 4
                        have hfz106_5 := blk_frozen BK427.out 5
                        go_wp2_with (first | (go_at_call 19; (with_reducible refine (truantlaw09_same.calls k5 _ _ t430 _ _ x4_2 true _ ?side1 ?side2 ?side3 ?side4 A104.out).mono ?_); (case side1 => repeat (first | exact (Kd.R_reads' HO_3.out).2.2 | (with_reducible refine Kd.C_alloc ?_ _) | (with_reducible refine Kd.C_drewN ?_ _) | (with_reducible refine Kd.C_drew ?_))); (case side2 => exact (Kd.R_reads' HO_3.out).2.1); (case side3 => repeat (first | exact (Kd.R_reads' HO_4.out).2.2 | (with_reducible refine Kd.C_alloc ?_ _) | (with_reducible refine Kd.C_drewN ?_ _) | (with_reducible refine Kd.C_drew ?_))); (case side4 => exact (Kd.R_reads' HO_4.out).2.1); rintro e w' ⟨rfl, ⟨nd, rfl⟩⟩; (try first | exact ⟨rfl, _, World.drewN_drewN _ _ _⟩ | exact ⟨rfl, _, Eq.trans (World.drewN_drewN _ _ _) (congrArg (World.drewN _) (Nat.add_assoc _ _ _))⟩); obtain ⟨Ao107, co107, eo107⟩ := Kd.R_slice HO_13.out; subst eo107))
                        repeat (go_quiet (first | (go_at_call 19; (with_reducible refine (truantlaw09_same.calls k5 _ _ t430 _ _ x4_2 true _ ?side1 ?side2 ?side3 ?side4 A104.out).mono ?_); (case side1 => repeat (first | exact (Kd.R_reads' HO_3.out).2.2 | (with_reducible refine Kd.C_alloc ?_ _) | (with_reducible refine Kd.C_drewN ?_ _) | (with_reducible refine Kd.C_drew ?_))); (case side2 => exact (Kd.R_reads' HO_3.out).2.1); (case side3 => repeat (first | exact (Kd.R_reads' HO_4.out).2.2 | (with_reducible refine Kd.C_alloc ?_ _) | (with_reducible refine Kd.C_drewN ?_ _) | (with_reducible refine Kd.C_drew ?_))); (case side4 => exact (Kd.R_reads' HO_4.out).2.1); rintro e w' ⟨rfl, ⟨nd, rfl⟩⟩; (try first | exact ⟨rfl, _, World.drewN_drewN _ _ _⟩ | exact ⟨rfl, _, Eq.trans (World.drewN_drewN _ _ _) (congrArg (World.drewN _) (Nat.add_assoc _ _ _))⟩); obtain ⟨Ao107, co107, eo107⟩ := Kd.R_slice HO_13.out; subst eo107)); try go_wp2_with (first | (go_at_call 19; (with_reducible refine (truantlaw09_same.calls k5 _ _ t430 _ _ x4_2 true _ ?side1 ?side2 ?side3 ?side4 A104.out).mono ?_); (case side1 => repeat (first | exact (Kd.R_reads' HO_3.out).2.2 | (with_reducible refine Kd.C_alloc ?_ _) | (with_reducible refine Kd.C_drewN ?_ _) | (with_reducible refine Kd.C_drew ?_))); (case side2 => exact (Kd.R_reads' HO_3.out).2.1); (case side3 => repeat (first | exact (Kd.R_reads' HO_4.out).2.2 | (with_reducible refine Kd.C_alloc ?_ _) | (with_reducible refine Kd.C_drewN ?_ _) | (with_reducible refine Kd.C_drew ?_))); (case side4 => exact (Kd.R_reads' HO_4.out).2.1); rintro e w' ⟨rfl, ⟨nd, rfl⟩⟩; (try first | exact ⟨rfl, _, World.drewN_drewN _ _ _⟩ | exact ⟨rfl, _, Eq.trans (World.drewN_drewN _ _ _) (congrArg (World.drewN _) (Nat.add_assoc _ _ _))⟩); obtain ⟨Ao107, co107, eo107⟩ := Kd.R_slice HO_13.out; subst eo107)))
                        go_ret
                        exact ⟨by first | rfl | (simp [errW_none, errW_some] <;> rfl) | (simp [*, errW_none, errW_some] <;> rfl), by repeat (first | (with_reducible first | exact HB.out | apply below_alloc | apply pw_below_drewN | apply below_drew1 | refine below_set ?_ GE427.out) | exact HB.out)⟩
                       ·replace c105 := Bool.eq_false_iff.mpr c105
                        subst c105
                        have H1 : (none) = some r := by rw [if_neg (show ¬ (false = true) by decide)] at H; exact H
                        clear H
                        have H := H1
                        clear H1
                        exact absurd H (by simp)
             ·rw [if_neg c49] at H
              exact absurd H (by simp)
            ·rw [if_neg c48] at H
             exact absurd H (by simp)
     ·rw [if_neg c13] at H
      exact absurd H (by simp)
    ·rw [if_neg c12] at H
     exact absurd H (by simp)
   ·rw [if_neg c11] at H
    exact absurd H (by simp)
 ·replace c3 := Bool.eq_false_iff.mpr c3
  subst c3
  have H1 : (none) = some r := by rw [if_neg (show ¬ (false = true) by decide)] at H; exact H
  clear H
  have H := H1
  clear H1
  exact absurd H (by simp)

end Go.Proofs.Ytclhjalgflebfaa.Q

