/- What the row of UIrUses rests on, part 2: contracts of the functions that it reaches, and the plain law. -/
import Derived.Test.YtkiiojgaaoaipaaDoorJUIrUses1
namespace Go.Proofs.YtkiiojgaaoaipaaDoor.Q
open Go.RowKit Go.Proofs.YtkiiojgaaoaipaaDoorW.PrintWords Go.Proofs.YtkiiojgaaoaipaaDoorW.PrintLast Go.Proofs.YtkiiojgaaoaipaaDoorW.PrintMore
attribute [local go_sem] max2_int min2_int max_two min_two max_three min_three max_four min_four   -- for this text's walks alone
set_option linter.unusedVariables false
set_option linter.unusedSimpArgs false
/-! ### ir_sameIns: function 53 -/
def ir_sameIns.f (k : Nat) (a0_0 : Int) (a0_1 : ByteArray) (l0_2 : List Int) (a0_3 : Int) (a0_4 : ByteArray) (a1_0 : Int) (a1_1 : ByteArray) (l1_2 : List Int) (a1_3 : Int) (a1_4 : ByteArray) : Option (Bool) := if a0_0 = a1_0 then (if a0_1.toList = a1_1.toList then (if a0_3 = a1_3 then (if a0_4.toList = a1_4.toList then ((slices_Equal_int_int.f k l0_2 l1_2).bind fun t236 => (some t236)) else (some false)) else (some false)) else (some false)) else (some false)
theorem ir_sameIns.mono : ∀ a0 a1 a2 a3 a4 a5 a6 a7 a8 a9 k, LeO (ir_sameIns.f k a0 a1 a2 a3 a4 a5 a6 a7 a8 a9) (ir_sameIns.f (k + 1) a0 a1 a2 a3 a4 a5 a6 a7 a8 a9) := by
 intro a0 a1 a2 a3 a4 a5 a6 a7 a8 a9 k
 unfold ir_sameIns.f
 repeat' first
   | (with_reducible exact slices_Equal_int_int.mono _ _ _)
   | (with_reducible exact LeO.refl _)
   | (with_reducible refine LeO.ite ?_ ?_)
   | (with_reducible refine LeO.bind ?_ (fun _ => ?_))
set_option maxHeartbeats 8000000 in
set_option maxRecDepth 100000 in
theorem ir_sameIns.calls (k : Nat) (a0_0 : Int) (a0_1 : ByteArray) (A0_2 : Option Addr) (c0_2 : Nat) (l0_2 : List Int) (a0_3 : Int) (a0_4 : ByteArray) (a1_0 : Int) (a1_1 : ByteArray) (A1_2 : Option Addr) (c1_2 : Nat) (l1_2 : List Int) (a1_3 : Int) (a1_4 : ByteArray) (r : Bool) (w : World) (hr0_2 : Kd.C (Kd.int .i64) w A0_2 l0_2.length l0_2) (hc0_2 : l0_2.length ≤ c0_2) (hr1_2 : Kd.C (Kd.int .i64) w A1_2 l1_2.length l1_2) (hc1_2 : l1_2.length ≤ c1_2) (h : ir_sameIns.f k a0_0 a0_1 l0_2 a0_3 a0_4 a1_0 a1_1 l1_2 a1_3 a1_4 = some r) :
  Calls Tryd.prog 53 #[.agg #[.int .i64 a0_0, .string a0_1, .slice A0_2 l0_2.length c0_2, .int .i64 a0_3, .string a0_4], .agg #[.int .i64 a1_0, .string a1_1, .slice A1_2 l1_2.length c1_2, .int .i64 a1_3, .string a1_4]] w fun e w' => e = .returned (.bool r) ∧ Below w.heap.size w w' := by
 have hu47 := Tryd.underlying47
 have HR0_2 := Aside0.mk hr0_2
 have HC0_2 := Aside0.mk hc0_2
 clear hr0_2 hc0_2
 have HR1_2 := Aside0.mk hr1_2
 have HC1_2 := Aside0.mk hc1_2
 clear hr1_2 hc1_2
 have HB := Aside0.mk (Below.refl w.heap.size w)
 have H : (if a0_0 = a1_0 then (if a0_1.toList = a1_1.toList then (if a0_3 = a1_3 then (if a0_4.toList = a1_4.toList then ((slices_Equal_int_int.f k l0_2 l1_2).bind fun t236 => (some t236)) else (some false)) else (some false)) else (some false)) else (some false)) = some r := h
 clear h
 by_cases c3 : a0_0 = a1_0
 ·rw [if_pos c3] at H
  have c3b0 : (a0_0 == a1_0) = true := beq_iff_eq.mpr c3
  have c3b1 : (a0_0 != a1_0) = false := bne_eq_false_iff_eq.mpr c3
  clear c3
  by_cases c4 : a0_1.toList = a1_1.toList
  ·rw [if_pos c4] at H
   have c4b0 : (a0_1.toList == a1_1.toList) = true := beq_iff_eq.mpr c4
   have c4b1 : (a0_1.toList != a1_1.toList) = false := bne_eq_false_iff_eq.mpr c4
   clear c4
   by_cases c5 : a0_3 = a1_3
   ·rw [if_pos c5] at H
    have c5b0 : (a0_3 == a1_3) = true := beq_iff_eq.mpr c5
    have c5b1 : (a0_3 != a1_3) = false := bne_eq_false_iff_eq.mpr c5
    clear c5
    by_cases c6 : a0_4.toList = a1_4.toList
    ·rw [if_pos c6] at H
     have c6b0 : (a0_4.toList == a1_4.toList) = true := beq_iff_eq.mpr c6
     have c6b1 : (a0_4.toList != a1_4.toList) = false := bne_eq_false_iff_eq.mpr c6
     clear c6
     replace H := Option.bind_eq_some_iff.mp H
     obtain ⟨t236, A70, H⟩ := H
     (try dsimp only at H)
     have A7 := Aside0.mk A70
     clear A70
     obtain rfl := Option.some.inj H
     go_enter Tryd.func53, Tryd.ntmps53
     go_wp2_with (first | ((with_reducible refine gate_dst (N := 2) rfl ?_); refine box_event ?hg (N := 2) ?hd (cs := #[.int .i64 a0_0, .string a0_1, .slice A0_2 l0_2.length c0_2, .int .i64 a0_3, .string a0_4]) (t := 47) ?hr ?_; (case hd => rfl); (case hg => rfl); (case hr => first | (go_simp; done) | (go_simp; rfl)); intro gb234 hg w8 hbox hb; have n0_ := Aside0.mk (below_step (bq51) hb); have n1_ := Aside0.mk (hbox); have n2_ := Aside0.mk ((bq35 : w.heap.size ≤ gb234)); have n3_ := Aside0.mk ((bq35 : w.heap.size ≤ gb234)); clear HB; have HB := n0_; have BK234 := n1_; have GW234 := n2_; have GE234 := n3_; clear n0_ n1_ n2_ n3_ hb hbox hg) | ((with_reducible refine gate_dst (N := 3) rfl ?_); refine box_event ?hg (N := 3) ?hd (cs := #[.int .i64 a1_0, .string a1_1, .slice A1_2 l1_2.length c1_2, .int .i64 a1_3, .string a1_4]) (t := 47) ?hr ?_; (case hd => rfl); (case hg => rfl); (case hr => first | (go_simp; done) | (go_simp; rfl)); intro gb235 hg w9 hbox hb; have n0_ := Aside0.mk (blkB BK234.out hb); have n1_ := Aside0.mk (below_step (bq40) hb); have n2_ := Aside0.mk (hbox); have n3_ := Aside0.mk ((bq18 : w.heap.size ≤ gb235)); have n4_ := Aside0.mk ((bq18 : w.heap.size ≤ gb235)); have n5_ := Aside0.mk ((bq81 : gb234 ≠ gb235)); have n6_ := Aside0.mk ((bq82 : gb235 ≠ gb234)); clear BK234 HB; have BK234 := n0_; have HB := n1_; have BK235 := n2_; have GW235 := n3_; have GE235 := n4_; have NB234_235 := n5_; have NB235_234 := n6_; clear n0_ n1_ n2_ n3_ n4_ n5_ n6_ hb hbox hg; have hnb10 := NB234_235.out; have hnc10 := NB235_234.out; obtain ⟨hcz11_0, hcz11_1, hcz11_2, hcz11_3, hcz11_4, hfz11_0, hfz11_1, hfz11_2, hfz11_3, hfz11_4⟩ := bk5 BK234.out; obtain ⟨hcz12_0, hcz12_1, hcz12_2, hcz12_3, hcz12_4, hfz12_0, hfz12_1, hfz12_2, hfz12_3, hfz12_4⟩ := bk5 BK235.out) | (go_at_call 64; (with_reducible refine (slices_Equal_int_int.calls k _ _ l0_2 _ _ l1_2 t236 _ ?side1 ?side2 ?side3 ?side4 A7.out).mono ?_); (case side1 => repeat (first | exact (Kd.C_below HR0_2.out HB.out) | (with_reducible refine Kd.C_alloc ?_ _) | (with_reducible refine Kd.C_drewN ?_ _) | (with_reducible refine Kd.C_drew ?_))); (case side2 => exact HC0_2.out); (case side3 => repeat (first | exact (Kd.C_below HR1_2.out HB.out) | (with_reducible refine Kd.C_alloc ?_ _) | (with_reducible refine Kd.C_drewN ?_ _) | (with_reducible refine Kd.C_drew ?_))); (case side4 => exact HC1_2.out); rintro e w' ⟨rfl, ⟨nd, rfl⟩⟩))
     go_ret
     exact ⟨by first | rfl | (simp [errW_none, errW_some] <;> rfl) | (simp [*, errW_none, errW_some] <;> rfl), by repeat (first | (with_reducible first | exact HB.out | apply below_alloc | apply pw_below_drewN | apply below_drew1 | refine below_set ?_ GE234.out | refine below_set ?_ GE235.out) | exact HB.out)⟩
    ·rw [if_neg c6] at H
     have c6b0 : (a0_4.toList == a1_4.toList) = false := beq_eq_false_iff_ne.mpr c6
     have c6b1 : (a0_4.toList != a1_4.toList) = true := bne_iff_ne.mpr c6
     obtain rfl := Option.some.inj H
     go_enter Tryd.func53, Tryd.ntmps53
     go_wp2_with (first | ((with_reducible refine gate_dst (N := 2) rfl ?_); refine box_event ?hg (N := 2) ?hd (cs := #[.int .i64 a0_0, .string a0_1, .slice A0_2 l0_2.length c0_2, .int .i64 a0_3, .string a0_4]) (t := 47) ?hr ?_; (case hd => rfl); (case hg => rfl); (case hr => first | (go_simp; done) | (go_simp; rfl)); intro gb234 hg w13 hbox hb; have n0_ := Aside0.mk (below_step (bq51) hb); have n1_ := Aside0.mk (hbox); have n2_ := Aside0.mk ((bq35 : w.heap.size ≤ gb234)); have n3_ := Aside0.mk ((bq35 : w.heap.size ≤ gb234)); clear HB; have HB := n0_; have BK234 := n1_; have GW234 := n2_; have GE234 := n3_; clear n0_ n1_ n2_ n3_ hb hbox hg) | ((with_reducible refine gate_dst (N := 3) rfl ?_); refine box_event ?hg (N := 3) ?hd (cs := #[.int .i64 a1_0, .string a1_1, .slice A1_2 l1_2.length c1_2, .int .i64 a1_3, .string a1_4]) (t := 47) ?hr ?_; (case hd => rfl); (case hg => rfl); (case hr => first | (go_simp; done) | (go_simp; rfl)); intro gb235 hg w14 hbox hb; have n0_ := Aside0.mk (blkB BK234.out hb); have n1_ := Aside0.mk (below_step (bq40) hb); have n2_ := Aside0.mk (hbox); have n3_ := Aside0.mk ((bq18 : w.heap.size ≤ gb235)); have n4_ := Aside0.mk ((bq18 : w.heap.size ≤ gb235)); have n5_ := Aside0.mk ((bq81 : gb234 ≠ gb235)); have n6_ := Aside0.mk ((bq82 : gb235 ≠ gb234)); clear BK234 HB; have BK234 := n0_; have HB := n1_; have BK235 := n2_; have GW235 := n3_; have GE235 := n4_; have NB234_235 := n5_; have NB235_234 := n6_; clear n0_ n1_ n2_ n3_ n4_ n5_ n6_ hb hbox hg; have hnb15 := NB234_235.out; have hnc15 := NB235_234.out; obtain ⟨hcz16_0, hcz16_1, hcz16_2, hcz16_3, hcz16_4, hfz16_0, hfz16_1, hfz16_2, hfz16_3, hfz16_4⟩ := bk5 BK234.out; obtain ⟨hcz17_0, hcz17_1, hcz17_2, hcz17_3, hcz17_4, hfz17_0, hfz17_1, hfz17_2, hfz17_3, hfz17_4⟩ := bk5 BK235.out))
     go_ret
     exact ⟨by first | rfl | (simp [errW_none, errW_some] <;> rfl) | (simp [*, errW_none, errW_some] <;> rfl), by repeat (first | (with_reducible first | exact HB.out | apply below_alloc | apply pw_below_drewN | apply below_drew1 | refine below_set ?_ GE234.out | refine below_set ?_ GE235.out) | exact HB.out)⟩
   ·rw [if_neg c5] at H
    have c5b0 : (a0_3 == a1_3) = false := beq_eq_false_iff_ne.mpr c5
    have c5b1 : (a0_3 != a1_3) = true := bne_iff_ne.mpr c5
    obtain rfl := Option.some.inj H
    go_enter Tryd.func53, Tryd.ntmps53
    go_wp2_with (first | ((with_reducible refine gate_dst (N := 2) rfl ?_); refine box_event ?hg (N := 2) ?hd (cs := #[.int .i64 a0_0, .string a0_1, .slice A0_2 l0_2.length c0_2, .int .i64 a0_3, .string a0_4]) (t := 47) ?hr ?_; (case hd => rfl); (case hg => rfl); (case hr => first | (go_simp; done) | (go_simp; rfl)); intro gb234 hg w18 hbox hb; have n0_ := Aside0.mk (below_step (bq51) hb); have n1_ := Aside0.mk (hbox); have n2_ := Aside0.mk ((bq35 : w.heap.size ≤ gb234)); have n3_ := Aside0.mk ((bq35 : w.heap.size ≤ gb234)); clear HB; have HB := n0_; have BK234 := n1_; have GW234 := n2_; have GE234 := n3_; clear n0_ n1_ n2_ n3_ hb hbox hg) | ((with_reducible refine gate_dst (N := 3) rfl ?_); refine box_event ?hg (N := 3) ?hd (cs := #[.int .i64 a1_0, .string a1_1, .slice A1_2 l1_2.length c1_2, .int .i64 a1_3, .string a1_4]) (t := 47) ?hr ?_; (case hd => rfl); (case hg => rfl); (case hr => first | (go_simp; done) | (go_simp; rfl)); intro gb235 hg w19 hbox hb; have n0_ := Aside0.mk (blkB BK234.out hb); have n1_ := Aside0.mk (below_step (bq40) hb); have n2_ := Aside0.mk (hbox); have n3_ := Aside0.mk ((bq18 : w.heap.size ≤ gb235)); have n4_ := Aside0.mk ((bq18 : w.heap.size ≤ gb235)); have n5_ := Aside0.mk ((bq81 : gb234 ≠ gb235)); have n6_ := Aside0.mk ((bq82 : gb235 ≠ gb234)); clear BK234 HB; have BK234 := n0_; have HB := n1_; have BK235 := n2_; have GW235 := n3_; have GE235 := n4_; have NB234_235 := n5_; have NB235_234 := n6_; clear n0_ n1_ n2_ n3_ n4_ n5_ n6_ hb hbox hg; have hnb20 := NB234_235.out; have hnc20 := NB235_234.out; obtain ⟨hcz21_0, hcz21_1, hcz21_2, hcz21_3, hcz21_4, hfz21_0, hfz21_1, hfz21_2, hfz21_3, hfz21_4⟩ := bk5 BK234.out; obtain ⟨hcz22_0, hcz22_1, hcz22_2, hcz22_3, hcz22_4, hfz22_0, hfz22_1, hfz22_2, hfz22_3, hfz22_4⟩ := bk5 BK235.out))
    go_ret
    exact ⟨by first | rfl | (simp [errW_none, errW_some] <;> rfl) | (simp [*, errW_none, errW_some] <;> rfl), by repeat (first | (with_reducible first | exact HB.out | apply below_alloc | apply pw_below_drewN | apply below_drew1 | refine below_set ?_ GE234.out | refine below_set ?_ GE235.out) | exact HB.out)⟩
  ·rw [if_neg c4] at H
   have c4b0 : (a0_1.toList == a1_1.toList) = false := beq_eq_false_iff_ne.mpr c4
   have c4b1 : (a0_1.toList != a1_1.toList) = true := bne_iff_ne.mpr c4
   obtain rfl := Option.some.inj H
   go_enter Tryd.func53, Tryd.ntmps53
   go_wp2_with (first | ((with_reducible refine gate_dst (N := 2) rfl ?_); refine box_event ?hg (N := 2) ?hd (cs := #[.int .i64 a0_0, .string a0_1, .slice A0_2 l0_2.length c0_2, .int .i64 a0_3, .string a0_4]) (t := 47) ?hr ?_; (case hd => rfl); (case hg => rfl); (case hr => first | (go_simp; done) | (go_simp; rfl)); intro gb234 hg w23 hbox hb; have n0_ := Aside0.mk (below_step (bq51) hb); have n1_ := Aside0.mk (hbox); have n2_ := Aside0.mk ((bq35 : w.heap.size ≤ gb234)); have n3_ := Aside0.mk ((bq35 : w.heap.size ≤ gb234)); clear HB; have HB := n0_; have BK234 := n1_; have GW234 := n2_; have GE234 := n3_; clear n0_ n1_ n2_ n3_ hb hbox hg) | ((with_reducible refine gate_dst (N := 3) rfl ?_); refine box_event ?hg (N := 3) ?hd (cs := #[.int .i64 a1_0, .string a1_1, .slice A1_2 l1_2.length c1_2, .int .i64 a1_3, .string a1_4]) (t := 47) ?hr ?_; (case hd => rfl); (case hg => rfl); (case hr => first | (go_simp; done) | (go_simp; rfl)); intro gb235 hg w24 hbox hb; have n0_ := Aside0.mk (blkB BK234.out hb); have n1_ := Aside0.mk (below_step (bq40) hb); have n2_ := Aside0.mk (hbox); have n3_ := Aside0.mk ((bq18 : w.heap.size ≤ gb235)); have n4_ := Aside0.mk ((bq18 : w.heap.size ≤ gb235)); have n5_ := Aside0.mk ((bq81 : gb234 ≠ gb235)); have n6_ := Aside0.mk ((bq82 : gb235 ≠ gb234)); clear BK234 HB; have BK234 := n0_; have HB := n1_; have BK235 := n2_; have GW235 := n3_; have GE235 := n4_; have NB234_235 := n5_; have NB235_234 := n6_; clear n0_ n1_ n2_ n3_ n4_ n5_ n6_ hb hbox hg; have hnb25 := NB234_235.out; have hnc25 := NB235_234.out; obtain ⟨hcz26_0, hcz26_1, hcz26_2, hcz26_3, hcz26_4, hfz26_0, hfz26_1, hfz26_2, hfz26_3, hfz26_4⟩ := bk5 BK234.out; obtain ⟨hcz27_0, hcz27_1, hcz27_2, hcz27_3, hcz27_4, hfz27_0, hfz27_1, hfz27_2, hfz27_3, hfz27_4⟩ := bk5 BK235.out))
   go_ret
   exact ⟨by first | rfl | (simp [errW_none, errW_some] <;> rfl) | (simp [*, errW_none, errW_some] <;> rfl), by repeat (first | (with_reducible first | exact HB.out | apply below_alloc | apply pw_below_drewN | apply below_drew1 | refine below_set ?_ GE234.out | refine below_set ?_ GE235.out) | exact HB.out)⟩
 ·rw [if_neg c3] at H
  have c3b0 : (a0_0 == a1_0) = false := beq_eq_false_iff_ne.mpr c3
  have c3b1 : (a0_0 != a1_0) = true := bne_iff_ne.mpr c3
  obtain rfl := Option.some.inj H
  go_enter Tryd.func53, Tryd.ntmps53
  go_wp2_with (first | ((with_reducible refine gate_dst (N := 2) rfl ?_); refine box_event ?hg (N := 2) ?hd (cs := #[.int .i64 a0_0, .string a0_1, .slice A0_2 l0_2.length c0_2, .int .i64 a0_3, .string a0_4]) (t := 47) ?hr ?_; (case hd => rfl); (case hg => rfl); (case hr => first | (go_simp; done) | (go_simp; rfl)); intro gb234 hg w28 hbox hb; have n0_ := Aside0.mk (below_step (bq51) hb); have n1_ := Aside0.mk (hbox); have n2_ := Aside0.mk ((bq35 : w.heap.size ≤ gb234)); have n3_ := Aside0.mk ((bq35 : w.heap.size ≤ gb234)); clear HB; have HB := n0_; have BK234 := n1_; have GW234 := n2_; have GE234 := n3_; clear n0_ n1_ n2_ n3_ hb hbox hg) | ((with_reducible refine gate_dst (N := 3) rfl ?_); refine box_event ?hg (N := 3) ?hd (cs := #[.int .i64 a1_0, .string a1_1, .slice A1_2 l1_2.length c1_2, .int .i64 a1_3, .string a1_4]) (t := 47) ?hr ?_; (case hd => rfl); (case hg => rfl); (case hr => first | (go_simp; done) | (go_simp; rfl)); intro gb235 hg w29 hbox hb; have n0_ := Aside0.mk (blkB BK234.out hb); have n1_ := Aside0.mk (below_step (bq40) hb); have n2_ := Aside0.mk (hbox); have n3_ := Aside0.mk ((bq18 : w.heap.size ≤ gb235)); have n4_ := Aside0.mk ((bq18 : w.heap.size ≤ gb235)); have n5_ := Aside0.mk ((bq81 : gb234 ≠ gb235)); have n6_ := Aside0.mk ((bq82 : gb235 ≠ gb234)); clear BK234 HB; have BK234 := n0_; have HB := n1_; have BK235 := n2_; have GW235 := n3_; have GE235 := n4_; have NB234_235 := n5_; have NB235_234 := n6_; clear n0_ n1_ n2_ n3_ n4_ n5_ n6_ hb hbox hg; have hnb30 := NB234_235.out; have hnc30 := NB235_234.out; obtain ⟨hcz31_0, hcz31_1, hcz31_2, hcz31_3, hcz31_4, hfz31_0, hfz31_1, hfz31_2, hfz31_3, hfz31_4⟩ := bk5 BK234.out; obtain ⟨hcz32_0, hcz32_1, hcz32_2, hcz32_3, hcz32_4, hfz32_0, hfz32_1, hfz32_2, hfz32_3, hfz32_4⟩ := bk5 BK235.out))
  go_ret
  exact ⟨by first | rfl | (simp [errW_none, errW_some] <;> rfl) | (simp [*, errW_none, errW_some] <;> rfl), by repeat (first | (with_reducible first | exact HB.out | apply below_alloc | apply pw_below_drewN | apply below_drew1 | refine below_set ?_ GE234.out | refine below_set ?_ GE235.out) | exact HB.out)⟩
theorem eqA51 (d : Nat) (w : World) (x0 y0 : Int) (x1 y1 : Int) :
  (Op.equalIn (d + 2) 51 (.agg #[.int .i64 x0, .int .i64 x1]) (.agg #[.int .i64 y0, .int .i64 y1])).run Tryd.prog w = .ok (x0 == y0 && (x1 == y1)) w := by
 have hs : (Tryd.prog.info? 3).isSome = true := by kernel_rfl
 obtain ⟨i, hi⟩ := Option.isSome_iff_exists.mp hs
 have hc : Tryd.prog.cellsOf 3 = 1 := by kernel_rfl
 have h1 : ∀ a b : Int, (Op.equalIn (d + 1) 3 (.int .i64 a) (.int .i64 b)).run Tryd.prog w = .ok (a == b) w := fun a b => by go_simp
 have p0 : ∀ a b : Int, (part 3 #[.int .i64 a, .int .i64 b] 0).run Tryd.prog w = .ok (.int .i64 a) w := fun a b => by go_simp
 have p1 : ∀ a b : Int, (part 3 #[.int .i64 a, .int .i64 b] 1).run Tryd.prog w = .ok (.int .i64 b) w := fun a b => by go_simp
 rw [Go.run_equalIn_array w (d + 1) _ _ Tryd.underlying51 hi, hc]
 show (Op.eqItems (d + 1) 3 1 _ _ [0, 1]).run Tryd.prog w = _
 simp only [Op.eqItems, Sem.run_bind, Nat.zero_mul, Nat.one_mul, p0, h1, Result.andThen_ok]
 cases (x0 == y0)
 ·simp
 ·simp only [Bool.not_true, Bool.false_eq_true, if_false, Sem.run_bind, p1, h1, Result.andThen_ok]
  cases (x1 == y1) <;> simp
end Go.Proofs.YtkiiojgaaoaipaaDoor.Q
namespace Go.Proofs.YtkiiojgaaoaipaaDoor.Q
open Go.RowKit Go.Proofs.YtkiiojgaaoaipaaDoorW.PrintWords Go.Proofs.YtkiiojgaaoaipaaDoorW.PrintLast Go.Proofs.YtkiiojgaaoaipaaDoorW.PrintMore
attribute [local go_sem] max2_int min2_int max_two min_two max_three min_three max_four min_four   -- for this text's walks alone
set_option linter.unusedVariables false
set_option linter.unusedSimpArgs false
attribute [local go_sem high] eqA51
/-! ### ir_sameBlock: function 55 -/
def ir_sameBlock.f (k : Nat) (l0_0 : List Int) (a0_1 : Int) (a0_2 : Int) (a0_3 : Int) (a0_4 : Int) (l1_0 : List Int) (a1_1 : Int) (a1_2 : Int) (a1_3 : Int) (a1_4 : Int) : Option (Bool) := if a0_1 = a1_1 then (if a0_2 = a1_2 then (if (a0_3 == a1_3 && (a0_4 == a1_4)) = true then ((slices_Equal_int_int.f k l0_0 l1_0).bind fun t239 => (some t239)) else (some false)) else (some false)) else (some false)
theorem ir_sameBlock.mono : ∀ a0 a1 a2 a3 a4 a5 a6 a7 a8 a9 k, LeO (ir_sameBlock.f k a0 a1 a2 a3 a4 a5 a6 a7 a8 a9) (ir_sameBlock.f (k + 1) a0 a1 a2 a3 a4 a5 a6 a7 a8 a9) := by
 intro a0 a1 a2 a3 a4 a5 a6 a7 a8 a9 k
 unfold ir_sameBlock.f
 repeat' first
   | (with_reducible exact slices_Equal_int_int.mono _ _ _)
   | (with_reducible exact LeO.refl _)
   | (with_reducible refine LeO.ite ?_ ?_)
   | (with_reducible refine LeO.bind ?_ (fun _ => ?_))
set_option maxHeartbeats 8000000 in
set_option maxRecDepth 100000 in
theorem ir_sameBlock.calls (k : Nat) (A0_0 : Option Addr) (c0_0 : Nat) (l0_0 : List Int) (a0_1 : Int) (a0_2 : Int) (a0_3 : Int) (a0_4 : Int) (A1_0 : Option Addr) (c1_0 : Nat) (l1_0 : List Int) (a1_1 : Int) (a1_2 : Int) (a1_3 : Int) (a1_4 : Int) (r : Bool) (w : World) (hr0_0 : Kd.C (Kd.int .i64) w A0_0 l0_0.length l0_0) (hc0_0 : l0_0.length ≤ c0_0) (hr1_0 : Kd.C (Kd.int .i64) w A1_0 l1_0.length l1_0) (hc1_0 : l1_0.length ≤ c1_0) (h : ir_sameBlock.f k l0_0 a0_1 a0_2 a0_3 a0_4 l1_0 a1_1 a1_2 a1_3 a1_4 = some r) :
  Calls Tryd.prog 55 #[.agg #[.slice A0_0 l0_0.length c0_0, .int .i64 a0_1, .int .i64 a0_2, .int .i64 a0_3, .int .i64 a0_4], .agg #[.slice A1_0 l1_0.length c1_0, .int .i64 a1_1, .int .i64 a1_2, .int .i64 a1_3, .int .i64 a1_4]] w fun e w' => e = .returned (.bool r) ∧ Below w.heap.size w w' := by
 have hu53 := Tryd.underlying53
 have hu51 := Tryd.underlying51
 have HR0_0 := Aside0.mk hr0_0
 have HC0_0 := Aside0.mk hc0_0
 clear hr0_0 hc0_0
 have HR1_0 := Aside0.mk hr1_0
 have HC1_0 := Aside0.mk hc1_0
 clear hr1_0 hc1_0
 have HB := Aside0.mk (Below.refl w.heap.size w)
 have H : (if a0_1 = a1_1 then (if a0_2 = a1_2 then (if (a0_3 == a1_3 && (a0_4 == a1_4)) = true then ((slices_Equal_int_int.f k l0_0 l1_0).bind fun t239 => (some t239)) else (some false)) else (some false)) else (some false)) = some r := h
 clear h
 by_cases c3 : a0_1 = a1_1
 ·rw [if_pos c3] at H
  have c3b0 : (a0_1 == a1_1) = true := beq_iff_eq.mpr c3
  have c3b1 : (a0_1 != a1_1) = false := bne_eq_false_iff_eq.mpr c3
  clear c3
  by_cases c4 : a0_2 = a1_2
  ·rw [if_pos c4] at H
   have c4b0 : (a0_2 == a1_2) = true := beq_iff_eq.mpr c4
   have c4b1 : (a0_2 != a1_2) = false := bne_eq_false_iff_eq.mpr c4
   clear c4
   by_cases c5 : (a0_3 == a1_3 && (a0_4 == a1_4)) = true
   ·rw [if_pos c5] at H
    have c5b0 : (a0_3 == a1_3 && (a0_4 == a1_4)) = true := c5
    (try (have c5b1 : decide (a0_3 = a1_3 && (a0_4 == a1_4)) = true := by simpa using c5))
    (try (have c5b2 : (a0_3 == a1_3 && (a0_4 == a1_4)) = true := by simpa using c5))
    clear c5
    replace H := Option.bind_eq_some_iff.mp H
    obtain ⟨t239, A60, H⟩ := H
    (try dsimp only at H)
    have A6 := Aside0.mk A60
    clear A60
    obtain rfl := Option.some.inj H
    go_enter Tryd.func55, Tryd.ntmps55
    go_wp2_with (first | ((with_reducible refine gate_dst (N := 2) rfl ?_); refine box_event ?hg (N := 2) ?hd (cs := #[.slice A0_0 l0_0.length c0_0, .int .i64 a0_1, .int .i64 a0_2, .int .i64 a0_3, .int .i64 a0_4]) (t := 53) ?hr ?_; (case hd => rfl); (case hg => rfl); (case hr => first | (go_simp; done) | (go_simp; rfl)); intro gb237 hg w7 hbox hb; have n0_ := Aside0.mk (below_step (bq51) hb); have n1_ := Aside0.mk (hbox); have n2_ := Aside0.mk ((bq35 : w.heap.size ≤ gb237)); have n3_ := Aside0.mk ((bq35 : w.heap.size ≤ gb237)); clear HB; have HB := n0_; have BK237 := n1_; have GW237 := n2_; have GE237 := n3_; clear n0_ n1_ n2_ n3_ hb hbox hg) | ((with_reducible refine gate_dst (N := 3) rfl ?_); refine box_event ?hg (N := 3) ?hd (cs := #[.slice A1_0 l1_0.length c1_0, .int .i64 a1_1, .int .i64 a1_2, .int .i64 a1_3, .int .i64 a1_4]) (t := 53) ?hr ?_; (case hd => rfl); (case hg => rfl); (case hr => first | (go_simp; done) | (go_simp; rfl)); intro gb238 hg w8 hbox hb; have n0_ := Aside0.mk (blkB BK237.out hb); have n1_ := Aside0.mk (below_step (bq41) hb); have n2_ := Aside0.mk (hbox); have n3_ := Aside0.mk ((bq19 : w.heap.size ≤ gb238)); have n4_ := Aside0.mk ((bq19 : w.heap.size ≤ gb238)); have n5_ := Aside0.mk ((bq83 : gb237 ≠ gb238)); have n6_ := Aside0.mk ((bq84 : gb238 ≠ gb237)); clear BK237 HB; have BK237 := n0_; have HB := n1_; have BK238 := n2_; have GW238 := n3_; have GE238 := n4_; have NB237_238 := n5_; have NB238_237 := n6_; clear n0_ n1_ n2_ n3_ n4_ n5_ n6_ hb hbox hg; have hnb9 := NB237_238.out; have hnc9 := NB238_237.out; obtain ⟨hcz10_0, hcz10_1, hcz10_2, hcz10_3, hcz10_4, hfz10_0, hfz10_1, hfz10_2, hfz10_3, hfz10_4⟩ := bk5 BK237.out; obtain ⟨hcz11_0, hcz11_1, hcz11_2, hcz11_3, hcz11_4, hfz11_0, hfz11_1, hfz11_2, hfz11_3, hfz11_4⟩ := bk5 BK238.out) | (go_at_call 64; (with_reducible refine (slices_Equal_int_int.calls k _ _ l0_0 _ _ l1_0 t239 _ ?side1 ?side2 ?side3 ?side4 A6.out).mono ?_); (case side1 => repeat (first | exact (Kd.C_below HR0_0.out HB.out) | (with_reducible refine Kd.C_alloc ?_ _) | (with_reducible refine Kd.C_drewN ?_ _) | (with_reducible refine Kd.C_drew ?_))); (case side2 => exact HC0_0.out); (case side3 => repeat (first | exact (Kd.C_below HR1_0.out HB.out) | (with_reducible refine Kd.C_alloc ?_ _) | (with_reducible refine Kd.C_drewN ?_ _) | (with_reducible refine Kd.C_drew ?_))); (case side4 => exact HC1_0.out); rintro e w' ⟨rfl, ⟨nd, rfl⟩⟩))
    go_ret
    exact ⟨by first | rfl | (simp [errW_none, errW_some] <;> rfl) | (simp [*, errW_none, errW_some] <;> rfl), by repeat (first | (with_reducible first | exact HB.out | apply below_alloc | apply pw_below_drewN | apply below_drew1 | refine below_set ?_ GE237.out | refine below_set ?_ GE238.out) | exact HB.out)⟩
   ·rw [if_neg c5] at H
    have c5b0 : (a0_3 == a1_3 && (a0_4 == a1_4)) = false := by simpa using c5
    (try (have c5b1 : decide (a0_3 = a1_3 && (a0_4 == a1_4)) = false := by simpa using c5))
    (try (have c5b2 : (a0_3 == a1_3 && (a0_4 == a1_4)) = false := by simpa using c5))
    (try (have c5b3 : ¬ (a0_3 = a1_3 && (a0_4 == a1_4)) := by simpa using c5))
    clear c5
    obtain rfl := Option.some.inj H
    go_enter Tryd.func55, Tryd.ntmps55
    go_wp2_with (first | ((with_reducible refine gate_dst (N := 2) rfl ?_); refine box_event ?hg (N := 2) ?hd (cs := #[.slice A0_0 l0_0.length c0_0, .int .i64 a0_1, .int .i64 a0_2, .int .i64 a0_3, .int .i64 a0_4]) (t := 53) ?hr ?_; (case hd => rfl); (case hg => rfl); (case hr => first | (go_simp; done) | (go_simp; rfl)); intro gb237 hg w12 hbox hb; have n0_ := Aside0.mk (below_step (bq51) hb); have n1_ := Aside0.mk (hbox); have n2_ := Aside0.mk ((bq35 : w.heap.size ≤ gb237)); have n3_ := Aside0.mk ((bq35 : w.heap.size ≤ gb237)); clear HB; have HB := n0_; have BK237 := n1_; have GW237 := n2_; have GE237 := n3_; clear n0_ n1_ n2_ n3_ hb hbox hg) | ((with_reducible refine gate_dst (N := 3) rfl ?_); refine box_event ?hg (N := 3) ?hd (cs := #[.slice A1_0 l1_0.length c1_0, .int .i64 a1_1, .int .i64 a1_2, .int .i64 a1_3, .int .i64 a1_4]) (t := 53) ?hr ?_; (case hd => rfl); (case hg => rfl); (case hr => first | (go_simp; done) | (go_simp; rfl)); intro gb238 hg w13 hbox hb; have n0_ := Aside0.mk (blkB BK237.out hb); have n1_ := Aside0.mk (below_step (bq41) hb); have n2_ := Aside0.mk (hbox); have n3_ := Aside0.mk ((bq19 : w.heap.size ≤ gb238)); have n4_ := Aside0.mk ((bq19 : w.heap.size ≤ gb238)); have n5_ := Aside0.mk ((bq83 : gb237 ≠ gb238)); have n6_ := Aside0.mk ((bq84 : gb238 ≠ gb237)); clear BK237 HB; have BK237 := n0_; have HB := n1_; have BK238 := n2_; have GW238 := n3_; have GE238 := n4_; have NB237_238 := n5_; have NB238_237 := n6_; clear n0_ n1_ n2_ n3_ n4_ n5_ n6_ hb hbox hg; have hnb14 := NB237_238.out; have hnc14 := NB238_237.out; obtain ⟨hcz15_0, hcz15_1, hcz15_2, hcz15_3, hcz15_4, hfz15_0, hfz15_1, hfz15_2, hfz15_3, hfz15_4⟩ := bk5 BK237.out; obtain ⟨hcz16_0, hcz16_1, hcz16_2, hcz16_3, hcz16_4, hfz16_0, hfz16_1, hfz16_2, hfz16_3, hfz16_4⟩ := bk5 BK238.out))
    go_ret
    exact ⟨by first | rfl | (simp [errW_none, errW_some] <;> rfl) | (simp [*, errW_none, errW_some] <;> rfl), by repeat (first | (with_reducible first | exact HB.out | apply below_alloc | apply pw_below_drewN | apply below_drew1 | refine below_set ?_ GE237.out | refine below_set ?_ GE238.out) | exact HB.out)⟩
  ·rw [if_neg c4] at H
   have c4b0 : (a0_2 == a1_2) = false := beq_eq_false_iff_ne.mpr c4
   have c4b1 : (a0_2 != a1_2) = true := bne_iff_ne.mpr c4
   obtain rfl := Option.some.inj H
   go_enter Tryd.func55, Tryd.ntmps55
   go_wp2_with (first | ((with_reducible refine gate_dst (N := 2) rfl ?_); refine box_event ?hg (N := 2) ?hd (cs := #[.slice A0_0 l0_0.length c0_0, .int .i64 a0_1, .int .i64 a0_2, .int .i64 a0_3, .int .i64 a0_4]) (t := 53) ?hr ?_; (case hd => rfl); (case hg => rfl); (case hr => first | (go_simp; done) | (go_simp; rfl)); intro gb237 hg w17 hbox hb; have n0_ := Aside0.mk (below_step (bq51) hb); have n1_ := Aside0.mk (hbox); have n2_ := Aside0.mk ((bq35 : w.heap.size ≤ gb237)); have n3_ := Aside0.mk ((bq35 : w.heap.size ≤ gb237)); clear HB; have HB := n0_; have BK237 := n1_; have GW237 := n2_; have GE237 := n3_; clear n0_ n1_ n2_ n3_ hb hbox hg) | ((with_reducible refine gate_dst (N := 3) rfl ?_); refine box_event ?hg (N := 3) ?hd (cs := #[.slice A1_0 l1_0.length c1_0, .int .i64 a1_1, .int .i64 a1_2, .int .i64 a1_3, .int .i64 a1_4]) (t := 53) ?hr ?_; (case hd => rfl); (case hg => rfl); (case hr => first | (go_simp; done) | (go_simp; rfl)); intro gb238 hg w18 hbox hb; have n0_ := Aside0.mk (blkB BK237.out hb); have n1_ := Aside0.mk (below_step (bq41) hb); have n2_ := Aside0.mk (hbox); have n3_ := Aside0.mk ((bq19 : w.heap.size ≤ gb238)); have n4_ := Aside0.mk ((bq19 : w.heap.size ≤ gb238)); have n5_ := Aside0.mk ((bq83 : gb237 ≠ gb238)); have n6_ := Aside0.mk ((bq84 : gb238 ≠ gb237)); clear BK237 HB; have BK237 := n0_; have HB := n1_; have BK238 := n2_; have GW238 := n3_; have GE238 := n4_; have NB237_238 := n5_; have NB238_237 := n6_; clear n0_ n1_ n2_ n3_ n4_ n5_ n6_ hb hbox hg; have hnb19 := NB237_238.out; have hnc19 := NB238_237.out; obtain ⟨hcz20_0, hcz20_1, hcz20_2, hcz20_3, hcz20_4, hfz20_0, hfz20_1, hfz20_2, hfz20_3, hfz20_4⟩ := bk5 BK237.out; obtain ⟨hcz21_0, hcz21_1, hcz21_2, hcz21_3, hcz21_4, hfz21_0, hfz21_1, hfz21_2, hfz21_3, hfz21_4⟩ := bk5 BK238.out))
   go_ret
   exact ⟨by first | rfl | (simp [errW_none, errW_some] <;> rfl) | (simp [*, errW_none, errW_some] <;> rfl), by repeat (first | (with_reducible first | exact HB.out | apply below_alloc | apply pw_below_drewN | apply below_drew1 | refine below_set ?_ GE237.out | refine below_set ?_ GE238.out) | exact HB.out)⟩
 ·rw [if_neg c3] at H
  have c3b0 : (a0_1 == a1_1) = false := beq_eq_false_iff_ne.mpr c3
  have c3b1 : (a0_1 != a1_1) = true := bne_iff_ne.mpr c3
  obtain rfl := Option.some.inj H
  go_enter Tryd.func55, Tryd.ntmps55
  go_wp2_with (first | ((with_reducible refine gate_dst (N := 2) rfl ?_); refine box_event ?hg (N := 2) ?hd (cs := #[.slice A0_0 l0_0.length c0_0, .int .i64 a0_1, .int .i64 a0_2, .int .i64 a0_3, .int .i64 a0_4]) (t := 53) ?hr ?_; (case hd => rfl); (case hg => rfl); (case hr => first | (go_simp; done) | (go_simp; rfl)); intro gb237 hg w22 hbox hb; have n0_ := Aside0.mk (below_step (bq51) hb); have n1_ := Aside0.mk (hbox); have n2_ := Aside0.mk ((bq35 : w.heap.size ≤ gb237)); have n3_ := Aside0.mk ((bq35 : w.heap.size ≤ gb237)); clear HB; have HB := n0_; have BK237 := n1_; have GW237 := n2_; have GE237 := n3_; clear n0_ n1_ n2_ n3_ hb hbox hg) | ((with_reducible refine gate_dst (N := 3) rfl ?_); refine box_event ?hg (N := 3) ?hd (cs := #[.slice A1_0 l1_0.length c1_0, .int .i64 a1_1, .int .i64 a1_2, .int .i64 a1_3, .int .i64 a1_4]) (t := 53) ?hr ?_; (case hd => rfl); (case hg => rfl); (case hr => first | (go_simp; done) | (go_simp; rfl)); intro gb238 hg w23 hbox hb; have n0_ := Aside0.mk (blkB BK237.out hb); have n1_ := Aside0.mk (below_step (bq41) hb); have n2_ := Aside0.mk (hbox); have n3_ := Aside0.mk ((bq19 : w.heap.size ≤ gb238)); have n4_ := Aside0.mk ((bq19 : w.heap.size ≤ gb238)); have n5_ := Aside0.mk ((bq83 : gb237 ≠ gb238)); have n6_ := Aside0.mk ((bq84 : gb238 ≠ gb237)); clear BK237 HB; have BK237 := n0_; have HB := n1_; have BK238 := n2_; have GW238 := n3_; have GE238 := n4_; have NB237_238 := n5_; have NB238_237 := n6_; clear n0_ n1_ n2_ n3_ n4_ n5_ n6_ hb hbox hg; have hnb24 := NB237_238.out; have hnc24 := NB238_237.out; obtain ⟨hcz25_0, hcz25_1, hcz25_2, hcz25_3, hcz25_4, hfz25_0, hfz25_1, hfz25_2, hfz25_3, hfz25_4⟩ := bk5 BK237.out; obtain ⟨hcz26_0, hcz26_1, hcz26_2, hcz26_3, hcz26_4, hfz26_0, hfz26_1, hfz26_2, hfz26_3, hfz26_4⟩ := bk5 BK238.out))
  go_ret
  exact ⟨by first | rfl | (simp [errW_none, errW_some] <;> rfl) | (simp [*, errW_none, errW_some] <;> rfl), by repeat (first | (with_reducible first | exact HB.out | apply below_alloc | apply pw_below_drewN | apply below_drew1 | refine below_set ?_ GE237.out | refine below_set ?_ GE238.out) | exact HB.out)⟩
end Go.Proofs.YtkiiojgaaoaipaaDoor.Q
/- A map to bools as a set of keys: laws for the walk; and small words on rows. -/
namespace Go.Proofs.YtkiiojgaaoaipaaDoor.Q
open Go.RowKit Go.Proofs.YtkiiojgaaoaipaaDoorW.PrintWords Go.Proofs.YtkiiojgaaoaipaaDoorW.PrintLast Go.Proofs.YtkiiojgaaoaipaaDoorW.PrintMore
set_option linter.unusedVariables false
set_option linter.unusedSimpArgs false
open Go.Maps (Keyed)
section
variable {P : Program} {k e t : TypeId} {w w1 : World} {b : Nat} {S : List Lit}
end
theorem at_scalar {α : Type} {enc : α → Value} {h1 : ∀ x, (enc x).oneCell' = true} {w : World} {A : Option Addr} {n : Nat} {xs : List α} (h : Kd.C (Kd.scalar enc h1) w A n xs) (z : α) (k : Nat) (hk : k < n) : ∃ ad, A = some ad ∧ w.cell? (ad.add k) = some (enc (xs.getD k z)) := by
 obtain ⟨e1, e2, h⟩ := h
 obtain ⟨ad, ea, h⟩ := h (by omega)
 have hl : k < xs.length := by omega
 obtain ⟨c, hc, hK, hcell⟩ := h k _ (List.getElem?_eq_getElem hl)
 refine ⟨ad, ea, ?_⟩
 have hK' : c = [enc xs[k]] := hK
 subst hK'
 have := hcell 0 _ rfl
 have e : k * (Kd.scalar enc h1).sz + 0 = k := by show k * 1 + 0 = k; omega
 rw [e] at this
 rw [this, getD_at xs z hl]
theorem at_int {q : IntKind} {w : World} {A : Option Addr} {n : Nat} {xs : List Int} (h : Kd.C (Kd.int q) w A n xs) (k : Nat) (hk : k < n) : ∃ ad, A = some ad ∧ w.cell? (ad.add k) = some (.int q (xs.getD k 0)) := at_scalar (enc := Value.int q) h _ k hk
end Go.Proofs.YtkiiojgaaoaipaaDoor.Q
/- Whether instructions, blocks, functions are the same. -/
namespace Go.Proofs.YtkiiojgaaoaipaaDoor.Q
open Go.RowKit Go.Proofs.YtkiiojgaaoaipaaDoorW.PrintWords Go.Proofs.YtkiiojgaaoaipaaDoorW.PrintLast Go.Proofs.YtkiiojgaaoaipaaDoorW.PrintMore
set_option linter.unusedVariables false
set_option linter.unusedSimpArgs false
def eqL {α : Type} (eq : α → α → Bool) : List α → List α → Bool
 | [], [] => true
 | x :: xs, y :: ys => eq x y && eqL eq xs ys
 | _, _ => false
theorem eqL_iff {α : Type} {eq : α → α → Bool} (h : ∀ x y, eq x y = true ↔ x = y) : ∀ l l' : List α, eqL eq l l' = true ↔ l = l'
 | [], [] => by simp [eqL]
 | [], _ :: _ => by simp [eqL]
 | _ :: _, [] => by simp [eqL]
 | x :: xs, y :: ys => by simp only [eqL, Bool.and_eq_true, h, eqL_iff h xs ys, List.cons.injEq]
def eqT (a b : ByteArray) : Bool := a.toList == b.toList
theorem eqT_iff (a b : ByteArray) : eqT a b = true ↔ a = b := by
 unfold eqT
 rw [beq_iff_eq]
 exact ⟨bytes_eq, fun h => by rw [h]⟩
def eqI (x y : S47) : Bool := x.f0 == y.f0 && (eqT x.f1 y.f1 && (x.f3 == y.f3 && (eqT x.f4 y.f4 && x.f2 == y.f2)))
theorem eqI_iff (x y : S47) : eqI x y = true ↔ x = y := by
 cases x; cases y
 unfold eqI
 simp only [Bool.and_eq_true, beq_iff_eq, eqT_iff, S47.mk.injEq]
 constructor
 ·rintro ⟨h1, h2, h3, h4, h5⟩; exact ⟨h1, h2, h5, h3, h4⟩
 ·rintro ⟨h1, h2, h5, h3, h4⟩; exact ⟨h1, h2, h3, h4, h5⟩
def eqB (x y : S53) : Bool := x.f1 == y.f1 && (x.f2 == y.f2 && (x.f3.f0 == y.f3.f0 && (x.f3.f1 == y.f3.f1 && x.f0 == y.f0)))
theorem eqB_iff (x y : S53) : eqB x y = true ↔ x = y := by
 obtain ⟨x0, x1, x2, ⟨x3, x4⟩⟩ := x
 obtain ⟨y0, y1, y2, ⟨y3, y4⟩⟩ := y
 unfold eqB
 simp only [Bool.and_eq_true, beq_iff_eq, S53.mk.injEq, S51.mk.injEq]
 constructor
 ·rintro ⟨h1, h2, h3, h4, h5⟩; exact ⟨h5, h1, h2, h3, h4⟩
 ·rintro ⟨h5, h1, h2, h3, h4⟩; exact ⟨h1, h2, h3, h4, h5⟩
def eqF (x y : S40) : Bool := eqT x.f0 y.f0 && (eqT x.f2 y.f2 && (eqL eqT x.f1 y.f1 && (eqL eqT x.f3 y.f3 && (eqL eqI x.f4 y.f4 && eqL eqB x.f5 y.f5))))
theorem eqF_iff (x y : S40) : eqF x y = true ↔ x = y := by
 cases x; cases y
 unfold eqF
 simp only [Bool.and_eq_true, eqT_iff, eqL_iff eqT_iff, eqL_iff eqI_iff, eqL_iff eqB_iff, S40.mk.injEq]
 constructor
 ·rintro ⟨h1, h2, h3, h4, h5, h6⟩; exact ⟨h1, h3, h2, h4, h5, h6⟩
 ·rintro ⟨h1, h3, h2, h4, h5, h6⟩; exact ⟨h1, h2, h3, h4, h5, h6⟩
theorem bool_dec {b : Bool} {p : Prop} (h : b = true ↔ p) : b = decB p := by
 cases b
 ·exact (decB_false (fun k => by have := h.mpr k; cases this)).symm
 ·exact (decB_true (h.mp rfl)).symm
theorem int_l (l l' : List Int) (hn : l.length = l'.length) (hm : l.length ≤ 9223372036854775807) (d : Nat) : ∀ (k i : Nat), i ≤ l.length → l.length - i = d → d < k →
  (∀ j : Nat, j < i → l.getD j 0 = l'.getD j 0) → slices_Equal_int_int.l0 k l l' (l.length : Int) (i : Int) = some (l == l') := by
 induction d with
 | zero =>
  intro k i h0 hd hk h
  obtain ⟨k, rfl⟩ : ∃ m, k = m + 1 := ⟨k - 1, by omega⟩
  simp only [slices_Equal_int_int.l0]; rw [if_neg (by omega), beq_iff_eq.mpr (lists_eq 0 hn (fun j hj => h j (by omega)))]
 | succ d ih =>
  intro k i h0 hd hk h
  obtain ⟨k, rfl⟩ : ∃ m, k = m + 1 := ⟨k - 1, by omega⟩
  simp only [slices_Equal_int_int.l0]
  rw [if_pos (by omega), if_pos (by omega), if_pos (by omega), if_pos (by omega)]
  by_cases e : rd l (i : Int) = rd l' (i : Int)
  ·rw [if_pos e, wrap_succ (by omega) (by omega)]
   unfold rd at e
   rw [Int.toNat_natCast] at e
   exact ih k (i + 1) (by omega) (by omega) (by omega) (all_succ h e)
  ·rw [if_neg e, beq_eq_false_iff_ne.mpr (fun q => e (by rw [q]))]
theorem int_same (l l' : List Int) (hm : l.length ≤ 9223372036854775807) : slices_Equal_int_int.f (l.length + 1) l l' = some (l == l') := by
 unfold slices_Equal_int_int.f
 by_cases hn : l.length = l'.length
 ·rw [if_pos (by omega)]
  exact int_l l l' hn hm l.length (l.length + 1) 0 (by omega) (by omega) (by omega) (fun j hj => absurd hj (by omega))
 ·rw [if_neg (by omega), beq_eq_false_iff_ne.mpr (fun e => hn (by rw [e]))]
theorem str_l (l l' : List ByteArray) (hn : l.length = l'.length) (hm : l.length ≤ 9223372036854775807) (d : Nat) : ∀ (k i : Nat), i ≤ l.length → l.length - i = d → d < k →
  (∀ j : Nat, j < i → l.getD j ByteArray.empty = l'.getD j ByteArray.empty) → slices_Equal_string_string.l0 k l l' (l.length : Int) (i : Int) = some (eqL eqT l l') := by
 induction d with
 | zero =>
  intro k i h0 hd hk h
  obtain ⟨k, rfl⟩ : ∃ m, k = m + 1 := ⟨k - 1, by omega⟩
  simp only [slices_Equal_string_string.l0]; rw [if_neg (by omega), (eqL_iff eqT_iff _ _).mpr (lists_eq ByteArray.empty hn (fun j hj => h j (by omega)))]
 | succ d ih =>
  intro k i h0 hd hk h
  obtain ⟨k, rfl⟩ : ∃ m, k = m + 1 := ⟨k - 1, by omega⟩
  simp only [slices_Equal_string_string.l0]
  rw [if_pos (by omega), if_pos (by omega), if_pos (by omega), if_pos (by omega)]
  by_cases e : (rdOf ByteArray.empty l (i : Int)).toList = (rdOf ByteArray.empty l' (i : Int)).toList
  ·rw [if_pos e, wrap_succ (by omega) (by omega)]
   have e := bytes_eq e
   unfold rdOf at e
   rw [Int.toNat_natCast] at e
   exact ih k (i + 1) (by omega) (by omega) (by omega) (all_succ h e)
  ·rw [if_neg e]
   congr 1
   refine (Bool.eq_false_iff.mpr (fun q => e ?_)).symm
   rw [(eqL_iff eqT_iff _ _).mp q]
theorem str_same (k : Nat) (l l' : List ByteArray) (hk : l.length < k) (hm : l.length ≤ 9223372036854775807) : slices_Equal_string_string.f k l l' = some (eqL eqT l l') := by
 unfold slices_Equal_string_string.f
 by_cases hn : l.length = l'.length
 ·rw [if_pos (by omega)]
  exact str_l l l' hn hm l.length k 0 (by omega) (by omega) (by omega) (fun j hj => absurd hj (by omega))
 ·rw [if_neg (by omega)]
  congr 1
  exact (Bool.eq_false_iff.mpr (fun q => hn (by rw [(eqL_iff eqT_iff _ _).mp q]))).symm
theorem sameI_eq (x y : S47) (hm : x.f2.length ≤ 9223372036854775807) : ir_sameIns.f (x.f2.length + 1) x.f0 x.f1 x.f2 x.f3 x.f4 y.f0 y.f1 y.f2 y.f3 y.f4 = some (eqI x y) := by
 unfold ir_sameIns.f eqI eqT
 by_cases h1 : x.f0 = y.f0
 ·rw [if_pos h1, beq_iff_eq.mpr h1, Bool.true_and]
  by_cases h2 : x.f1.toList = y.f1.toList
  ·rw [if_pos h2, beq_iff_eq.mpr h2, Bool.true_and]
   by_cases h3 : x.f3 = y.f3
   ·rw [if_pos h3, beq_iff_eq.mpr h3, Bool.true_and]
    by_cases h4 : x.f4.toList = y.f4.toList
    ·rw [if_pos h4, beq_iff_eq.mpr h4, Bool.true_and, int_same _ _ hm]; rfl
    ·rw [if_neg h4, beq_eq_false_iff_ne.mpr h4, Bool.false_and]
   ·rw [if_neg h3, beq_eq_false_iff_ne.mpr h3, Bool.false_and]
  ·rw [if_neg h2, beq_eq_false_iff_ne.mpr h2, Bool.false_and]
 ·rw [if_neg h1, beq_eq_false_iff_ne.mpr h1, Bool.false_and]
theorem sameB_eq (x y : S53) (hm : x.f0.length ≤ 9223372036854775807) : ir_sameBlock.f (x.f0.length + 1) x.f0 x.f1 x.f2 x.f3.f0 x.f3.f1 y.f0 y.f1 y.f2 y.f3.f0 y.f3.f1 = some (eqB x y) := by
 unfold ir_sameBlock.f eqB
 by_cases h1 : x.f1 = y.f1
 ·rw [if_pos h1, beq_iff_eq.mpr h1, Bool.true_and]
  by_cases h2 : x.f2 = y.f2
  ·rw [if_pos h2, beq_iff_eq.mpr h2, Bool.true_and, ← Bool.and_assoc]
   by_cases h3 : (x.f3.f0 == y.f3.f0 && x.f3.f1 == y.f3.f1) = true
   ·rw [if_pos h3, h3, Bool.true_and, int_same _ _ hm]; rfl
   ·rw [if_neg h3, Bool.eq_false_iff.mpr h3, Bool.false_and]
  ·rw [if_neg h2, beq_eq_false_iff_ne.mpr h2, Bool.false_and]
 ·rw [if_neg h1, beq_eq_false_iff_ne.mpr h1, Bool.false_and]
set_option maxHeartbeats 1600000 in
theorem ins_eq (A0 : Option Addr) (c0 : Nat) (l0 : List (S47)) (A1 : Option Addr) (c1 : Nat) (l1 : List (S47)) (w : World) (hr0 : Kd.C k47 w A0 l0.length l0) (hc0 : l0.length ≤ c0) (hr1 : Kd.C k47 w A1 l1.length l1) (hc1 : l1.length ≤ c1) :
  Calls Tryd.prog 52 #[.slice A0 l0.length c0, .slice A1 l1.length c1, .func (.func 53) #[] #[]] w fun e w' => e = .returned (.bool (decB (l0 = l1))) ∧ Below w.heap.size w w' := by
 have hu := Tryd.underlying47
 have HR0 := Aside0.mk hr0; clear hr0
 have HR1 := Aside0.mk hr1; clear hr1
 have HM := Aside0.mk (Kd.C_max HR0.out)
 have hm := HM.out
 have hm1 := Kd.C_max HR1.out
 by_cases hn : l0.length = l1.length
 ·have hd : (l0.length == l1.length) = true := beq_iff_eq.mpr hn
  have hd2 : ((l0.length : Int) != (l1.length : Int)) = false := by rw [hn]; simp
  have HN := Aside0.mk hn; clear hn
  go_enter Tryd.func52, Tryd.ntmps52
  go_wp2_with fail
  go_loopw [7, 8, 9, 17] (fun _ _ _ v wr => ∃ k : Nat, v = .int .i64 k ∧ k ≤ l0.length ∧ Aside0 (∀ i : Nat, i < k → l0.getD i z47 = l1.getD i z47) ∧ Below w.heap.size w wr) (fun _ _ _ v _ => l0.length - (intOf v).toNat)
  case atStart => exact ⟨0, rfl, Nat.zero_le _, ⟨fun i h => absurd h (Nat.not_lt_zero _)⟩, Below.refl _ _⟩
  case round =>
   obtain ⟨k, rfl, hk, HA, hB⟩ := hrel
   by_cases hlt : k < l0.length
   ·have hlt1 : k < l1.length := by have := HN.out; omega
    obtain ⟨ad, A2, a2, e1, hx0, hx1, hx2, hx3, hx4, hl2, hi2⟩ := at_T47 (Kd.C_below HR0.out hB) (k : Int) (by omega) (by omega)
    obtain ⟨bd, B2, b2, e2, hy0, hy1, hy2, hy3, hy4, hm2, hj2⟩ := at_T47 (Kd.C_below HR1.out hB) (k : Int) (by omega) (by omega)
    cases e1
    cases e2
    obtain ⟨x, ex⟩ : ∃ x, x = rd_T47 l0 (k : Int) := ⟨_, rfl⟩
    obtain ⟨y, ey⟩ : ∃ y, y = rd_T47 l1 (k : Int) := ⟨_, rfl⟩
    rw [← ex] at hx0 hx1 hx2 hx3 hx4 hl2 hi2
    rw [← ey] at hy0 hy1 hy2 hy3 hy4 hm2 hj2
    simp only [Int.toNat_natCast] at hx0 hx1 hx2 hx3 hx4 hy0 hy1 hy2 hy3 hy4
    have EX : Aside0 (x = l0.getD k z47) := ⟨by rw [ex]; unfold rd_T47; rw [Int.toNat_natCast]⟩
    have EY : Aside0 (y = l1.getD k z47) := ⟨by rw [ey]; unfold rd_T47; rw [Int.toNat_natCast]⟩
    clear ex ey
    have hz0 := pw_cell_below (below_alloc (Below.refl wr.heap.size wr) (.cells #[.int .i64 x.f0, .string x.f1, .slice A2 x.f2.length a2, .int .i64 x.f3, .string x.f4] 47)) hy0
    have hz1 := pw_cell_below (below_alloc (Below.refl wr.heap.size wr) (.cells #[.int .i64 x.f0, .string x.f1, .slice A2 x.f2.length a2, .int .i64 x.f3, .string x.f4] 47)) hy1
    have hz2 := pw_cell_below (below_alloc (Below.refl wr.heap.size wr) (.cells #[.int .i64 x.f0, .string x.f1, .slice A2 x.f2.length a2, .int .i64 x.f3, .string x.f4] 47)) hy2
    have hz3 := pw_cell_below (below_alloc (Below.refl wr.heap.size wr) (.cells #[.int .i64 x.f0, .string x.f1, .slice A2 x.f2.length a2, .int .i64 x.f3, .string x.f4] 47)) hy3
    have hz4 := pw_cell_below (below_alloc (Below.refl wr.heap.size wr) (.cells #[.int .i64 x.f0, .string x.f1, .slice A2 x.f2.length a2, .int .i64 x.f3, .string x.f4] 47)) hy4
    have HI2 := Aside0.mk hi2; have HJ2 := Aside0.mk hj2; have HL2 := Aside0.mk hl2; have HM2 := Aside0.mk hm2
    clear hi2 hj2 hl2 hm2
    go_wp2_with fail
    refine (ir_sameIns.calls (x.f2.length + 1) x.f0 x.f1 A2 a2 x.f2 x.f3 x.f4 y.f0 y.f1 B2 b2 y.f2 y.f3 y.f4 _ _ (Kd.C_alloc (Kd.C_alloc HI2.out _) _) HL2.out (Kd.C_alloc (Kd.C_alloc HJ2.out _) _) HM2.out (sameI_eq x y (Kd.C_max HI2.out))).mono ?_
    rintro e w1 ⟨rfl, hb1⟩
    have HB1 : Aside0 (Below w.heap.size w w1) := ⟨below_then (below_alloc (below_alloc hB _) _) (by have := hB.size; simp; omega) hb1⟩
    clear hb1 hx0 hx1 hx2 hx3 hx4 hy0 hy1 hy2 hy3 hy4 hz0 hz1 hz2 hz3 hz4 HI2 HJ2 HL2 HM2
    have hbd := bool_dec (eqI_iff x y)
    by_cases hxy : x = y
    ·rw [hbd, decB_true hxy]
     have HA1 : Aside0 (∀ i : Nat, i < k + 1 → l0.getD i z47 = l1.getD i z47) := ⟨all_succ HA.out (bq97)⟩
     clear hxy HA EX EY hbd
     go_wp2
     go_roundw
     case rel => exact ⟨k + 1, by go_num, by omega, HA1, HB1.out⟩
     case measure => simp [intOf]; omega
    ·rw [hbd, decB_false hxy]
     have HE : Aside0 (decB (l0 = l1) = false) := ⟨decB_false (fun e => hxy (by rw [EX.out, EY.out, e]))⟩
     clear hxy HA EX EY hbd
     go_wp2
     go_ret
     exact ⟨by rw [HE.out]; rfl, HB1.out⟩
   ·have HE : Aside0 (decB (l0 = l1) = true) := ⟨decB_true (lists_eq z47 HN.out (fun j hj => HA.out j (by omega)))⟩
    clear HA
    go_wp2
    go_ret
    exact ⟨by rw [HE.out]; rfl, hB⟩
 ·have hd : (l0.length == l1.length) = false := beq_eq_false_iff_ne.mpr hn
  have hd2 : ((l0.length : Int) != (l1.length : Int)) = true := by rw [bne_iff_ne]; omega
  have HE : Aside0 (decB (l0 = l1) = false) := ⟨decB_false (fun e => hn (by rw [e]))⟩
  clear hn
  go_enter Tryd.func52, Tryd.ntmps52
  go_wp2
  go_ret
  exact ⟨by rw [HE.out]; rfl, Below.refl _ _⟩
def api_Ins_ir_sameIns.f (l0 : List (S47)) (l1 : List (S47)) : Option (Bool) := some (eqL eqI l0 l1)
theorem api_Ins_ir_sameIns.calls (A0 : Option Addr) (c0 : Nat) (l0 : List (S47)) (A1 : Option Addr) (c1 : Nat) (l1 : List (S47)) (r : Bool) (w : World) (hr0 : Kd.C k47 w A0 l0.length l0) (hc0 : l0.length ≤ c0) (hr1 : Kd.C k47 w A1 l1.length l1) (hc1 : l1.length ≤ c1) (h : api_Ins_ir_sameIns.f l0 l1 = some r) :
  Calls Tryd.prog 52 #[.slice A0 l0.length c0, .slice A1 l1.length c1, .func (.func 53) #[] #[]] w fun e w' => e = .returned (.bool r) ∧ Below w.heap.size w w' := by
 unfold api_Ins_ir_sameIns.f at h
 rw [bool_dec (eqL_iff eqI_iff l0 l1)] at h
 obtain rfl := Option.some.inj h
 exact ins_eq A0 c0 l0 A1 c1 l1 w hr0 hc0 hr1 hc1
set_option maxHeartbeats 1600000 in
theorem block_eq (A0 : Option Addr) (c0 : Nat) (l0 : List (S53)) (A1 : Option Addr) (c1 : Nat) (l1 : List (S53)) (w : World) (hr0 : Kd.C k53 w A0 l0.length l0) (hc0 : l0.length ≤ c0) (hr1 : Kd.C k53 w A1 l1.length l1) (hc1 : l1.length ≤ c1) :
  Calls Tryd.prog 54 #[.slice A0 l0.length c0, .slice A1 l1.length c1, .func (.func 55) #[] #[]] w fun e w' => e = .returned (.bool (decB (l0 = l1))) ∧ Below w.heap.size w w' := by
 have hu := Tryd.underlying53
 have HR0 := Aside0.mk hr0; clear hr0
 have HR1 := Aside0.mk hr1; clear hr1
 have HM := Aside0.mk (Kd.C_max HR0.out)
 have hm := HM.out
 have hm1 := Kd.C_max HR1.out
 by_cases hn : l0.length = l1.length
 ·have hd : (l0.length == l1.length) = true := beq_iff_eq.mpr hn
  have hd2 : ((l0.length : Int) != (l1.length : Int)) = false := by rw [hn]; simp
  have HN := Aside0.mk hn; clear hn
  go_enter Tryd.func54, Tryd.ntmps54
  go_wp2_with fail
  go_loopw [7, 8, 9, 17] (fun _ _ _ v wr => ∃ k : Nat, v = .int .i64 k ∧ k ≤ l0.length ∧ Aside0 (∀ i : Nat, i < k → l0.getD i z53 = l1.getD i z53) ∧ Below w.heap.size w wr) (fun _ _ _ v _ => l0.length - (intOf v).toNat)
  case atStart => exact ⟨0, rfl, Nat.zero_le _, ⟨fun i h => absurd h (Nat.not_lt_zero _)⟩, Below.refl _ _⟩
  case round =>
   obtain ⟨k, rfl, hk, HA, hB⟩ := hrel
   by_cases hlt : k < l0.length
   ·have hlt1 : k < l1.length := by have := HN.out; omega
    obtain ⟨ad, A0, a0, e1, hx0, hx1, hx2, hx3, hx4, hl0, hi0⟩ := at_T53 (Kd.C_below HR0.out hB) (k : Int) (by omega) (by omega)
    obtain ⟨bd, B0, b0, e2, hy0, hy1, hy2, hy3, hy4, hm0, hj0⟩ := at_T53 (Kd.C_below HR1.out hB) (k : Int) (by omega) (by omega)
    cases e1
    cases e2
    obtain ⟨x, ex⟩ : ∃ x, x = rd_T53 l0 (k : Int) := ⟨_, rfl⟩
    obtain ⟨y, ey⟩ : ∃ y, y = rd_T53 l1 (k : Int) := ⟨_, rfl⟩
    rw [← ex] at hx0 hx1 hx2 hx3 hx4 hl0 hi0
    rw [← ey] at hy0 hy1 hy2 hy3 hy4 hm0 hj0
    simp only [Int.toNat_natCast] at hx0 hx1 hx2 hx3 hx4 hy0 hy1 hy2 hy3 hy4
    have EX : Aside0 (x = l0.getD k z53) := ⟨by rw [ex]; unfold rd_T53; rw [Int.toNat_natCast]⟩
    have EY : Aside0 (y = l1.getD k z53) := ⟨by rw [ey]; unfold rd_T53; rw [Int.toNat_natCast]⟩
    clear ex ey
    have hz0 := pw_cell_below (below_alloc (Below.refl wr.heap.size wr) (.cells #[.slice A0 x.f0.length a0, .int .i64 x.f1, .int .i64 x.f2, .int .i64 x.f3.f0, .int .i64 x.f3.f1] 53)) hy0
    have hz1 := pw_cell_below (below_alloc (Below.refl wr.heap.size wr) (.cells #[.slice A0 x.f0.length a0, .int .i64 x.f1, .int .i64 x.f2, .int .i64 x.f3.f0, .int .i64 x.f3.f1] 53)) hy1
    have hz2 := pw_cell_below (below_alloc (Below.refl wr.heap.size wr) (.cells #[.slice A0 x.f0.length a0, .int .i64 x.f1, .int .i64 x.f2, .int .i64 x.f3.f0, .int .i64 x.f3.f1] 53)) hy2
    have hz3 := pw_cell_below (below_alloc (Below.refl wr.heap.size wr) (.cells #[.slice A0 x.f0.length a0, .int .i64 x.f1, .int .i64 x.f2, .int .i64 x.f3.f0, .int .i64 x.f3.f1] 53)) hy3
    have hz4 := pw_cell_below (below_alloc (Below.refl wr.heap.size wr) (.cells #[.slice A0 x.f0.length a0, .int .i64 x.f1, .int .i64 x.f2, .int .i64 x.f3.f0, .int .i64 x.f3.f1] 53)) hy4
    have HI0 := Aside0.mk hi0; have HJ0 := Aside0.mk hj0; have HL0 := Aside0.mk hl0; have HM0 := Aside0.mk hm0
    clear hi0 hj0 hl0 hm0
    go_wp2_with fail
    refine (ir_sameBlock.calls (x.f0.length + 1) A0 a0 x.f0 x.f1 x.f2 x.f3.f0 x.f3.f1 B0 b0 y.f0 y.f1 y.f2 y.f3.f0 y.f3.f1 _ _ (Kd.C_alloc (Kd.C_alloc HI0.out _) _) HL0.out (Kd.C_alloc (Kd.C_alloc HJ0.out _) _) HM0.out (sameB_eq x y (Kd.C_max HI0.out))).mono ?_
    rintro e w1 ⟨rfl, hb1⟩
    have HB1 : Aside0 (Below w.heap.size w w1) := ⟨below_then (below_alloc (below_alloc hB _) _) (by have := hB.size; simp; omega) hb1⟩
    clear hb1 hx0 hx1 hx2 hx3 hx4 hy0 hy1 hy2 hy3 hy4 hz0 hz1 hz2 hz3 hz4 HI0 HJ0 HL0 HM0
    have hbd := bool_dec (eqB_iff x y)
    by_cases hxy : x = y
    ·rw [hbd, decB_true hxy]
     have HA1 : Aside0 (∀ i : Nat, i < k + 1 → l0.getD i z53 = l1.getD i z53) := ⟨all_succ HA.out (bq97)⟩
     clear hxy HA EX EY hbd
     go_wp2
     go_roundw
     case rel => exact ⟨k + 1, by go_num, by omega, HA1, HB1.out⟩
     case measure => simp [intOf]; omega
    ·rw [hbd, decB_false hxy]
     have HE : Aside0 (decB (l0 = l1) = false) := ⟨decB_false (fun e => hxy (by rw [EX.out, EY.out, e]))⟩
     clear hxy HA EX EY hbd
     go_wp2
     go_ret
     exact ⟨by rw [HE.out]; rfl, HB1.out⟩
   ·have HE : Aside0 (decB (l0 = l1) = true) := ⟨decB_true (lists_eq z53 HN.out (fun j hj => HA.out j (by omega)))⟩
    clear HA
    go_wp2
    go_ret
    exact ⟨by rw [HE.out]; rfl, hB⟩
 ·have hd : (l0.length == l1.length) = false := beq_eq_false_iff_ne.mpr hn
  have hd2 : ((l0.length : Int) != (l1.length : Int)) = true := by rw [bne_iff_ne]; omega
  have HE : Aside0 (decB (l0 = l1) = false) := ⟨decB_false (fun e => hn (by rw [e]))⟩
  clear hn
  go_enter Tryd.func54, Tryd.ntmps54
  go_wp2
  go_ret
  exact ⟨by rw [HE.out]; rfl, Below.refl _ _⟩
def api_Block_ir_sameBlock.f (l0 : List (S53)) (l1 : List (S53)) : Option (Bool) := some (eqL eqB l0 l1)
theorem api_Block_ir_sameBlock.calls (A0 : Option Addr) (c0 : Nat) (l0 : List (S53)) (A1 : Option Addr) (c1 : Nat) (l1 : List (S53)) (r : Bool) (w : World) (hr0 : Kd.C k53 w A0 l0.length l0) (hc0 : l0.length ≤ c0) (hr1 : Kd.C k53 w A1 l1.length l1) (hc1 : l1.length ≤ c1) (h : api_Block_ir_sameBlock.f l0 l1 = some r) :
  Calls Tryd.prog 54 #[.slice A0 l0.length c0, .slice A1 l1.length c1, .func (.func 55) #[] #[]] w fun e w' => e = .returned (.bool r) ∧ Below w.heap.size w w' := by
 unfold api_Block_ir_sameBlock.f at h
 rw [bool_dec (eqL_iff eqB_iff l0 l1)] at h
 obtain rfl := Option.some.inj h
 exact block_eq A0 c0 l0 A1 c1 l1 w hr0 hc0 hr1 hc1
end Go.Proofs.YtkiiojgaaoaipaaDoor.Q
namespace Go.Proofs.YtkiiojgaaoaipaaDoor.Q
open Go.RowKit Go.Proofs.YtkiiojgaaoaipaaDoorW.PrintWords Go.Proofs.YtkiiojgaaoaipaaDoorW.PrintLast Go.Proofs.YtkiiojgaaoaipaaDoorW.PrintMore
attribute [local go_sem] max2_int min2_int max_two min_two max_three min_three max_four min_four   -- for this text's walks alone
set_option linter.unusedVariables false
set_option linter.unusedSimpArgs false
/-! ### ir_sameFun: function 35 -/
def ir_sameFun.f (k : Nat) (a0_0 : ByteArray) (l0_1 : List ByteArray) (a0_2 : ByteArray) (l0_3 : List ByteArray) (l0_4 : List (S47)) (l0_5 : List (S53)) (a1_0 : ByteArray) (l1_1 : List ByteArray) (a1_2 : ByteArray) (l1_3 : List ByteArray) (l1_4 : List (S47)) (l1_5 : List (S53)) : Option (Bool) := if a0_0.toList = a1_0.toList then (if a0_2.toList = a1_2.toList then ((slices_Equal_string_string.f k l0_1 l1_1).bind fun t242 => (if t242 = true then ((slices_Equal_string_string.f k l0_3 l1_3).bind fun t243 => (if t243 = true then ((api_Ins_ir_sameIns.f l0_4 l1_4).bind fun t244 => (if t244 = true then ((api_Block_ir_sameBlock.f l0_5 l1_5).bind fun t245 => (some t245)) else (some false))) else (some false))) else (some false))) else (some false)) else (some false)
theorem ir_sameFun.mono : ∀ a0 a1 a2 a3 a4 a5 a6 a7 a8 a9 a10 a11 k, LeO (ir_sameFun.f k a0 a1 a2 a3 a4 a5 a6 a7 a8 a9 a10 a11) (ir_sameFun.f (k + 1) a0 a1 a2 a3 a4 a5 a6 a7 a8 a9 a10 a11) := by
 intro a0 a1 a2 a3 a4 a5 a6 a7 a8 a9 a10 a11 k
 unfold ir_sameFun.f
 repeat' first
   | (with_reducible exact slices_Equal_string_string.mono _ _ _)
   | (with_reducible exact LeO.refl _)
   | (with_reducible refine LeO.ite ?_ ?_)
   | (with_reducible refine LeO.bind ?_ (fun _ => ?_))
set_option maxHeartbeats 8000000 in
set_option maxRecDepth 100000 in
theorem ir_sameFun.calls (k : Nat) (a0_0 : ByteArray) (A0_1 : Option Addr) (c0_1 : Nat) (l0_1 : List ByteArray) (a0_2 : ByteArray) (A0_3 : Option Addr) (c0_3 : Nat) (l0_3 : List ByteArray) (A0_4 : Option Addr) (c0_4 : Nat) (l0_4 : List (S47)) (A0_5 : Option Addr) (c0_5 : Nat) (l0_5 : List (S53)) (a1_0 : ByteArray) (A1_1 : Option Addr) (c1_1 : Nat) (l1_1 : List ByteArray) (a1_2 : ByteArray) (A1_3 : Option Addr) (c1_3 : Nat) (l1_3 : List ByteArray) (A1_4 : Option Addr) (c1_4 : Nat) (l1_4 : List (S47)) (A1_5 : Option Addr) (c1_5 : Nat) (l1_5 : List (S53)) (r : Bool) (w : World) (hr0_1 : Kd.C Kd.string w A0_1 l0_1.length l0_1) (hc0_1 : l0_1.length ≤ c0_1) (hr0_3 : Kd.C Kd.string w A0_3 l0_3.length l0_3) (hc0_3 : l0_3.length ≤ c0_3) (hr0_4 : Kd.C k47 w A0_4 l0_4.length l0_4) (hc0_4 : l0_4.length ≤ c0_4) (hr0_5 : Kd.C k53 w A0_5 l0_5.length l0_5) (hc0_5 : l0_5.length ≤ c0_5) (hr1_1 : Kd.C Kd.string w A1_1 l1_1.length l1_1) (hc1_1 : l1_1.length ≤ c1_1) (hr1_3 : Kd.C Kd.string w A1_3 l1_3.length l1_3) (hc1_3 : l1_3.length ≤ c1_3) (hr1_4 : Kd.C k47 w A1_4 l1_4.length l1_4) (hc1_4 : l1_4.length ≤ c1_4) (hr1_5 : Kd.C k53 w A1_5 l1_5.length l1_5) (hc1_5 : l1_5.length ≤ c1_5) (h : ir_sameFun.f k a0_0 l0_1 a0_2 l0_3 l0_4 l0_5 a1_0 l1_1 a1_2 l1_3 l1_4 l1_5 = some r) :
  Calls Tryd.prog 35 #[.agg #[.string a0_0, .slice A0_1 l0_1.length c0_1, .string a0_2, .slice A0_3 l0_3.length c0_3, .slice A0_4 l0_4.length c0_4, .slice A0_5 l0_5.length c0_5], .agg #[.string a1_0, .slice A1_1 l1_1.length c1_1, .string a1_2, .slice A1_3 l1_3.length c1_3, .slice A1_4 l1_4.length c1_4, .slice A1_5 l1_5.length c1_5]] w fun e w' => e = .returned (.bool r) ∧ Below w.heap.size w w' := by
 have hu40 := Tryd.underlying40
 have HR0_1 := Aside0.mk hr0_1
 have HC0_1 := Aside0.mk hc0_1
 clear hr0_1 hc0_1
 have HR0_3 := Aside0.mk hr0_3
 have HC0_3 := Aside0.mk hc0_3
 clear hr0_3 hc0_3
 have HR0_4 := Aside0.mk hr0_4
 have HC0_4 := Aside0.mk hc0_4
 clear hr0_4 hc0_4
 have HR0_5 := Aside0.mk hr0_5
 have HC0_5 := Aside0.mk hc0_5
 clear hr0_5 hc0_5
 have HR1_1 := Aside0.mk hr1_1
 have HC1_1 := Aside0.mk hc1_1
 clear hr1_1 hc1_1
 have HR1_3 := Aside0.mk hr1_3
 have HC1_3 := Aside0.mk hc1_3
 clear hr1_3 hc1_3
 have HR1_4 := Aside0.mk hr1_4
 have HC1_4 := Aside0.mk hc1_4
 clear hr1_4 hc1_4
 have HR1_5 := Aside0.mk hr1_5
 have HC1_5 := Aside0.mk hc1_5
 clear hr1_5 hc1_5
 have HB := Aside0.mk (Below.refl w.heap.size w)
 have H : (if a0_0.toList = a1_0.toList then (if a0_2.toList = a1_2.toList then ((slices_Equal_string_string.f k l0_1 l1_1).bind fun t242 => (if t242 = true then ((slices_Equal_string_string.f k l0_3 l1_3).bind fun t243 => (if t243 = true then ((api_Ins_ir_sameIns.f l0_4 l1_4).bind fun t244 => (if t244 = true then ((api_Block_ir_sameBlock.f l0_5 l1_5).bind fun t245 => (some t245)) else (some false))) else (some false))) else (some false))) else (some false)) else (some false)) = some r := h
 clear h
 by_cases c3 : a0_0.toList = a1_0.toList
 ·rw [if_pos c3] at H
  have c3b0 : (a0_0.toList == a1_0.toList) = true := beq_iff_eq.mpr c3
  have c3b1 : (a0_0.toList != a1_0.toList) = false := bne_eq_false_iff_eq.mpr c3
  clear c3
  by_cases c4 : a0_2.toList = a1_2.toList
  ·rw [if_pos c4] at H
   have c4b0 : (a0_2.toList == a1_2.toList) = true := beq_iff_eq.mpr c4
   have c4b1 : (a0_2.toList != a1_2.toList) = false := bne_eq_false_iff_eq.mpr c4
   clear c4
   replace H := Option.bind_eq_some_iff.mp H
   obtain ⟨t242, A50, H⟩ := H
   (try dsimp only at H)
   have A5 := Aside0.mk A50
   clear A50
   by_cases c6 : t242 = true
   ·subst c6
    have H1 := H; rw [if_pos rfl] at H1; (try dsimp only at H1)
    clear H
    have H := H1
    clear H1
    replace H := Option.bind_eq_some_iff.mp H
    obtain ⟨t243, A70, H⟩ := H
    (try dsimp only at H)
    have A7 := Aside0.mk A70
    clear A70
    by_cases c8 : t243 = true
    ·subst c8
     have H1 := H; rw [if_pos rfl] at H1; (try dsimp only at H1)
     clear H
     have H := H1
     clear H1
     replace H := Option.bind_eq_some_iff.mp H
     obtain ⟨t244, A90, H⟩ := H
     (try dsimp only at H)
     have A9 := Aside0.mk A90
     clear A90
     by_cases c10 : t244 = true
     ·subst c10
      have H1 := H; rw [if_pos rfl] at H1; (try dsimp only at H1)
      clear H
      have H := H1
      clear H1
      replace H := Option.bind_eq_some_iff.mp H
      obtain ⟨t245, A110, H⟩ := H
      (try dsimp only at H)
      have A11 := Aside0.mk A110
      clear A110
      obtain rfl := Option.some.inj H
      go_enter Tryd.func35, Tryd.ntmps35
      go_wp2_with (first | ((with_reducible refine gate_dst (N := 2) rfl ?_); refine box_event ?hg (N := 2) ?hd (cs := #[.string a0_0, .slice A0_1 l0_1.length c0_1, .string a0_2, .slice A0_3 l0_3.length c0_3, .slice A0_4 l0_4.length c0_4, .slice A0_5 l0_5.length c0_5]) (t := 40) ?hr ?_; (case hd => rfl); (case hg => rfl); (case hr => first | (go_simp; done) | (go_simp; rfl)); intro gb240 hg w12 hbox hb; have n0_ := Aside0.mk (below_step (bq51) hb); have n1_ := Aside0.mk (hbox); have n2_ := Aside0.mk ((bq35 : w.heap.size ≤ gb240)); have n3_ := Aside0.mk ((bq35 : w.heap.size ≤ gb240)); clear HB; have HB := n0_; have BK240 := n1_; have GW240 := n2_; have GE240 := n3_; clear n0_ n1_ n2_ n3_ hb hbox hg) | ((with_reducible refine gate_dst (N := 3) rfl ?_); refine box_event ?hg (N := 3) ?hd (cs := #[.string a1_0, .slice A1_1 l1_1.length c1_1, .string a1_2, .slice A1_3 l1_3.length c1_3, .slice A1_4 l1_4.length c1_4, .slice A1_5 l1_5.length c1_5]) (t := 40) ?hr ?_; (case hd => rfl); (case hg => rfl); (case hr => first | (go_simp; done) | (go_simp; rfl)); intro gb241 hg w13 hbox hb; have n0_ := Aside0.mk (blkB BK240.out hb); have n1_ := Aside0.mk (below_step (bq42) hb); have n2_ := Aside0.mk (hbox); have n3_ := Aside0.mk ((bq20 : w.heap.size ≤ gb241)); have n4_ := Aside0.mk ((bq20 : w.heap.size ≤ gb241)); have n5_ := Aside0.mk ((bq85 : gb240 ≠ gb241)); have n6_ := Aside0.mk ((bq86 : gb241 ≠ gb240)); clear BK240 HB; have BK240 := n0_; have HB := n1_; have BK241 := n2_; have GW241 := n3_; have GE241 := n4_; have NB240_241 := n5_; have NB241_240 := n6_; clear n0_ n1_ n2_ n3_ n4_ n5_ n6_ hb hbox hg; have hnb14 := NB240_241.out; have hnc14 := NB241_240.out; obtain ⟨hcz15_0, hcz15_1, hcz15_2, hcz15_3, hcz15_4, hcz15_5, hfz15_0, hfz15_1, hfz15_2, hfz15_3, hfz15_4, hfz15_5⟩ := bk6 BK240.out; obtain ⟨hcz16_0, hcz16_1, hcz16_2, hcz16_3, hcz16_4, hcz16_5, hfz16_0, hfz16_1, hfz16_2, hfz16_3, hfz16_4, hfz16_5⟩ := bk6 BK241.out) | (go_at_call 51; (with_reducible refine (slices_Equal_string_string.calls k _ _ l0_1 _ _ l1_1 true _ ?side1 ?side2 ?side3 ?side4 A5.out).mono ?_); clear A5; (case side1 => repeat (first | exact (Kd.C_below HR0_1.out HB.out) | (with_reducible refine Kd.C_alloc ?_ _) | (with_reducible refine Kd.C_drewN ?_ _) | (with_reducible refine Kd.C_drew ?_))); (case side2 => exact HC0_1.out); (case side3 => repeat (first | exact (Kd.C_below HR1_1.out HB.out) | (with_reducible refine Kd.C_alloc ?_ _) | (with_reducible refine Kd.C_drewN ?_ _) | (with_reducible refine Kd.C_drew ?_))); (case side4 => exact HC1_1.out); rintro e w' ⟨rfl, ⟨nd, rfl⟩⟩) | (go_at_call 51; (with_reducible refine (slices_Equal_string_string.calls k _ _ l0_3 _ _ l1_3 true _ ?side1 ?side2 ?side3 ?side4 A7.out).mono ?_); clear A7; (case side1 => repeat (first | exact (Kd.C_below HR0_3.out (bq31)) | (with_reducible refine Kd.C_alloc ?_ _) | (with_reducible refine Kd.C_drewN ?_ _) | (with_reducible refine Kd.C_drew ?_))); (case side2 => exact HC0_3.out); (case side3 => repeat (first | exact (Kd.C_below HR1_3.out (bq31)) | (with_reducible refine Kd.C_alloc ?_ _) | (with_reducible refine Kd.C_drewN ?_ _) | (with_reducible refine Kd.C_drew ?_))); (case side4 => exact HC1_3.out); rintro e w' ⟨rfl, ⟨nd, rfl⟩⟩) | (go_at_call 52; (with_reducible refine (api_Ins_ir_sameIns.calls _ _ l0_4 _ _ l1_4 true _ ?side1 ?side2 ?side3 ?side4 A9.out).mono ?_); (case side1 => repeat (first | exact (Kd.C_below HR0_4.out (bq31)) | (with_reducible refine Kd.C_alloc ?_ _) | (with_reducible refine Kd.C_drewN ?_ _) | (with_reducible refine Kd.C_drew ?_))); (case side2 => exact HC0_4.out); (case side3 => repeat (first | exact (Kd.C_below HR1_4.out (bq31)) | (with_reducible refine Kd.C_alloc ?_ _) | (with_reducible refine Kd.C_drewN ?_ _) | (with_reducible refine Kd.C_drew ?_))); (case side4 => exact HC1_4.out); rintro e w17 ⟨rfl, hb⟩; have n0_ := Aside0.mk (blkB BK240.out hb); have n1_ := Aside0.mk (blkB BK241.out hb); have n2_ := Aside0.mk (below_step (bq31) hb); clear BK240 BK241 HB; have BK240 := n0_; have BK241 := n1_; have HB := n2_; clear n0_ n1_ n2_ hb; obtain ⟨hcz18_0, hcz18_1, hcz18_2, hcz18_3, hcz18_4, hcz18_5, hfz18_0, hfz18_1, hfz18_2, hfz18_3, hfz18_4, hfz18_5⟩ := bk6 BK240.out; obtain ⟨hcz19_0, hcz19_1, hcz19_2, hcz19_3, hcz19_4, hcz19_5, hfz19_0, hfz19_1, hfz19_2, hfz19_3, hfz19_4, hfz19_5⟩ := bk6 BK241.out) | (go_at_call 54; (with_reducible refine (api_Block_ir_sameBlock.calls _ _ l0_5 _ _ l1_5 t245 _ ?side1 ?side2 ?side3 ?side4 A11.out).mono ?_); (case side1 => repeat (first | exact (Kd.C_below HR0_5.out HB.out) | (with_reducible refine Kd.C_alloc ?_ _) | (with_reducible refine Kd.C_drewN ?_ _) | (with_reducible refine Kd.C_drew ?_))); (case side2 => exact HC0_5.out); (case side3 => repeat (first | exact (Kd.C_below HR1_5.out HB.out) | (with_reducible refine Kd.C_alloc ?_ _) | (with_reducible refine Kd.C_drewN ?_ _) | (with_reducible refine Kd.C_drew ?_))); (case side4 => exact HC1_5.out); rintro e w20 ⟨rfl, hb⟩; have n0_ := Aside0.mk (blkB BK240.out hb); have n1_ := Aside0.mk (blkB BK241.out hb); have n2_ := Aside0.mk (below_step (bq31) hb); clear BK240 BK241 HB; have BK240 := n0_; have BK241 := n1_; have HB := n2_; clear n0_ n1_ n2_ hb))
      go_ret
      exact ⟨by first | rfl | (simp [errW_none, errW_some] <;> rfl) | (simp [*, errW_none, errW_some] <;> rfl), bq31⟩
     ·replace c10 := Bool.eq_false_iff.mpr c10
      subst c10
      have H1 := H; rw [if_neg (show ¬ (false = true) by decide)] at H1; (try dsimp only at H1)
      clear H
      have H := H1
      clear H1
      obtain rfl := Option.some.inj H
      go_enter Tryd.func35, Tryd.ntmps35
      go_wp2_with (first | ((with_reducible refine gate_dst (N := 2) rfl ?_); refine box_event ?hg (N := 2) ?hd (cs := #[.string a0_0, .slice A0_1 l0_1.length c0_1, .string a0_2, .slice A0_3 l0_3.length c0_3, .slice A0_4 l0_4.length c0_4, .slice A0_5 l0_5.length c0_5]) (t := 40) ?hr ?_; (case hd => rfl); (case hg => rfl); (case hr => first | (go_simp; done) | (go_simp; rfl)); intro gb240 hg w21 hbox hb; have n0_ := Aside0.mk (below_step (bq51) hb); have n1_ := Aside0.mk (hbox); have n2_ := Aside0.mk ((bq35 : w.heap.size ≤ gb240)); have n3_ := Aside0.mk ((bq35 : w.heap.size ≤ gb240)); clear HB; have HB := n0_; have BK240 := n1_; have GW240 := n2_; have GE240 := n3_; clear n0_ n1_ n2_ n3_ hb hbox hg) | ((with_reducible refine gate_dst (N := 3) rfl ?_); refine box_event ?hg (N := 3) ?hd (cs := #[.string a1_0, .slice A1_1 l1_1.length c1_1, .string a1_2, .slice A1_3 l1_3.length c1_3, .slice A1_4 l1_4.length c1_4, .slice A1_5 l1_5.length c1_5]) (t := 40) ?hr ?_; (case hd => rfl); (case hg => rfl); (case hr => first | (go_simp; done) | (go_simp; rfl)); intro gb241 hg w22 hbox hb; have n0_ := Aside0.mk (blkB BK240.out hb); have n1_ := Aside0.mk (below_step (bq42) hb); have n2_ := Aside0.mk (hbox); have n3_ := Aside0.mk ((bq20 : w.heap.size ≤ gb241)); have n4_ := Aside0.mk ((bq20 : w.heap.size ≤ gb241)); have n5_ := Aside0.mk ((bq85 : gb240 ≠ gb241)); have n6_ := Aside0.mk ((bq86 : gb241 ≠ gb240)); clear BK240 HB; have BK240 := n0_; have HB := n1_; have BK241 := n2_; have GW241 := n3_; have GE241 := n4_; have NB240_241 := n5_; have NB241_240 := n6_; clear n0_ n1_ n2_ n3_ n4_ n5_ n6_ hb hbox hg; have hnb23 := NB240_241.out; have hnc23 := NB241_240.out; obtain ⟨hcz24_0, hcz24_1, hcz24_2, hcz24_3, hcz24_4, hcz24_5, hfz24_0, hfz24_1, hfz24_2, hfz24_3, hfz24_4, hfz24_5⟩ := bk6 BK240.out; obtain ⟨hcz25_0, hcz25_1, hcz25_2, hcz25_3, hcz25_4, hcz25_5, hfz25_0, hfz25_1, hfz25_2, hfz25_3, hfz25_4, hfz25_5⟩ := bk6 BK241.out) | (go_at_call 51; (with_reducible refine (slices_Equal_string_string.calls k _ _ l0_1 _ _ l1_1 true _ ?side1 ?side2 ?side3 ?side4 A5.out).mono ?_); clear A5; (case side1 => repeat (first | exact (Kd.C_below HR0_1.out HB.out) | (with_reducible refine Kd.C_alloc ?_ _) | (with_reducible refine Kd.C_drewN ?_ _) | (with_reducible refine Kd.C_drew ?_))); (case side2 => exact HC0_1.out); (case side3 => repeat (first | exact (Kd.C_below HR1_1.out HB.out) | (with_reducible refine Kd.C_alloc ?_ _) | (with_reducible refine Kd.C_drewN ?_ _) | (with_reducible refine Kd.C_drew ?_))); (case side4 => exact HC1_1.out); rintro e w' ⟨rfl, ⟨nd, rfl⟩⟩) | (go_at_call 51; (with_reducible refine (slices_Equal_string_string.calls k _ _ l0_3 _ _ l1_3 true _ ?side1 ?side2 ?side3 ?side4 A7.out).mono ?_); clear A7; (case side1 => repeat (first | exact (Kd.C_below HR0_3.out (bq31)) | (with_reducible refine Kd.C_alloc ?_ _) | (with_reducible refine Kd.C_drewN ?_ _) | (with_reducible refine Kd.C_drew ?_))); (case side2 => exact HC0_3.out); (case side3 => repeat (first | exact (Kd.C_below HR1_3.out (bq31)) | (with_reducible refine Kd.C_alloc ?_ _) | (with_reducible refine Kd.C_drewN ?_ _) | (with_reducible refine Kd.C_drew ?_))); (case side4 => exact HC1_3.out); rintro e w' ⟨rfl, ⟨nd, rfl⟩⟩) | (go_at_call 52; (with_reducible refine (api_Ins_ir_sameIns.calls _ _ l0_4 _ _ l1_4 false _ ?side1 ?side2 ?side3 ?side4 A9.out).mono ?_); (case side1 => repeat (first | exact (Kd.C_below HR0_4.out (bq31)) | (with_reducible refine Kd.C_alloc ?_ _) | (with_reducible refine Kd.C_drewN ?_ _) | (with_reducible refine Kd.C_drew ?_))); (case side2 => exact HC0_4.out); (case side3 => repeat (first | exact (Kd.C_below HR1_4.out (bq31)) | (with_reducible refine Kd.C_alloc ?_ _) | (with_reducible refine Kd.C_drewN ?_ _) | (with_reducible refine Kd.C_drew ?_))); (case side4 => exact HC1_4.out); rintro e w26 ⟨rfl, hb⟩; have n0_ := Aside0.mk (blkB BK240.out hb); have n1_ := Aside0.mk (blkB BK241.out hb); have n2_ := Aside0.mk (below_step (bq31) hb); clear BK240 BK241 HB; have BK240 := n0_; have BK241 := n1_; have HB := n2_; clear n0_ n1_ n2_ hb))
      go_ret
      exact ⟨by first | rfl | (simp [errW_none, errW_some] <;> rfl) | (simp [*, errW_none, errW_some] <;> rfl), bq31⟩
    ·replace c8 := Bool.eq_false_iff.mpr c8
     subst c8
     have H1 := H; rw [if_neg (show ¬ (false = true) by decide)] at H1; (try dsimp only at H1)
     clear H
     have H := H1
     clear H1
     obtain rfl := Option.some.inj H
     go_enter Tryd.func35, Tryd.ntmps35
     go_wp2_with (first | ((with_reducible refine gate_dst (N := 2) rfl ?_); refine box_event ?hg (N := 2) ?hd (cs := #[.string a0_0, .slice A0_1 l0_1.length c0_1, .string a0_2, .slice A0_3 l0_3.length c0_3, .slice A0_4 l0_4.length c0_4, .slice A0_5 l0_5.length c0_5]) (t := 40) ?hr ?_; (case hd => rfl); (case hg => rfl); (case hr => first | (go_simp; done) | (go_simp; rfl)); intro gb240 hg w27 hbox hb; have n0_ := Aside0.mk (below_step (bq51) hb); have n1_ := Aside0.mk (hbox); have n2_ := Aside0.mk ((bq35 : w.heap.size ≤ gb240)); have n3_ := Aside0.mk ((bq35 : w.heap.size ≤ gb240)); clear HB; have HB := n0_; have BK240 := n1_; have GW240 := n2_; have GE240 := n3_; clear n0_ n1_ n2_ n3_ hb hbox hg) | ((with_reducible refine gate_dst (N := 3) rfl ?_); refine box_event ?hg (N := 3) ?hd (cs := #[.string a1_0, .slice A1_1 l1_1.length c1_1, .string a1_2, .slice A1_3 l1_3.length c1_3, .slice A1_4 l1_4.length c1_4, .slice A1_5 l1_5.length c1_5]) (t := 40) ?hr ?_; (case hd => rfl); (case hg => rfl); (case hr => first | (go_simp; done) | (go_simp; rfl)); intro gb241 hg w28 hbox hb; have n0_ := Aside0.mk (blkB BK240.out hb); have n1_ := Aside0.mk (below_step (bq42) hb); have n2_ := Aside0.mk (hbox); have n3_ := Aside0.mk ((bq20 : w.heap.size ≤ gb241)); have n4_ := Aside0.mk ((bq20 : w.heap.size ≤ gb241)); have n5_ := Aside0.mk ((bq85 : gb240 ≠ gb241)); have n6_ := Aside0.mk ((bq86 : gb241 ≠ gb240)); clear BK240 HB; have BK240 := n0_; have HB := n1_; have BK241 := n2_; have GW241 := n3_; have GE241 := n4_; have NB240_241 := n5_; have NB241_240 := n6_; clear n0_ n1_ n2_ n3_ n4_ n5_ n6_ hb hbox hg; have hnb29 := NB240_241.out; have hnc29 := NB241_240.out; obtain ⟨hcz30_0, hcz30_1, hcz30_2, hcz30_3, hcz30_4, hcz30_5, hfz30_0, hfz30_1, hfz30_2, hfz30_3, hfz30_4, hfz30_5⟩ := bk6 BK240.out; obtain ⟨hcz31_0, hcz31_1, hcz31_2, hcz31_3, hcz31_4, hcz31_5, hfz31_0, hfz31_1, hfz31_2, hfz31_3, hfz31_4, hfz31_5⟩ := bk6 BK241.out) | (go_at_call 51; (with_reducible refine (slices_Equal_string_string.calls k _ _ l0_1 _ _ l1_1 true _ ?side1 ?side2 ?side3 ?side4 A5.out).mono ?_); clear A5; (case side1 => repeat (first | exact (Kd.C_below HR0_1.out HB.out) | (with_reducible refine Kd.C_alloc ?_ _) | (with_reducible refine Kd.C_drewN ?_ _) | (with_reducible refine Kd.C_drew ?_))); (case side2 => exact HC0_1.out); (case side3 => repeat (first | exact (Kd.C_below HR1_1.out HB.out) | (with_reducible refine Kd.C_alloc ?_ _) | (with_reducible refine Kd.C_drewN ?_ _) | (with_reducible refine Kd.C_drew ?_))); (case side4 => exact HC1_1.out); rintro e w' ⟨rfl, ⟨nd, rfl⟩⟩) | (go_at_call 51; (with_reducible refine (slices_Equal_string_string.calls k _ _ l0_3 _ _ l1_3 false _ ?side1 ?side2 ?side3 ?side4 A7.out).mono ?_); clear A7; (case side1 => repeat (first | exact (Kd.C_below HR0_3.out (bq31)) | (with_reducible refine Kd.C_alloc ?_ _) | (with_reducible refine Kd.C_drewN ?_ _) | (with_reducible refine Kd.C_drew ?_))); (case side2 => exact HC0_3.out); (case side3 => repeat (first | exact (Kd.C_below HR1_3.out (bq31)) | (with_reducible refine Kd.C_alloc ?_ _) | (with_reducible refine Kd.C_drewN ?_ _) | (with_reducible refine Kd.C_drew ?_))); (case side4 => exact HC1_3.out); rintro e w' ⟨rfl, ⟨nd, rfl⟩⟩))
     go_ret
     exact ⟨by first | rfl | (simp [errW_none, errW_some] <;> rfl) | (simp [*, errW_none, errW_some] <;> rfl), bq31⟩
   ·replace c6 := Bool.eq_false_iff.mpr c6
    subst c6
    have H1 := H; rw [if_neg (show ¬ (false = true) by decide)] at H1; (try dsimp only at H1)
    clear H
    have H := H1
    clear H1
    obtain rfl := Option.some.inj H
    go_enter Tryd.func35, Tryd.ntmps35
    go_wp2_with (first | ((with_reducible refine gate_dst (N := 2) rfl ?_); refine box_event ?hg (N := 2) ?hd (cs := #[.string a0_0, .slice A0_1 l0_1.length c0_1, .string a0_2, .slice A0_3 l0_3.length c0_3, .slice A0_4 l0_4.length c0_4, .slice A0_5 l0_5.length c0_5]) (t := 40) ?hr ?_; (case hd => rfl); (case hg => rfl); (case hr => first | (go_simp; done) | (go_simp; rfl)); intro gb240 hg w32 hbox hb; have n0_ := Aside0.mk (below_step (bq51) hb); have n1_ := Aside0.mk (hbox); have n2_ := Aside0.mk ((bq35 : w.heap.size ≤ gb240)); have n3_ := Aside0.mk ((bq35 : w.heap.size ≤ gb240)); clear HB; have HB := n0_; have BK240 := n1_; have GW240 := n2_; have GE240 := n3_; clear n0_ n1_ n2_ n3_ hb hbox hg) | ((with_reducible refine gate_dst (N := 3) rfl ?_); refine box_event ?hg (N := 3) ?hd (cs := #[.string a1_0, .slice A1_1 l1_1.length c1_1, .string a1_2, .slice A1_3 l1_3.length c1_3, .slice A1_4 l1_4.length c1_4, .slice A1_5 l1_5.length c1_5]) (t := 40) ?hr ?_; (case hd => rfl); (case hg => rfl); (case hr => first | (go_simp; done) | (go_simp; rfl)); intro gb241 hg w33 hbox hb; have n0_ := Aside0.mk (blkB BK240.out hb); have n1_ := Aside0.mk (below_step (bq42) hb); have n2_ := Aside0.mk (hbox); have n3_ := Aside0.mk ((bq20 : w.heap.size ≤ gb241)); have n4_ := Aside0.mk ((bq20 : w.heap.size ≤ gb241)); have n5_ := Aside0.mk ((bq85 : gb240 ≠ gb241)); have n6_ := Aside0.mk ((bq86 : gb241 ≠ gb240)); clear BK240 HB; have BK240 := n0_; have HB := n1_; have BK241 := n2_; have GW241 := n3_; have GE241 := n4_; have NB240_241 := n5_; have NB241_240 := n6_; clear n0_ n1_ n2_ n3_ n4_ n5_ n6_ hb hbox hg; have hnb34 := NB240_241.out; have hnc34 := NB241_240.out; obtain ⟨hcz35_0, hcz35_1, hcz35_2, hcz35_3, hcz35_4, hcz35_5, hfz35_0, hfz35_1, hfz35_2, hfz35_3, hfz35_4, hfz35_5⟩ := bk6 BK240.out; obtain ⟨hcz36_0, hcz36_1, hcz36_2, hcz36_3, hcz36_4, hcz36_5, hfz36_0, hfz36_1, hfz36_2, hfz36_3, hfz36_4, hfz36_5⟩ := bk6 BK241.out) | (go_at_call 51; (with_reducible refine (slices_Equal_string_string.calls k _ _ l0_1 _ _ l1_1 false _ ?side1 ?side2 ?side3 ?side4 A5.out).mono ?_); (case side1 => repeat (first | exact (Kd.C_below HR0_1.out HB.out) | (with_reducible refine Kd.C_alloc ?_ _) | (with_reducible refine Kd.C_drewN ?_ _) | (with_reducible refine Kd.C_drew ?_))); (case side2 => exact HC0_1.out); (case side3 => repeat (first | exact (Kd.C_below HR1_1.out HB.out) | (with_reducible refine Kd.C_alloc ?_ _) | (with_reducible refine Kd.C_drewN ?_ _) | (with_reducible refine Kd.C_drew ?_))); (case side4 => exact HC1_1.out); rintro e w' ⟨rfl, ⟨nd, rfl⟩⟩))
    go_ret
    exact ⟨by first | rfl | (simp [errW_none, errW_some] <;> rfl) | (simp [*, errW_none, errW_some] <;> rfl), bq31⟩
  ·rw [if_neg c4] at H
   have c4b0 : (a0_2.toList == a1_2.toList) = false := beq_eq_false_iff_ne.mpr c4
   have c4b1 : (a0_2.toList != a1_2.toList) = true := bne_iff_ne.mpr c4
   obtain rfl := Option.some.inj H
   go_enter Tryd.func35, Tryd.ntmps35
   go_wp2_with (first | ((with_reducible refine gate_dst (N := 2) rfl ?_); refine box_event ?hg (N := 2) ?hd (cs := #[.string a0_0, .slice A0_1 l0_1.length c0_1, .string a0_2, .slice A0_3 l0_3.length c0_3, .slice A0_4 l0_4.length c0_4, .slice A0_5 l0_5.length c0_5]) (t := 40) ?hr ?_; (case hd => rfl); (case hg => rfl); (case hr => first | (go_simp; done) | (go_simp; rfl)); intro gb240 hg w37 hbox hb; have n0_ := Aside0.mk (below_step (bq51) hb); have n1_ := Aside0.mk (hbox); have n2_ := Aside0.mk ((bq35 : w.heap.size ≤ gb240)); have n3_ := Aside0.mk ((bq35 : w.heap.size ≤ gb240)); clear HB; have HB := n0_; have BK240 := n1_; have GW240 := n2_; have GE240 := n3_; clear n0_ n1_ n2_ n3_ hb hbox hg) | ((with_reducible refine gate_dst (N := 3) rfl ?_); refine box_event ?hg (N := 3) ?hd (cs := #[.string a1_0, .slice A1_1 l1_1.length c1_1, .string a1_2, .slice A1_3 l1_3.length c1_3, .slice A1_4 l1_4.length c1_4, .slice A1_5 l1_5.length c1_5]) (t := 40) ?hr ?_; (case hd => rfl); (case hg => rfl); (case hr => first | (go_simp; done) | (go_simp; rfl)); intro gb241 hg w38 hbox hb; have n0_ := Aside0.mk (blkB BK240.out hb); have n1_ := Aside0.mk (below_step (bq42) hb); have n2_ := Aside0.mk (hbox); have n3_ := Aside0.mk ((bq20 : w.heap.size ≤ gb241)); have n4_ := Aside0.mk ((bq20 : w.heap.size ≤ gb241)); have n5_ := Aside0.mk ((bq85 : gb240 ≠ gb241)); have n6_ := Aside0.mk ((bq86 : gb241 ≠ gb240)); clear BK240 HB; have BK240 := n0_; have HB := n1_; have BK241 := n2_; have GW241 := n3_; have GE241 := n4_; have NB240_241 := n5_; have NB241_240 := n6_; clear n0_ n1_ n2_ n3_ n4_ n5_ n6_ hb hbox hg; have hnb39 := NB240_241.out; have hnc39 := NB241_240.out; obtain ⟨hcz40_0, hcz40_1, hcz40_2, hcz40_3, hcz40_4, hcz40_5, hfz40_0, hfz40_1, hfz40_2, hfz40_3, hfz40_4, hfz40_5⟩ := bk6 BK240.out; obtain ⟨hcz41_0, hcz41_1, hcz41_2, hcz41_3, hcz41_4, hcz41_5, hfz41_0, hfz41_1, hfz41_2, hfz41_3, hfz41_4, hfz41_5⟩ := bk6 BK241.out))
   go_ret
   exact ⟨by first | rfl | (simp [errW_none, errW_some] <;> rfl) | (simp [*, errW_none, errW_some] <;> rfl), bq31⟩
 ·rw [if_neg c3] at H
  have c3b0 : (a0_0.toList == a1_0.toList) = false := beq_eq_false_iff_ne.mpr c3
  have c3b1 : (a0_0.toList != a1_0.toList) = true := bne_iff_ne.mpr c3
  obtain rfl := Option.some.inj H
  go_enter Tryd.func35, Tryd.ntmps35
  go_wp2_with (first | ((with_reducible refine gate_dst (N := 2) rfl ?_); refine box_event ?hg (N := 2) ?hd (cs := #[.string a0_0, .slice A0_1 l0_1.length c0_1, .string a0_2, .slice A0_3 l0_3.length c0_3, .slice A0_4 l0_4.length c0_4, .slice A0_5 l0_5.length c0_5]) (t := 40) ?hr ?_; (case hd => rfl); (case hg => rfl); (case hr => first | (go_simp; done) | (go_simp; rfl)); intro gb240 hg w42 hbox hb; have n0_ := Aside0.mk (below_step (bq51) hb); have n1_ := Aside0.mk (hbox); have n2_ := Aside0.mk ((bq35 : w.heap.size ≤ gb240)); have n3_ := Aside0.mk ((bq35 : w.heap.size ≤ gb240)); clear HB; have HB := n0_; have BK240 := n1_; have GW240 := n2_; have GE240 := n3_; clear n0_ n1_ n2_ n3_ hb hbox hg) | ((with_reducible refine gate_dst (N := 3) rfl ?_); refine box_event ?hg (N := 3) ?hd (cs := #[.string a1_0, .slice A1_1 l1_1.length c1_1, .string a1_2, .slice A1_3 l1_3.length c1_3, .slice A1_4 l1_4.length c1_4, .slice A1_5 l1_5.length c1_5]) (t := 40) ?hr ?_; (case hd => rfl); (case hg => rfl); (case hr => first | (go_simp; done) | (go_simp; rfl)); intro gb241 hg w43 hbox hb; have n0_ := Aside0.mk (blkB BK240.out hb); have n1_ := Aside0.mk (below_step (bq42) hb); have n2_ := Aside0.mk (hbox); have n3_ := Aside0.mk ((bq20 : w.heap.size ≤ gb241)); have n4_ := Aside0.mk ((bq20 : w.heap.size ≤ gb241)); have n5_ := Aside0.mk ((bq85 : gb240 ≠ gb241)); have n6_ := Aside0.mk ((bq86 : gb241 ≠ gb240)); clear BK240 HB; have BK240 := n0_; have HB := n1_; have BK241 := n2_; have GW241 := n3_; have GE241 := n4_; have NB240_241 := n5_; have NB241_240 := n6_; clear n0_ n1_ n2_ n3_ n4_ n5_ n6_ hb hbox hg; have hnb44 := NB240_241.out; have hnc44 := NB241_240.out; obtain ⟨hcz45_0, hcz45_1, hcz45_2, hcz45_3, hcz45_4, hcz45_5, hfz45_0, hfz45_1, hfz45_2, hfz45_3, hfz45_4, hfz45_5⟩ := bk6 BK240.out; obtain ⟨hcz46_0, hcz46_1, hcz46_2, hcz46_3, hcz46_4, hcz46_5, hfz46_0, hfz46_1, hfz46_2, hfz46_3, hfz46_4, hfz46_5⟩ := bk6 BK241.out))
  go_ret
  exact ⟨by first | rfl | (simp [errW_none, errW_some] <;> rfl) | (simp [*, errW_none, errW_some] <;> rfl), bq31⟩
end Go.Proofs.YtkiiojgaaoaipaaDoor.Q
/- slices.EqualFunc at ir.sameFun: by hand (tool/eqf.py). -/
namespace Go.Proofs.YtkiiojgaaoaipaaDoor.Q
open Go.RowKit Go.Proofs.YtkiiojgaaoaipaaDoorW.PrintWords Go.Proofs.YtkiiojgaaoaipaaDoorW.PrintLast Go.Proofs.YtkiiojgaaoaipaaDoorW.PrintMore
set_option linter.unusedVariables false
set_option linter.unusedSimpArgs false
theorem sameF_eq (x y : S40) (hm : x.f1.length ≤ 9223372036854775807) (hm3 : x.f3.length ≤ 9223372036854775807) : ir_sameFun.f (x.f1.length + x.f3.length + 1) x.f0 x.f1 x.f2 x.f3 x.f4 x.f5 y.f0 y.f1 y.f2 y.f3 y.f4 y.f5 = some (eqF x y) := by
 unfold ir_sameFun.f eqF
 by_cases h1 : x.f0.toList = y.f0.toList
 ·rw [if_pos h1, show eqT x.f0 y.f0 = true from beq_iff_eq.mpr h1, Bool.true_and]
  by_cases h2 : x.f2.toList = y.f2.toList
  ·rw [if_pos h2, show eqT x.f2 y.f2 = true from beq_iff_eq.mpr h2, Bool.true_and, str_same _ _ _ (by omega) hm, Option.bind_some]
   cases eqL eqT x.f1 y.f1
   ·rw [if_neg (by simp), Bool.false_and]
   ·rw [if_pos rfl, Bool.true_and, str_same _ _ _ (by omega) hm3, Option.bind_some]
    cases eqL eqT x.f3 y.f3
    ·rw [if_neg (by simp), Bool.false_and]
    ·rw [if_pos rfl, Bool.true_and]
     show (some (eqL eqI x.f4 y.f4)).bind _ = _
     rw [Option.bind_some]
     cases eqL eqI x.f4 y.f4
     ·rw [if_neg (by simp), Bool.false_and]
     ·rw [if_pos rfl, Bool.true_and]; rfl
  ·rw [if_neg h2, show eqT x.f2 y.f2 = false from beq_eq_false_iff_ne.mpr h2, Bool.false_and]
 ·rw [if_neg h1, show eqT x.f0 y.f0 = false from beq_eq_false_iff_ne.mpr h1, Bool.false_and]
set_option maxHeartbeats 1600000 in
theorem fun_eq (A0 : Option Addr) (c0 : Nat) (l0 : List (S40)) (A1 : Option Addr) (c1 : Nat) (l1 : List (S40)) (w : World) (hr0 : Kd.C k40 w A0 l0.length l0) (hc0 : l0.length ≤ c0) (hr1 : Kd.C k40 w A1 l1.length l1) (hc1 : l1.length ≤ c1) :
  Calls Tryd.prog 34 #[.slice A0 l0.length c0, .slice A1 l1.length c1, .func (.func 35) #[] #[]] w fun e w' => e = .returned (.bool (decB (l0 = l1))) ∧ Below w.heap.size w w' := by
 have hu := Tryd.underlying40
 have HR0 := Aside0.mk hr0; clear hr0
 have HR1 := Aside0.mk hr1; clear hr1
 have HM := Aside0.mk (Kd.C_max HR0.out)
 have hm := HM.out
 have hm1 := Kd.C_max HR1.out
 by_cases hn : l0.length = l1.length
 ·have hd : (l0.length == l1.length) = true := beq_iff_eq.mpr hn
  have hd2 : ((l0.length : Int) != (l1.length : Int)) = false := by rw [hn]; simp
  have HN := Aside0.mk hn; clear hn
  go_enter Tryd.func34, Tryd.ntmps34
  go_wp2_with fail
  go_loopw [7, 8, 9, 17] (fun _ _ _ v wr => ∃ k : Nat, v = .int .i64 k ∧ k ≤ l0.length ∧ Aside0 (∀ i : Nat, i < k → l0.getD i z40 = l1.getD i z40) ∧ Below w.heap.size w wr) (fun _ _ _ v _ => l0.length - (intOf v).toNat)
  case atStart => exact ⟨0, rfl, Nat.zero_le _, ⟨fun i h => absurd h (Nat.not_lt_zero _)⟩, Below.refl _ _⟩
  case round =>
   obtain ⟨k, rfl, hk, HA, hB⟩ := hrel
   by_cases hlt : k < l0.length
   ·have hlt1 : k < l1.length := by have := HN.out; omega
    obtain ⟨ad, A1, a1, A3, a3, A4, a4, A5, a5, e1, hx0, hx1, hx2, hx3, hx4, hx5, hl1, hi1, hl3, hi3, hl4, hi4, hl5, hi5⟩ := at_T40 (Kd.C_below HR0.out hB) (k : Int) (by omega) (by omega)
    obtain ⟨bd, B1, b1, B3, b3, B4, b4, B5, b5, e2, hy0, hy1, hy2, hy3, hy4, hy5, hm1, hj1, hm3, hj3, hm4, hj4, hm5, hj5⟩ := at_T40 (Kd.C_below HR1.out hB) (k : Int) (by omega) (by omega)
    cases e1
    cases e2
    obtain ⟨x, ex⟩ : ∃ x, x = rd_T40 l0 (k : Int) := ⟨_, rfl⟩
    obtain ⟨y, ey⟩ : ∃ y, y = rd_T40 l1 (k : Int) := ⟨_, rfl⟩
    rw [← ex] at hx0 hx1 hx2 hx3 hx4 hx5 hl1 hi1 hl3 hi3 hl4 hi4 hl5 hi5
    rw [← ey] at hy0 hy1 hy2 hy3 hy4 hy5 hm1 hj1 hm3 hj3 hm4 hj4 hm5 hj5
    simp only [Int.toNat_natCast] at hx0 hx1 hx2 hx3 hx4 hx5 hy0 hy1 hy2 hy3 hy4 hy5
    have EX : Aside0 (x = l0.getD k z40) := ⟨by rw [ex]; unfold rd_T40; rw [Int.toNat_natCast]⟩
    have EY : Aside0 (y = l1.getD k z40) := ⟨by rw [ey]; unfold rd_T40; rw [Int.toNat_natCast]⟩
    clear ex ey
    have hz0 := pw_cell_below (below_alloc (Below.refl wr.heap.size wr) (.cells #[.string x.f0, .slice A1 x.f1.length a1, .string x.f2, .slice A3 x.f3.length a3, .slice A4 x.f4.length a4, .slice A5 x.f5.length a5] 40)) hy0
    have hz1 := pw_cell_below (below_alloc (Below.refl wr.heap.size wr) (.cells #[.string x.f0, .slice A1 x.f1.length a1, .string x.f2, .slice A3 x.f3.length a3, .slice A4 x.f4.length a4, .slice A5 x.f5.length a5] 40)) hy1
    have hz2 := pw_cell_below (below_alloc (Below.refl wr.heap.size wr) (.cells #[.string x.f0, .slice A1 x.f1.length a1, .string x.f2, .slice A3 x.f3.length a3, .slice A4 x.f4.length a4, .slice A5 x.f5.length a5] 40)) hy2
    have hz3 := pw_cell_below (below_alloc (Below.refl wr.heap.size wr) (.cells #[.string x.f0, .slice A1 x.f1.length a1, .string x.f2, .slice A3 x.f3.length a3, .slice A4 x.f4.length a4, .slice A5 x.f5.length a5] 40)) hy3
    have hz4 := pw_cell_below (below_alloc (Below.refl wr.heap.size wr) (.cells #[.string x.f0, .slice A1 x.f1.length a1, .string x.f2, .slice A3 x.f3.length a3, .slice A4 x.f4.length a4, .slice A5 x.f5.length a5] 40)) hy4
    have hz5 := pw_cell_below (below_alloc (Below.refl wr.heap.size wr) (.cells #[.string x.f0, .slice A1 x.f1.length a1, .string x.f2, .slice A3 x.f3.length a3, .slice A4 x.f4.length a4, .slice A5 x.f5.length a5] 40)) hy5
    have HI1 := Aside0.mk hi1; have HJ1 := Aside0.mk hj1; have HL1 := Aside0.mk hl1; have HM1 := Aside0.mk hm1; have HI3 := Aside0.mk hi3; have HJ3 := Aside0.mk hj3; have HL3 := Aside0.mk hl3; have HM3 := Aside0.mk hm3; have HI4 := Aside0.mk hi4; have HJ4 := Aside0.mk hj4; have HL4 := Aside0.mk hl4; have HM4 := Aside0.mk hm4; have HI5 := Aside0.mk hi5; have HJ5 := Aside0.mk hj5; have HL5 := Aside0.mk hl5; have HM5 := Aside0.mk hm5
    clear hi1 hj1 hl1 hm1 hi3 hj3 hl3 hm3 hi4 hj4 hl4 hm4 hi5 hj5 hl5 hm5
    go_wp2_with fail
    refine (ir_sameFun.calls (x.f1.length + x.f3.length + 1) x.f0 A1 a1 x.f1 x.f2 A3 a3 x.f3 A4 a4 x.f4 A5 a5 x.f5 y.f0 B1 b1 y.f1 y.f2 B3 b3 y.f3 B4 b4 y.f4 B5 b5 y.f5 _ _ (Kd.C_alloc (Kd.C_alloc HI1.out _) _) HL1.out (Kd.C_alloc (Kd.C_alloc HI3.out _) _) HL3.out (Kd.C_alloc (Kd.C_alloc HI4.out _) _) HL4.out (Kd.C_alloc (Kd.C_alloc HI5.out _) _) HL5.out (Kd.C_alloc (Kd.C_alloc HJ1.out _) _) HM1.out (Kd.C_alloc (Kd.C_alloc HJ3.out _) _) HM3.out (Kd.C_alloc (Kd.C_alloc HJ4.out _) _) HM4.out (Kd.C_alloc (Kd.C_alloc HJ5.out _) _) HM5.out (sameF_eq x y (Kd.C_max HI1.out) (Kd.C_max HI3.out))).mono ?_
    rintro e w1 ⟨rfl, hb1⟩
    have HB1 : Aside0 (Below w.heap.size w w1) := ⟨below_then (below_alloc (below_alloc hB _) _) (by have := hB.size; simp; omega) hb1⟩
    clear hb1 hx0 hx1 hx2 hx3 hx4 hx5 hy0 hy1 hy2 hy3 hy4 hy5 hz0 hz1 hz2 hz3 hz4 hz5 HI1 HJ1 HL1 HM1 HI3 HJ3 HL3 HM3 HI4 HJ4 HL4 HM4 HI5 HJ5 HL5 HM5
    have hbd := bool_dec (eqF_iff x y)
    by_cases hxy : x = y
    ·rw [hbd, decB_true hxy]
     have HA1 : Aside0 (∀ i : Nat, i < k + 1 → l0.getD i z40 = l1.getD i z40) := ⟨all_succ HA.out (bq97)⟩
     clear hxy HA EX EY hbd
     go_wp2
     go_roundw
     case rel => exact ⟨k + 1, by go_num, by omega, HA1, HB1.out⟩
     case measure => simp [intOf]; omega
    ·rw [hbd, decB_false hxy]
     have HE : Aside0 (decB (l0 = l1) = false) := ⟨decB_false (fun e => hxy (by rw [EX.out, EY.out, e]))⟩
     clear hxy HA EX EY hbd
     go_wp2
     go_ret
     exact ⟨by rw [HE.out]; rfl, HB1.out⟩
   ·have HE : Aside0 (decB (l0 = l1) = true) := ⟨decB_true (lists_eq z40 HN.out (fun j hj => HA.out j (by omega)))⟩
    clear HA
    go_wp2
    go_ret
    exact ⟨by rw [HE.out]; rfl, hB⟩
 ·have hd : (l0.length == l1.length) = false := beq_eq_false_iff_ne.mpr hn
  have hd2 : ((l0.length : Int) != (l1.length : Int)) = true := by rw [bne_iff_ne]; omega
  have HE : Aside0 (decB (l0 = l1) = false) := ⟨decB_false (fun e => hn (by rw [e]))⟩
  clear hn
  go_enter Tryd.func34, Tryd.ntmps34
  go_wp2
  go_ret
  exact ⟨by rw [HE.out]; rfl, Below.refl _ _⟩
def api_Fun_ir_sameFun.f (l0 : List (S40)) (l1 : List (S40)) : Option (Bool) := some (eqL eqF l0 l1)
theorem api_Fun_ir_sameFun.calls (A0 : Option Addr) (c0 : Nat) (l0 : List (S40)) (A1 : Option Addr) (c1 : Nat) (l1 : List (S40)) (r : Bool) (w : World) (hr0 : Kd.C k40 w A0 l0.length l0) (hc0 : l0.length ≤ c0) (hr1 : Kd.C k40 w A1 l1.length l1) (hc1 : l1.length ≤ c1) (h : api_Fun_ir_sameFun.f l0 l1 = some r) :
  Calls Tryd.prog 34 #[.slice A0 l0.length c0, .slice A1 l1.length c1, .func (.func 35) #[] #[]] w fun e w' => e = .returned (.bool r) ∧ Below w.heap.size w w' := by
 unfold api_Fun_ir_sameFun.f at h
 rw [bool_dec (eqL_iff eqF_iff l0 l1)] at h
 obtain rfl := Option.some.inj h
 exact fun_eq A0 c0 l0 A1 c1 l1 w hr0 hc0 hr1 hc1
end Go.Proofs.YtkiiojgaaoaipaaDoor.Q
namespace Go.Proofs.YtkiiojgaaoaipaaDoor.Q
open Go.RowKit Go.Proofs.YtkiiojgaaoaipaaDoorW.PrintWords Go.Proofs.YtkiiojgaaoaipaaDoorW.PrintLast Go.Proofs.YtkiiojgaaoaipaaDoorW.PrintMore
attribute [local go_sem] max2_int min2_int max_two min_two max_three min_three max_four min_four   -- for this text's walks alone
set_option linter.unusedVariables false
set_option linter.unusedSimpArgs false
/-! ### kind_Same_1: function 50 -/
def kind_Same_1.f (k : Nat) (a0_0 : ByteArray) (l0_1 : List (S61)) (a1_0 : ByteArray) (l1_1 : List (S61)) : Option (Bool) := if a0_0.toList = a1_0.toList then ((api_Field_33.f k l0_1 l1_1).bind fun t229 => (some t229)) else (some false)
theorem kind_Same_1.mono : ∀ a0 a1 a2 a3 k, LeO (kind_Same_1.f k a0 a1 a2 a3) (kind_Same_1.f (k + 1) a0 a1 a2 a3) := by
 intro a0 a1 a2 a3 k
 unfold kind_Same_1.f
 repeat' first
   | (with_reducible exact api_Field_33.mono _ _ _)
   | (with_reducible exact LeO.refl _)
   | (with_reducible refine LeO.ite ?_ ?_)
   | (with_reducible refine LeO.bind ?_ (fun _ => ?_))
set_option maxHeartbeats 8000000 in
set_option maxRecDepth 100000 in
theorem kind_Same_1.calls (k : Nat) (a0_0 : ByteArray) (A0_1 : Option Addr) (c0_1 : Nat) (l0_1 : List (S61)) (a1_0 : ByteArray) (A1_1 : Option Addr) (c1_1 : Nat) (l1_1 : List (S61)) (r : Bool) (w : World) (hr0_1 : Kd.C k61 w A0_1 l0_1.length l0_1) (hc0_1 : l0_1.length ≤ c0_1) (hr1_1 : Kd.C k61 w A1_1 l1_1.length l1_1) (hc1_1 : l1_1.length ≤ c1_1) (h : kind_Same_1.f k a0_0 l0_1 a1_0 l1_1 = some r) :
  Calls Tryd.prog 50 #[.agg #[.string a0_0, .slice A0_1 l0_1.length c0_1], .agg #[.string a1_0, .slice A1_1 l1_1.length c1_1]] w fun e w' => e = .returned (.bool r) ∧ Below w.heap.size w w' := by
 have hu58 := Tryd.underlying58
 have HR0_1 := Aside0.mk hr0_1
 have HC0_1 := Aside0.mk hc0_1
 clear hr0_1 hc0_1
 have HR1_1 := Aside0.mk hr1_1
 have HC1_1 := Aside0.mk hc1_1
 clear hr1_1 hc1_1
 have HB := Aside0.mk (Below.refl w.heap.size w)
 have H : (if a0_0.toList = a1_0.toList then ((api_Field_33.f k l0_1 l1_1).bind fun t229 => (some t229)) else (some false)) = some r := h
 clear h
 by_cases c3 : a0_0.toList = a1_0.toList
 ·rw [if_pos c3] at H
  have c3b0 : (a0_0.toList == a1_0.toList) = true := beq_iff_eq.mpr c3
  have c3b1 : (a0_0.toList != a1_0.toList) = false := bne_eq_false_iff_eq.mpr c3
  clear c3
  replace H := Option.bind_eq_some_iff.mp H
  obtain ⟨t229, A40, H⟩ := H
  (try dsimp only at H)
  have A4 := Aside0.mk A40
  clear A40
  obtain rfl := Option.some.inj H
  go_enter Tryd.func50, Tryd.ntmps50
  go_wp2_with (first | ((with_reducible refine gate_dst (N := 2) rfl ?_); refine box_event ?hg (N := 2) ?hd (cs := #[.string a0_0, .slice A0_1 l0_1.length c0_1]) (t := 58) ?hr ?_; (case hd => rfl); (case hg => rfl); (case hr => first | (go_simp; done) | (go_simp; rfl)); intro gb227 hg w5 hbox hb; have n0_ := Aside0.mk (below_step (bq51) hb); have n1_ := Aside0.mk (hbox); have n2_ := Aside0.mk ((bq35 : w.heap.size ≤ gb227)); have n3_ := Aside0.mk ((bq35 : w.heap.size ≤ gb227)); clear HB; have HB := n0_; have BK227 := n1_; have GW227 := n2_; have GE227 := n3_; clear n0_ n1_ n2_ n3_ hb hbox hg) | ((with_reducible refine gate_dst (N := 3) rfl ?_); refine box_event ?hg (N := 3) ?hd (cs := #[.string a1_0, .slice A1_1 l1_1.length c1_1]) (t := 58) ?hr ?_; (case hd => rfl); (case hg => rfl); (case hr => first | (go_simp; done) | (go_simp; rfl)); intro gb228 hg w6 hbox hb; have n0_ := Aside0.mk (blkB BK227.out hb); have n1_ := Aside0.mk (below_step (bq43) hb); have n2_ := Aside0.mk (hbox); have n3_ := Aside0.mk ((bq21 : w.heap.size ≤ gb228)); have n4_ := Aside0.mk ((bq21 : w.heap.size ≤ gb228)); have n5_ := Aside0.mk ((by rw [hg]; exact Nat.ne_of_lt (blkL BK227.out) : gb227 ≠ gb228)); have n6_ := Aside0.mk ((by rw [hg]; exact Nat.ne_of_gt (blkL BK227.out) : gb228 ≠ gb227)); clear BK227 HB; have BK227 := n0_; have HB := n1_; have BK228 := n2_; have GW228 := n3_; have GE228 := n4_; have NB227_228 := n5_; have NB228_227 := n6_; clear n0_ n1_ n2_ n3_ n4_ n5_ n6_ hb hbox hg; have hnb7 := NB227_228.out; have hnc7 := NB228_227.out; obtain ⟨hcz8_0, hcz8_1, hfz8_0, hfz8_1⟩ := bk2 BK227.out; obtain ⟨hcz9_0, hcz9_1, hfz9_0, hfz9_1⟩ := bk2 BK228.out) | (go_at_call 33; (with_reducible refine (api_Field_33.calls k _ _ l0_1 _ _ l1_1 t229 _ ?side1 ?side2 ?side3 ?side4 A4.out).mono ?_); (case side1 => repeat (first | exact (Kd.C_below HR0_1.out HB.out) | (with_reducible refine Kd.C_alloc ?_ _) | (with_reducible refine Kd.C_drewN ?_ _) | (with_reducible refine Kd.C_drew ?_))); (case side2 => exact HC0_1.out); (case side3 => repeat (first | exact (Kd.C_below HR1_1.out HB.out) | (with_reducible refine Kd.C_alloc ?_ _) | (with_reducible refine Kd.C_drewN ?_ _) | (with_reducible refine Kd.C_drew ?_))); (case side4 => exact HC1_1.out); rintro e w' ⟨rfl, ⟨nd, rfl⟩⟩))
  go_ret
  exact ⟨by first | rfl | (simp [errW_none, errW_some] <;> rfl) | (simp [*, errW_none, errW_some] <;> rfl), by repeat (first | (with_reducible first | exact HB.out | apply below_alloc | apply pw_below_drewN | apply below_drew1 | refine below_set ?_ GE227.out | refine below_set ?_ GE228.out) | exact HB.out)⟩
 ·rw [if_neg c3] at H
  have c3b0 : (a0_0.toList == a1_0.toList) = false := beq_eq_false_iff_ne.mpr c3
  have c3b1 : (a0_0.toList != a1_0.toList) = true := bne_iff_ne.mpr c3
  obtain rfl := Option.some.inj H
  go_enter Tryd.func50, Tryd.ntmps50
  go_wp2_with (first | ((with_reducible refine gate_dst (N := 2) rfl ?_); refine box_event ?hg (N := 2) ?hd (cs := #[.string a0_0, .slice A0_1 l0_1.length c0_1]) (t := 58) ?hr ?_; (case hd => rfl); (case hg => rfl); (case hr => first | (go_simp; done) | (go_simp; rfl)); intro gb227 hg w10 hbox hb; have n0_ := Aside0.mk (below_step (bq51) hb); have n1_ := Aside0.mk (hbox); have n2_ := Aside0.mk ((bq35 : w.heap.size ≤ gb227)); have n3_ := Aside0.mk ((bq35 : w.heap.size ≤ gb227)); clear HB; have HB := n0_; have BK227 := n1_; have GW227 := n2_; have GE227 := n3_; clear n0_ n1_ n2_ n3_ hb hbox hg) | ((with_reducible refine gate_dst (N := 3) rfl ?_); refine box_event ?hg (N := 3) ?hd (cs := #[.string a1_0, .slice A1_1 l1_1.length c1_1]) (t := 58) ?hr ?_; (case hd => rfl); (case hg => rfl); (case hr => first | (go_simp; done) | (go_simp; rfl)); intro gb228 hg w11 hbox hb; have n0_ := Aside0.mk (blkB BK227.out hb); have n1_ := Aside0.mk (below_step (bq43) hb); have n2_ := Aside0.mk (hbox); have n3_ := Aside0.mk ((bq21 : w.heap.size ≤ gb228)); have n4_ := Aside0.mk ((bq21 : w.heap.size ≤ gb228)); have n5_ := Aside0.mk ((by rw [hg]; exact Nat.ne_of_lt (blkL BK227.out) : gb227 ≠ gb228)); have n6_ := Aside0.mk ((by rw [hg]; exact Nat.ne_of_gt (blkL BK227.out) : gb228 ≠ gb227)); clear BK227 HB; have BK227 := n0_; have HB := n1_; have BK228 := n2_; have GW228 := n3_; have GE228 := n4_; have NB227_228 := n5_; have NB228_227 := n6_; clear n0_ n1_ n2_ n3_ n4_ n5_ n6_ hb hbox hg; have hnb12 := NB227_228.out; have hnc12 := NB228_227.out; obtain ⟨hcz13_0, hcz13_1, hfz13_0, hfz13_1⟩ := bk2 BK227.out; obtain ⟨hcz14_0, hcz14_1, hfz14_0, hfz14_1⟩ := bk2 BK228.out))
  go_ret
  exact ⟨by first | rfl | (simp [errW_none, errW_some] <;> rfl) | (simp [*, errW_none, errW_some] <;> rfl), by repeat (first | (with_reducible first | exact HB.out | apply below_alloc | apply pw_below_drewN | apply below_drew1 | refine below_set ?_ GE227.out | refine below_set ?_ GE228.out) | exact HB.out)⟩
end Go.Proofs.YtkiiojgaaoaipaaDoor.Q
/- 'kind.Same': by hand. -/
namespace Go.Proofs.YtkiiojgaaoaipaaDoor.Q
open Go.RowKit Go.Proofs.YtkiiojgaaoaipaaDoorW.PrintWords Go.Proofs.YtkiiojgaaoaipaaDoorW.PrintLast Go.Proofs.YtkiiojgaaoaipaaDoorW.PrintMore
set_option linter.unusedVariables false
set_option linter.unusedSimpArgs false
theorem atN_T58 {w : World} {A : Option Addr} {n : Nat} {xs : List S58} (h : Kd.C k58 w A n xs) (k : Nat) (h1 : k < n) : ∃ ad A1 c1, A = some ad ∧ w.cell? (ad.add (k * 2)) = some (.string (xs.getD k z58).f0) ∧ w.cell? ⟨(ad.add (k * 2)).block, (ad.add (k * 2)).off + 1, none⟩ = some (.slice A1 (xs.getD k z58).f1.length c1) ∧ (xs.getD k z58).f1.length ≤ c1 ∧ k61.C w A1 (xs.getD k z58).f1.length (xs.getD k z58).f1 := at_T58 h (k : Int) (by omega) (by omega)
theorem field_eq {x y : S61} (h : (!((x.f0).toList == (y.f0).toList) || (!((x.f1).toList == (y.f1).toList))) = false) : x = y := by
 simp at h
 cases x; cases y
 simp only at h
 rw [bytes_eq h.1, bytes_eq h.2]
theorem fields_l (l l' : List S61) (hn : l.length = l'.length) (hm : l.length ≤ 9223372036854775807) (d : Nat) : ∀ (k i : Nat), i ≤ l.length → l.length - i = d → d < k →
  (∀ j : Nat, j < i → l.getD j z61 = l'.getD j z61) → api_Field_33.l0 k l l' (l.length : Int) (i : Int) = some (decB (l = l')) := by
 induction d with
 | zero =>
  intro k i h0 hd hk h
  obtain ⟨k, rfl⟩ : ∃ m, k = m + 1 := ⟨k - 1, by omega⟩
  simp only [api_Field_33.l0]; rw [if_neg (by omega), decB_true (lists_eq z61 hn (fun j hj => h j (by omega)))]
 | succ d ih =>
  intro k i h0 hd hk h
  obtain ⟨k, rfl⟩ : ∃ m, k = m + 1 := ⟨k - 1, by omega⟩
  simp only [api_Field_33.l0]
  rw [if_pos (by omega), if_pos (by omega), if_pos (by omega), if_pos (by omega)]
  by_cases e : (!(((rd_T61 l i).f0.toList) == ((rd_T61 l' i).f0.toList)) || (!(((rd_T61 l i).f1.toList) == ((rd_T61 l' i).f1.toList)))) = true
  ·rw [if_pos e, decB_false]
   rintro rfl
   simp at e
  ·rw [if_neg e, wrap_succ (by omega) (by omega)]
   have e2 := field_eq (Bool.eq_false_iff.mpr e)
   refine ih k (i + 1) (by omega) (by omega) (by omega) (all_succ h e2)
theorem fields_same (l l' : List S61) (hm : l.length ≤ 9223372036854775807) : api_Field_33.f (l.length + 1) l l' = some (decB (l = l')) := by
 unfold api_Field_33.f
 by_cases hn : l.length = l'.length
 ·rw [if_pos (by omega)]
  exact fields_l l l' hn hm l.length (l.length + 1) 0 (by omega) (by omega) (by omega) (fun j hj => absurd hj (by omega))
 ·rw [if_neg (by omega), decB_false (fun e => hn (by rw [e]))]
theorem struct_eq (x y : S58) (hm : x.f1.length ≤ 9223372036854775807) : kind_Same_1.f (x.f1.length + 1) x.f0 x.f1 y.f0 y.f1 = some (decB (x = y)) := by
 unfold kind_Same_1.f
 by_cases h : x.f0.toList = y.f0.toList
 ·rw [if_pos h, fields_same x.f1 y.f1 hm]
  simp only [Option.bind_some]
  congr 1
  have h := bytes_eq h
  cases x; cases y
  simp only at h
  subst h
  simp [decB]
 ·rw [if_neg h, decB_false (fun e => h (by rw [e]))]
def sameF : List S61 → List S61 → Bool
 | [], [] => true
 | x :: xs, y :: ys => x.f0.toList == y.f0.toList && (x.f1.toList == y.f1.toList && sameF xs ys)
 | _, _ => false
def sameS : List S58 → List S58 → Bool
 | [], [] => true
 | x :: xs, y :: ys => x.f0.toList == y.f0.toList && (sameF x.f1 y.f1 && sameS xs ys)
 | _, _ => false
theorem sameF_iff : ∀ l l' : List S61, sameF l l' = true ↔ l = l'
 | [], [] => by simp [sameF]
 | [], _ :: _ => by simp [sameF]
 | _ :: _, [] => by simp [sameF]
 | x :: xs, y :: ys => by
  simp only [sameF, Bool.and_eq_true, beq_iff_eq, sameF_iff xs ys, List.cons.injEq]
  constructor
  ·rintro ⟨h1, h2, h3⟩
   cases x; cases y
   simp only at h1 h2
   exact ⟨by rw [bytes_eq h1, bytes_eq h2], h3⟩
  ·rintro ⟨rfl, rfl⟩
   exact ⟨rfl, rfl, rfl⟩
theorem sameS_iff : ∀ l l' : List S58, sameS l l' = true ↔ l = l'
 | [], [] => by simp [sameS]
 | [], _ :: _ => by simp [sameS]
 | _ :: _, [] => by simp [sameS]
 | x :: xs, y :: ys => by
  simp only [sameS, Bool.and_eq_true, beq_iff_eq, sameF_iff, sameS_iff xs ys, List.cons.injEq]
  constructor
  ·rintro ⟨h1, h2, h3⟩
   cases x; cases y
   simp only at h1 h2
   exact ⟨by rw [bytes_eq h1, h2], h3⟩
  ·rintro ⟨rfl, rfl⟩
   exact ⟨rfl, rfl, rfl⟩
theorem sameS_dec (l l' : List S58) : sameS l l' = decB (l = l') := by
 cases h : sameS l l'
 ·exact (decB_false (fun e => by rw [(sameS_iff l l').mpr e] at h; cases h)).symm
 ·exact (decB_true ((sameS_iff l l').mp h)).symm
def kind_Same.f (l0 : List (S58)) (l1 : List (S58)) : Option (Bool) := some (sameS l0 l1)
set_option maxHeartbeats 800000 in
theorem same_eq (A0 : Option Addr) (c0 : Nat) (l0 : List (S58)) (A1 : Option Addr) (c1 : Nat) (l1 : List (S58)) (w : World) (hr0 : Kd.C k58 w A0 l0.length l0) (hc0 : l0.length ≤ c0) (hr1 : Kd.C k58 w A1 l1.length l1) (hc1 : l1.length ≤ c1) :
  Calls Tryd.prog 49 #[.slice A0 l0.length c0, .slice A1 l1.length c1, .func (.func 50) #[] #[]] w fun e w' => e = .returned (.bool (decB (l0 = l1))) ∧ Below w.heap.size w w' := by
 have hu := Tryd.underlying58
 have HR0 := Aside0.mk hr0; clear hr0
 have HR1 := Aside0.mk hr1; clear hr1
 have HM := Aside0.mk (Kd.C_max HR0.out)
 have hm := HM.out
 have hm1 := Kd.C_max HR1.out
 by_cases hn : l0.length = l1.length
 ·have hd : (l0.length == l1.length) = true := beq_iff_eq.mpr hn
  have hd2 : ((l0.length : Int) != (l1.length : Int)) = false := by rw [hn]; simp
  have HN := Aside0.mk hn; clear hn
  go_enter Tryd.func49, Tryd.ntmps49
  go_wp2_with fail
  go_loopw [7, 8, 9, 17] (fun _ _ _ v wr => ∃ k : Nat, v = .int .i64 k ∧ k ≤ l0.length ∧ Aside0 (∀ i : Nat, i < k → l0.getD i z58 = l1.getD i z58) ∧ Below w.heap.size w wr) (fun _ _ _ v _ => l0.length - (intOf v).toNat)
  case atStart => exact ⟨0, rfl, Nat.zero_le _, ⟨fun i h => absurd h (Nat.not_lt_zero _)⟩, Below.refl _ _⟩
  case round =>
   obtain ⟨k, rfl, hk, HA, hB⟩ := hrel
   by_cases hlt : k < l0.length
   ·have hlt1 : k < l1.length := by have := HN.out; omega
    obtain ⟨ad, A2, c2, e1, hx0, hx1, hl1, hi1⟩ := atN_T58 (Kd.C_below HR0.out hB) k hlt
    obtain ⟨bd, B2, d2, e2, hy0, hy1, hm2, hj1⟩ := atN_T58 (Kd.C_below HR1.out hB) k hlt1
    cases e1
    cases e2
    obtain ⟨x, ex⟩ : ∃ x, x = l0.getD k z58 := ⟨_, rfl⟩
    rw [← ex] at hx0 hx1 hl1 hi1
    have EX := Aside0.mk ex; clear ex
    obtain ⟨y, ey⟩ : ∃ y, y = l1.getD k z58 := ⟨_, rfl⟩
    rw [← ey] at hy0 hy1 hm2 hj1
    have EY := Aside0.mk ey; clear ey
    have hy0' := pw_cell_below (below_alloc (Below.refl _ _) (.cells #[.string x.f0, .slice A2 x.f1.length c2] 58)) hy0
    have hy1' := pw_cell_below (below_alloc (Below.refl _ _) (.cells #[.string x.f0, .slice A2 x.f1.length c2] 58)) hy1
    have HI := Aside0.mk hi1; have HJ := Aside0.mk hj1; have HL := Aside0.mk hl1; have HL2 := Aside0.mk hm2
    clear hi1 hj1 hl1 hm2
    go_wp2_with fail
    refine (kind_Same_1.calls (x.f1.length + 1) x.f0 A2 c2 x.f1 y.f0 B2 d2 y.f1 _ _ (Kd.C_alloc (Kd.C_alloc HI.out _) _) HL.out (Kd.C_alloc (Kd.C_alloc HJ.out _) _) HL2.out (struct_eq x y (Kd.C_max HI.out))).mono ?_
    rintro e w1 ⟨rfl, hb1⟩
    have HB1 : Aside0 (Below w.heap.size w w1) := ⟨below_then (below_alloc (below_alloc hB _) _) (by have := hB.size; simp; omega) hb1⟩
    clear hb1 hx0 hx1 hy0 hy1 hy0' hy1' HI HJ HL HL2
    by_cases hxy : x = y
    ·rw [decB_true hxy]
     have HA1 : Aside0 (∀ i : Nat, i < k + 1 → l0.getD i z58 = l1.getD i z58) := ⟨all_succ HA.out (bq97)⟩
     clear hxy HA EX EY
     go_wp2
     go_roundw
     case rel => exact ⟨k + 1, by go_num, by omega, HA1, HB1.out⟩
     case measure => simp [intOf]; omega
    ·rw [decB_false hxy]
     have HE : Aside0 (decB (l0 = l1) = false) := ⟨decB_false (fun e => hxy (by rw [EX.out, EY.out, e]))⟩
     clear hxy HA EX EY
     go_wp2
     go_ret
     exact ⟨by rw [HE.out]; rfl, HB1.out⟩
   ·have HE : Aside0 (decB (l0 = l1) = true) := ⟨decB_true (lists_eq z58 HN.out (fun j hj => HA.out j (by omega)))⟩
    clear HA
    go_wp2
    go_ret
    exact ⟨by rw [HE.out]; rfl, hB⟩
 ·have hd : (l0.length == l1.length) = false := beq_eq_false_iff_ne.mpr hn
  have hd2 : ((l0.length : Int) != (l1.length : Int)) = true := by rw [bne_iff_ne]; omega
  have HE : Aside0 (decB (l0 = l1) = false) := ⟨decB_false (fun e => hn (by rw [e]))⟩
  clear hn
  go_enter Tryd.func49, Tryd.ntmps49
  go_wp2
  go_ret
  exact ⟨by rw [HE.out]; rfl, Below.refl _ _⟩
set_option maxHeartbeats 800000 in
theorem kind_Same.calls (A0 : Option Addr) (c0 : Nat) (l0 : List (S58)) (A1 : Option Addr) (c1 : Nat) (l1 : List (S58)) (r : Bool) (w : World) (hr0 : Kd.C k58 w A0 l0.length l0) (hc0 : l0.length ≤ c0) (hr1 : Kd.C k58 w A1 l1.length l1) (hc1 : l1.length ≤ c1) (h : kind_Same.f l0 l1 = some r) :
  Calls Tryd.prog 32 #[.slice A0 l0.length c0, .slice A1 l1.length c1] w fun e w' => e = .returned (.bool r) ∧ Below w.heap.size w w' := by
 unfold kind_Same.f at h
 rw [sameS_dec] at h
 obtain rfl := Option.some.inj h
 clear h
 have HR0 := Aside0.mk hr0; have HR1 := Aside0.mk hr1; have HC0 := Aside0.mk hc0; have HC1 := Aside0.mk hc1
 clear hr0 hr1 hc0 hc1
 go_enter Tryd.func32, Tryd.ntmps32
 go_wp2_with fail
 refine (same_eq A0 c0 l0 A1 c1 l1 w HR0.out HC0.out HR1.out HC1.out).mono ?_
 rintro e w1 ⟨rfl, hb⟩
 go_wp2
 go_ret
 exact ⟨rfl, hb⟩
end Go.Proofs.YtkiiojgaaoaipaaDoor.Q
namespace Go.Proofs.YtkiiojgaaoaipaaDoor.Q
open Go.RowKit Go.Proofs.YtkiiojgaaoaipaaDoorW.PrintWords Go.Proofs.YtkiiojgaaoaipaaDoorW.PrintLast Go.Proofs.YtkiiojgaaoaipaaDoorW.PrintMore
attribute [local go_sem] max2_int min2_int max_two min_two max_three min_three max_four min_four   -- for this text's walks alone
set_option linter.unusedVariables false
set_option linter.unusedSimpArgs false
/-! ### ir_Same: function 13 -/
def ir_Same.f (k : Nat) (l0_0 : List (S58)) (l0_1 : List (S61)) (l0_2 : List (S40)) (l1_0 : List (S58)) (l1_1 : List (S61)) (l1_2 : List (S40)) : Option (Bool) := (kind_Same.f l0_0 l1_0).bind fun t248 => (if t248 = true then ((api_Field_33.f k l0_1 l1_1).bind fun t249 => (if t249 = true then ((api_Fun_ir_sameFun.f l0_2 l1_2).bind fun t250 => (some t250)) else (some false))) else (some false))
theorem ir_Same.mono : ∀ a0 a1 a2 a3 a4 a5 k, LeO (ir_Same.f k a0 a1 a2 a3 a4 a5) (ir_Same.f (k + 1) a0 a1 a2 a3 a4 a5) := by
 intro a0 a1 a2 a3 a4 a5 k
 unfold ir_Same.f
 repeat' first
   | (with_reducible exact api_Field_33.mono _ _ _)
   | (with_reducible exact LeO.refl _)
   | (with_reducible refine LeO.ite ?_ ?_)
   | (with_reducible refine LeO.bind ?_ (fun _ => ?_))
set_option maxHeartbeats 8000000 in
set_option maxRecDepth 100000 in
theorem ir_Same.calls (k : Nat) (A0_0 : Option Addr) (c0_0 : Nat) (l0_0 : List (S58)) (A0_1 : Option Addr) (c0_1 : Nat) (l0_1 : List (S61)) (A0_2 : Option Addr) (c0_2 : Nat) (l0_2 : List (S40)) (A1_0 : Option Addr) (c1_0 : Nat) (l1_0 : List (S58)) (A1_1 : Option Addr) (c1_1 : Nat) (l1_1 : List (S61)) (A1_2 : Option Addr) (c1_2 : Nat) (l1_2 : List (S40)) (r : Bool) (w : World) (hr0_0 : Kd.C k58 w A0_0 l0_0.length l0_0) (hc0_0 : l0_0.length ≤ c0_0) (hr0_1 : Kd.C k61 w A0_1 l0_1.length l0_1) (hc0_1 : l0_1.length ≤ c0_1) (hr0_2 : Kd.C k40 w A0_2 l0_2.length l0_2) (hc0_2 : l0_2.length ≤ c0_2) (hr1_0 : Kd.C k58 w A1_0 l1_0.length l1_0) (hc1_0 : l1_0.length ≤ c1_0) (hr1_1 : Kd.C k61 w A1_1 l1_1.length l1_1) (hc1_1 : l1_1.length ≤ c1_1) (hr1_2 : Kd.C k40 w A1_2 l1_2.length l1_2) (hc1_2 : l1_2.length ≤ c1_2) (h : ir_Same.f k l0_0 l0_1 l0_2 l1_0 l1_1 l1_2 = some r) :
  Calls Tryd.prog 13 #[.agg #[.slice A0_0 l0_0.length c0_0, .slice A0_1 l0_1.length c0_1, .slice A0_2 l0_2.length c0_2], .agg #[.slice A1_0 l1_0.length c1_0, .slice A1_1 l1_1.length c1_1, .slice A1_2 l1_2.length c1_2]] w fun e w' => e = .returned (.bool r) ∧ Below w.heap.size w w' := by
 have hu26 := Tryd.underlying26
 have HR0_0 := Aside0.mk hr0_0
 have HC0_0 := Aside0.mk hc0_0
 clear hr0_0 hc0_0
 have HR0_1 := Aside0.mk hr0_1
 have HC0_1 := Aside0.mk hc0_1
 clear hr0_1 hc0_1
 have HR0_2 := Aside0.mk hr0_2
 have HC0_2 := Aside0.mk hc0_2
 clear hr0_2 hc0_2
 have HR1_0 := Aside0.mk hr1_0
 have HC1_0 := Aside0.mk hc1_0
 clear hr1_0 hc1_0
 have HR1_1 := Aside0.mk hr1_1
 have HC1_1 := Aside0.mk hc1_1
 clear hr1_1 hc1_1
 have HR1_2 := Aside0.mk hr1_2
 have HC1_2 := Aside0.mk hc1_2
 clear hr1_2 hc1_2
 have HB := Aside0.mk (Below.refl w.heap.size w)
 have H : ((kind_Same.f l0_0 l1_0).bind fun t248 => (if t248 = true then ((api_Field_33.f k l0_1 l1_1).bind fun t249 => (if t249 = true then ((api_Fun_ir_sameFun.f l0_2 l1_2).bind fun t250 => (some t250)) else (some false))) else (some false))) = some r := h
 clear h
 replace H := Option.bind_eq_some_iff.mp H
 obtain ⟨t248, A30, H⟩ := H
 (try dsimp only at H)
 have A3 := Aside0.mk A30
 clear A30
 by_cases c4 : t248 = true
 ·subst c4
  have H1 := H; rw [if_pos rfl] at H1; (try dsimp only at H1)
  clear H
  have H := H1
  clear H1
  replace H := Option.bind_eq_some_iff.mp H
  obtain ⟨t249, A50, H⟩ := H
  (try dsimp only at H)
  have A5 := Aside0.mk A50
  clear A50
  by_cases c6 : t249 = true
  ·subst c6
   have H1 := H; rw [if_pos rfl] at H1; (try dsimp only at H1)
   clear H
   have H := H1
   clear H1
   replace H := Option.bind_eq_some_iff.mp H
   obtain ⟨t250, A70, H⟩ := H
   (try dsimp only at H)
   have A7 := Aside0.mk A70
   clear A70
   obtain rfl := Option.some.inj H
   go_enter Tryd.func13, Tryd.ntmps13
   go_wp2_with (first | ((with_reducible refine gate_dst (N := 2) rfl ?_); refine box_event ?hg (N := 2) ?hd (cs := #[.slice A0_0 l0_0.length c0_0, .slice A0_1 l0_1.length c0_1, .slice A0_2 l0_2.length c0_2]) (t := 26) ?hr ?_; (case hd => rfl); (case hg => rfl); (case hr => first | (go_simp; done) | (go_simp; rfl)); intro gb246 hg w8 hbox hb; have n0_ := Aside0.mk (below_step (bq51) hb); have n1_ := Aside0.mk (hbox); have n2_ := Aside0.mk ((bq35 : w.heap.size ≤ gb246)); have n3_ := Aside0.mk ((bq35 : w.heap.size ≤ gb246)); clear HB; have HB := n0_; have BK246 := n1_; have GW246 := n2_; have GE246 := n3_; clear n0_ n1_ n2_ n3_ hb hbox hg) | ((with_reducible refine gate_dst (N := 3) rfl ?_); refine box_event ?hg (N := 3) ?hd (cs := #[.slice A1_0 l1_0.length c1_0, .slice A1_1 l1_1.length c1_1, .slice A1_2 l1_2.length c1_2]) (t := 26) ?hr ?_; (case hd => rfl); (case hg => rfl); (case hr => first | (go_simp; done) | (go_simp; rfl)); intro gb247 hg w9 hbox hb; have n0_ := Aside0.mk (blkB BK246.out hb); have n1_ := Aside0.mk (below_step (bq44) hb); have n2_ := Aside0.mk (hbox); have n3_ := Aside0.mk ((bq22 : w.heap.size ≤ gb247)); have n4_ := Aside0.mk ((bq22 : w.heap.size ≤ gb247)); have n5_ := Aside0.mk ((bq87 : gb246 ≠ gb247)); have n6_ := Aside0.mk ((bq88 : gb247 ≠ gb246)); clear BK246 HB; have BK246 := n0_; have HB := n1_; have BK247 := n2_; have GW247 := n3_; have GE247 := n4_; have NB246_247 := n5_; have NB247_246 := n6_; clear n0_ n1_ n2_ n3_ n4_ n5_ n6_ hb hbox hg; have hnb10 := NB246_247.out; have hnc10 := NB247_246.out; obtain ⟨hcz11_0, hcz11_1, hcz11_2, hfz11_0, hfz11_1, hfz11_2⟩ := bk3 BK246.out; obtain ⟨hcz12_0, hcz12_1, hcz12_2, hfz12_0, hfz12_1, hfz12_2⟩ := bk3 BK247.out) | ((with_reducible refine gate_callee (f := 32) rfl ?_); refine goesL_ (some 9) rfl rfl Tryd.func32 (by kernel_rfl) rfl #[.slice A0_0 l0_0.length c0_0, .slice A1_0 l1_0.length c1_0] rfl (bq48) ?_; (with_reducible refine (kind_Same.calls _ _ l0_0 _ _ l1_0 true _ ?side1 ?side2 ?side3 ?side4 A3.out).mono ?_); (case side1 => repeat (first | exact (Kd.C_below HR0_0.out HB.out) | (with_reducible refine Kd.C_alloc ?_ _) | (with_reducible refine Kd.C_drewN ?_ _) | (with_reducible refine Kd.C_drew ?_))); (case side2 => exact HC0_0.out); (case side3 => repeat (first | exact (Kd.C_below HR1_0.out HB.out) | (with_reducible refine Kd.C_alloc ?_ _) | (with_reducible refine Kd.C_drewN ?_ _) | (with_reducible refine Kd.C_drew ?_))); (case side4 => exact HC1_0.out); rintro e w13 ⟨rfl, hb⟩; refine ⟨_, rfl, ?_⟩; have n0_ := Aside0.mk (blkB BK246.out hb); have n1_ := Aside0.mk (blkB BK247.out hb); have n2_ := Aside0.mk (below_step (bq32) hb); clear BK246 BK247 HB; have BK246 := n0_; have BK247 := n1_; have HB := n2_; clear n0_ n1_ n2_ hb; obtain ⟨hcz14_0, hcz14_1, hcz14_2, hfz14_0, hfz14_1, hfz14_2⟩ := bk3 BK246.out; obtain ⟨hcz15_0, hcz15_1, hcz15_2, hfz15_0, hfz15_1, hfz15_2⟩ := bk3 BK247.out) | (go_at_call 33; (with_reducible refine (api_Field_33.calls k _ _ l0_1 _ _ l1_1 true _ ?side1 ?side2 ?side3 ?side4 A5.out).mono ?_); (case side1 => repeat (first | exact (Kd.C_below HR0_1.out HB.out) | (with_reducible refine Kd.C_alloc ?_ _) | (with_reducible refine Kd.C_drewN ?_ _) | (with_reducible refine Kd.C_drew ?_))); (case side2 => exact HC0_1.out); (case side3 => repeat (first | exact (Kd.C_below HR1_1.out HB.out) | (with_reducible refine Kd.C_alloc ?_ _) | (with_reducible refine Kd.C_drewN ?_ _) | (with_reducible refine Kd.C_drew ?_))); (case side4 => exact HC1_1.out); rintro e w' ⟨rfl, ⟨nd, rfl⟩⟩) | (go_at_call 34; (with_reducible refine (api_Fun_ir_sameFun.calls _ _ l0_2 _ _ l1_2 t250 _ ?side1 ?side2 ?side3 ?side4 A7.out).mono ?_); (case side1 => repeat (first | exact (Kd.C_below HR0_2.out (bq32)) | (with_reducible refine Kd.C_alloc ?_ _) | (with_reducible refine Kd.C_drewN ?_ _) | (with_reducible refine Kd.C_drew ?_))); (case side2 => exact HC0_2.out); (case side3 => repeat (first | exact (Kd.C_below HR1_2.out (bq32)) | (with_reducible refine Kd.C_alloc ?_ _) | (with_reducible refine Kd.C_drewN ?_ _) | (with_reducible refine Kd.C_drew ?_))); (case side4 => exact HC1_2.out); rintro e w16 ⟨rfl, hb⟩; have n0_ := Aside0.mk (blkB BK246.out hb); have n1_ := Aside0.mk (blkB BK247.out hb); have n2_ := Aside0.mk (below_step (bq32) hb); clear BK246 BK247 HB; have BK246 := n0_; have BK247 := n1_; have HB := n2_; clear n0_ n1_ n2_ hb))
   go_ret
   exact ⟨by first | rfl | (simp [errW_none, errW_some] <;> rfl) | (simp [*, errW_none, errW_some] <;> rfl), bq32⟩
  ·replace c6 := Bool.eq_false_iff.mpr c6
   subst c6
   have H1 := H; rw [if_neg (show ¬ (false = true) by decide)] at H1; (try dsimp only at H1)
   clear H
   have H := H1
   clear H1
   obtain rfl := Option.some.inj H
   go_enter Tryd.func13, Tryd.ntmps13
   go_wp2_with (first | ((with_reducible refine gate_dst (N := 2) rfl ?_); refine box_event ?hg (N := 2) ?hd (cs := #[.slice A0_0 l0_0.length c0_0, .slice A0_1 l0_1.length c0_1, .slice A0_2 l0_2.length c0_2]) (t := 26) ?hr ?_; (case hd => rfl); (case hg => rfl); (case hr => first | (go_simp; done) | (go_simp; rfl)); intro gb246 hg w17 hbox hb; have n0_ := Aside0.mk (below_step (bq51) hb); have n1_ := Aside0.mk (hbox); have n2_ := Aside0.mk ((bq35 : w.heap.size ≤ gb246)); have n3_ := Aside0.mk ((bq35 : w.heap.size ≤ gb246)); clear HB; have HB := n0_; have BK246 := n1_; have GW246 := n2_; have GE246 := n3_; clear n0_ n1_ n2_ n3_ hb hbox hg) | ((with_reducible refine gate_dst (N := 3) rfl ?_); refine box_event ?hg (N := 3) ?hd (cs := #[.slice A1_0 l1_0.length c1_0, .slice A1_1 l1_1.length c1_1, .slice A1_2 l1_2.length c1_2]) (t := 26) ?hr ?_; (case hd => rfl); (case hg => rfl); (case hr => first | (go_simp; done) | (go_simp; rfl)); intro gb247 hg w18 hbox hb; have n0_ := Aside0.mk (blkB BK246.out hb); have n1_ := Aside0.mk (below_step (bq44) hb); have n2_ := Aside0.mk (hbox); have n3_ := Aside0.mk ((bq22 : w.heap.size ≤ gb247)); have n4_ := Aside0.mk ((bq22 : w.heap.size ≤ gb247)); have n5_ := Aside0.mk ((bq87 : gb246 ≠ gb247)); have n6_ := Aside0.mk ((bq88 : gb247 ≠ gb246)); clear BK246 HB; have BK246 := n0_; have HB := n1_; have BK247 := n2_; have GW247 := n3_; have GE247 := n4_; have NB246_247 := n5_; have NB247_246 := n6_; clear n0_ n1_ n2_ n3_ n4_ n5_ n6_ hb hbox hg; have hnb19 := NB246_247.out; have hnc19 := NB247_246.out; obtain ⟨hcz20_0, hcz20_1, hcz20_2, hfz20_0, hfz20_1, hfz20_2⟩ := bk3 BK246.out; obtain ⟨hcz21_0, hcz21_1, hcz21_2, hfz21_0, hfz21_1, hfz21_2⟩ := bk3 BK247.out) | ((with_reducible refine gate_callee (f := 32) rfl ?_); refine goesL_ (some 9) rfl rfl Tryd.func32 (by kernel_rfl) rfl #[.slice A0_0 l0_0.length c0_0, .slice A1_0 l1_0.length c1_0] rfl (bq48) ?_; (with_reducible refine (kind_Same.calls _ _ l0_0 _ _ l1_0 true _ ?side1 ?side2 ?side3 ?side4 A3.out).mono ?_); (case side1 => repeat (first | exact (Kd.C_below HR0_0.out HB.out) | (with_reducible refine Kd.C_alloc ?_ _) | (with_reducible refine Kd.C_drewN ?_ _) | (with_reducible refine Kd.C_drew ?_))); (case side2 => exact HC0_0.out); (case side3 => repeat (first | exact (Kd.C_below HR1_0.out HB.out) | (with_reducible refine Kd.C_alloc ?_ _) | (with_reducible refine Kd.C_drewN ?_ _) | (with_reducible refine Kd.C_drew ?_))); (case side4 => exact HC1_0.out); rintro e w22 ⟨rfl, hb⟩; refine ⟨_, rfl, ?_⟩; have n0_ := Aside0.mk (blkB BK246.out hb); have n1_ := Aside0.mk (blkB BK247.out hb); have n2_ := Aside0.mk (below_step (bq32) hb); clear BK246 BK247 HB; have BK246 := n0_; have BK247 := n1_; have HB := n2_; clear n0_ n1_ n2_ hb; obtain ⟨hcz23_0, hcz23_1, hcz23_2, hfz23_0, hfz23_1, hfz23_2⟩ := bk3 BK246.out; obtain ⟨hcz24_0, hcz24_1, hcz24_2, hfz24_0, hfz24_1, hfz24_2⟩ := bk3 BK247.out) | (go_at_call 33; (with_reducible refine (api_Field_33.calls k _ _ l0_1 _ _ l1_1 false _ ?side1 ?side2 ?side3 ?side4 A5.out).mono ?_); (case side1 => repeat (first | exact (Kd.C_below HR0_1.out HB.out) | (with_reducible refine Kd.C_alloc ?_ _) | (with_reducible refine Kd.C_drewN ?_ _) | (with_reducible refine Kd.C_drew ?_))); (case side2 => exact HC0_1.out); (case side3 => repeat (first | exact (Kd.C_below HR1_1.out HB.out) | (with_reducible refine Kd.C_alloc ?_ _) | (with_reducible refine Kd.C_drewN ?_ _) | (with_reducible refine Kd.C_drew ?_))); (case side4 => exact HC1_1.out); rintro e w' ⟨rfl, ⟨nd, rfl⟩⟩))
   go_ret
   exact ⟨by first | rfl | (simp [errW_none, errW_some] <;> rfl) | (simp [*, errW_none, errW_some] <;> rfl), bq32⟩
 ·replace c4 := Bool.eq_false_iff.mpr c4
  subst c4
  have H1 := H; rw [if_neg (show ¬ (false = true) by decide)] at H1; (try dsimp only at H1)
  clear H
  have H := H1
  clear H1
  obtain rfl := Option.some.inj H
  go_enter Tryd.func13, Tryd.ntmps13
  go_wp2_with (first | ((with_reducible refine gate_dst (N := 2) rfl ?_); refine box_event ?hg (N := 2) ?hd (cs := #[.slice A0_0 l0_0.length c0_0, .slice A0_1 l0_1.length c0_1, .slice A0_2 l0_2.length c0_2]) (t := 26) ?hr ?_; (case hd => rfl); (case hg => rfl); (case hr => first | (go_simp; done) | (go_simp; rfl)); intro gb246 hg w25 hbox hb; have n0_ := Aside0.mk (below_step (bq51) hb); have n1_ := Aside0.mk (hbox); have n2_ := Aside0.mk ((bq35 : w.heap.size ≤ gb246)); have n3_ := Aside0.mk ((bq35 : w.heap.size ≤ gb246)); clear HB; have HB := n0_; have BK246 := n1_; have GW246 := n2_; have GE246 := n3_; clear n0_ n1_ n2_ n3_ hb hbox hg) | ((with_reducible refine gate_dst (N := 3) rfl ?_); refine box_event ?hg (N := 3) ?hd (cs := #[.slice A1_0 l1_0.length c1_0, .slice A1_1 l1_1.length c1_1, .slice A1_2 l1_2.length c1_2]) (t := 26) ?hr ?_; (case hd => rfl); (case hg => rfl); (case hr => first | (go_simp; done) | (go_simp; rfl)); intro gb247 hg w26 hbox hb; have n0_ := Aside0.mk (blkB BK246.out hb); have n1_ := Aside0.mk (below_step (bq44) hb); have n2_ := Aside0.mk (hbox); have n3_ := Aside0.mk ((bq22 : w.heap.size ≤ gb247)); have n4_ := Aside0.mk ((bq22 : w.heap.size ≤ gb247)); have n5_ := Aside0.mk ((bq87 : gb246 ≠ gb247)); have n6_ := Aside0.mk ((bq88 : gb247 ≠ gb246)); clear BK246 HB; have BK246 := n0_; have HB := n1_; have BK247 := n2_; have GW247 := n3_; have GE247 := n4_; have NB246_247 := n5_; have NB247_246 := n6_; clear n0_ n1_ n2_ n3_ n4_ n5_ n6_ hb hbox hg; have hnb27 := NB246_247.out; have hnc27 := NB247_246.out; obtain ⟨hcz28_0, hcz28_1, hcz28_2, hfz28_0, hfz28_1, hfz28_2⟩ := bk3 BK246.out; obtain ⟨hcz29_0, hcz29_1, hcz29_2, hfz29_0, hfz29_1, hfz29_2⟩ := bk3 BK247.out) | ((with_reducible refine gate_callee (f := 32) rfl ?_); refine goesL_ (some 9) rfl rfl Tryd.func32 (by kernel_rfl) rfl #[.slice A0_0 l0_0.length c0_0, .slice A1_0 l1_0.length c1_0] rfl (bq48) ?_; (with_reducible refine (kind_Same.calls _ _ l0_0 _ _ l1_0 false _ ?side1 ?side2 ?side3 ?side4 A3.out).mono ?_); (case side1 => repeat (first | exact (Kd.C_below HR0_0.out HB.out) | (with_reducible refine Kd.C_alloc ?_ _) | (with_reducible refine Kd.C_drewN ?_ _) | (with_reducible refine Kd.C_drew ?_))); (case side2 => exact HC0_0.out); (case side3 => repeat (first | exact (Kd.C_below HR1_0.out HB.out) | (with_reducible refine Kd.C_alloc ?_ _) | (with_reducible refine Kd.C_drewN ?_ _) | (with_reducible refine Kd.C_drew ?_))); (case side4 => exact HC1_0.out); rintro e w30 ⟨rfl, hb⟩; refine ⟨_, rfl, ?_⟩; have n0_ := Aside0.mk (blkB BK246.out hb); have n1_ := Aside0.mk (blkB BK247.out hb); have n2_ := Aside0.mk (below_step (bq32) hb); clear BK246 BK247 HB; have BK246 := n0_; have BK247 := n1_; have HB := n2_; clear n0_ n1_ n2_ hb))
  go_ret
  exact ⟨by first | rfl | (simp [errW_none, errW_some] <;> rfl) | (simp [*, errW_none, errW_some] <;> rfl), bq32⟩
/-! ### ir_Args: function 17 -/
mutual
def ir_Args.j0 : Nat → Int → Int → Bool → Option (Int)
 | 0, _, _, _ => none
 | k + 1, x0, x3, x4 => if x4 = true then (some 1) else (if x3 = 26 then (some 2) else (if x3 = 20 then (ir_Args.j1 k x0 (x3 == 20)) else (if x3 = 21 then (ir_Args.j1 k x0 (x3 == 21)) else (if x3 = 22 then (ir_Args.j1 k x0 (x3 == 22)) else (if x3 = 23 then (ir_Args.j1 k x0 (x3 == 23)) else (if x3 = 24 then (ir_Args.j1 k x0 (x3 == 24)) else (if x3 = 27 then (ir_Args.j1 k x0 (x3 == 27)) else (if x3 = 29 then (ir_Args.j1 k x0 (x3 == 29)) else (ir_Args.j1 k x0 (x3 == 33))))))))))
def ir_Args.j1 : Nat → Int → Bool → Option (Int)
 | 0, _, _ => none
 | k + 1, x0, x13 => if x13 = true then (some 0) else (if x0 ≥ 1 then (if x0 ≤ 16 then (some 2) else (some (-1))) else (some (-1)))
end
def ir_Args.f (k : Nat) (a0 : Int) : Option (Int) := if a0 = 17 then (ir_Args.j0 k a0 a0 (a0 == 17)) else (if a0 = 18 then (ir_Args.j0 k a0 a0 (a0 == 18)) else (if a0 = 25 then (ir_Args.j0 k a0 a0 (a0 == 25)) else (if a0 = 28 then (ir_Args.j0 k a0 a0 (a0 == 28)) else (if a0 = 30 then (ir_Args.j0 k a0 a0 (a0 == 30)) else (ir_Args.j0 k a0 a0 (a0 == 32))))))
theorem ir_Args.mono_l : ∀ k, (∀ y0 y1 y2, LeO (ir_Args.j0 k y0 y1 y2) (ir_Args.j0 (k + 1) y0 y1 y2)) ∧ (∀ y0 y1, LeO (ir_Args.j1 k y0 y1) (ir_Args.j1 (k + 1) y0 y1))
 | 0 => ⟨fun _ _ _ r h => by simp [ir_Args.j0] at h, fun _ _ r h => by simp [ir_Args.j1] at h⟩
 | k + 1 => by
  obtain ⟨ih0, ih1⟩ := ir_Args.mono_l k
  refine ⟨?_, ?_⟩
  ·intro y0 y1 y2
   unfold ir_Args.j0
   repeat' first
   | (with_reducible exact ih1 _ _)
   | (with_reducible exact LeO.refl _)
   | (with_reducible refine LeO.ite ?_ ?_)
  ·intro y0 y1
   unfold ir_Args.j1
   repeat' first
   | (with_reducible exact LeO.refl _)
theorem ir_Args.mono : ∀ a0 k, LeO (ir_Args.f k a0) (ir_Args.f (k + 1) a0) := by
 intro a0 k
 obtain ⟨ih0, ih1⟩ := ir_Args.mono_l k
 unfold ir_Args.f
 repeat' first
   | (with_reducible exact ih0 _ _ _)
   | (with_reducible refine LeO.ite ?_ ?_)
set_option maxHeartbeats 8000000 in
set_option maxRecDepth 100000 in
theorem ir_Args.calls (k : Nat) (a0 : Int) (r : Int) (w : World) (h : ir_Args.f k a0 = some r) :
  Calls Tryd.prog 17 #[.int .i64 a0] w fun e w' => e = .returned (.int .i64 r) ∧ Drawn0 w w' := by
 have H : (if a0 = 17 then (ir_Args.j0 k a0 a0 (a0 == 17)) else (if a0 = 18 then (ir_Args.j0 k a0 a0 (a0 == 18)) else (if a0 = 25 then (ir_Args.j0 k a0 a0 (a0 == 25)) else (if a0 = 28 then (ir_Args.j0 k a0 a0 (a0 == 28)) else (if a0 = 30 then (ir_Args.j0 k a0 a0 (a0 == 30)) else (ir_Args.j0 k a0 a0 (a0 == 32))))))) = some r := h
 clear h
 have HC2 := Aside0.mk H
 clear H
 go_enter Tryd.func17, Tryd.ntmps17
 go_upto_if 4 with (fail)
 go_cut [4] (fun v4 wc => ∃ (kq : Nat) (x4_1 : Bool), v4 = .bool x4_1 ∧ Aside0 (ir_Args.j0 kq a0 a0 x4_1 = some r) ∧ Aside0 (kq ≤ k) ∧ Drawn0 w wc)
 case first =>
  have H := HC2.out
  clear HC2
  by_cases c3 : a0 = 17
  ·rw [if_pos c3] at H
   have c3b0 : (a0 == 17) = true := beq_iff_eq.mpr c3
   have c3b1 : (a0 != 17) = false := bne_eq_false_iff_eq.mpr c3
   clear c3
   (first | rw [c3b0] | rw [c3b1] | rw [c3b4] | (simp only [i64_w, i32_w]; rw [c3b0]) | skip)
   have H' := Aside0.mk H
   clear H
   go_wp2
   go_meet
   case rel => exact ⟨_, ((a0 == 17)), (bq78), H', ⟨by first | omega | exact Nat.le_refl _⟩, by repeat (first | exact Drawn0.refl _ | apply Drawn0.step)⟩
  ·rw [if_neg c3] at H
   have c3b0 : (a0 == 17) = false := beq_eq_false_iff_ne.mpr c3
   have c3b1 : (a0 != 17) = true := bne_iff_ne.mpr c3
   (first | rw [c3b0] | rw [c3b1] | rw [c3b4] | (simp only [i64_w, i32_w]; rw [c3b0]) | skip)
   by_cases c4 : a0 = 18
   ·rw [if_pos c4] at H
    have c4b0 : (a0 == 18) = true := beq_iff_eq.mpr c4
    have c4b1 : (a0 != 18) = false := bne_eq_false_iff_eq.mpr c4
    clear c4
    have H' := Aside0.mk H
    clear H
    go_wp2
    go_meet
    case rel => exact ⟨_, ((a0 == 18)), (bq78), H', ⟨by first | omega | exact Nat.le_refl _⟩, by repeat (first | exact Drawn0.refl _ | apply Drawn0.step)⟩
   ·rw [if_neg c4] at H
    have c4b0 : (a0 == 18) = false := beq_eq_false_iff_ne.mpr c4
    have c4b1 : (a0 != 18) = true := bne_iff_ne.mpr c4
    by_cases c5 : a0 = 25
    ·rw [if_pos c5] at H
     have c5b0 : (a0 == 25) = true := beq_iff_eq.mpr c5
     have c5b1 : (a0 != 25) = false := bne_eq_false_iff_eq.mpr c5
     clear c5
     have H' := Aside0.mk H
     clear H
     go_wp2
     go_meet
     case rel => exact ⟨_, ((a0 == 25)), (bq78), H', ⟨by first | omega | exact Nat.le_refl _⟩, by repeat (first | exact Drawn0.refl _ | apply Drawn0.step)⟩
    ·rw [if_neg c5] at H
     have c5b0 : (a0 == 25) = false := beq_eq_false_iff_ne.mpr c5
     have c5b1 : (a0 != 25) = true := bne_iff_ne.mpr c5
     by_cases c6 : a0 = 28
     ·rw [if_pos c6] at H
      have c6b0 : (a0 == 28) = true := beq_iff_eq.mpr c6
      have c6b1 : (a0 != 28) = false := bne_eq_false_iff_eq.mpr c6
      clear c6
      have H' := Aside0.mk H
      clear H
      go_wp2
      go_meet
      case rel => exact ⟨_, ((a0 == 28)), (bq78), H', ⟨by first | omega | exact Nat.le_refl _⟩, by repeat (first | exact Drawn0.refl _ | apply Drawn0.step)⟩
     ·rw [if_neg c6] at H
      have c6b0 : (a0 == 28) = false := beq_eq_false_iff_ne.mpr c6
      have c6b1 : (a0 != 28) = true := bne_iff_ne.mpr c6
      by_cases c7 : a0 = 30
      ·rw [if_pos c7] at H
       have c7b0 : (a0 == 30) = true := beq_iff_eq.mpr c7
       have c7b1 : (a0 != 30) = false := bne_eq_false_iff_eq.mpr c7
       clear c7
       have H' := Aside0.mk H
       clear H
       go_wp2
       go_meet
       case rel => exact ⟨_, ((a0 == 30)), (bq78), H', ⟨by first | omega | exact Nat.le_refl _⟩, by repeat (first | exact Drawn0.refl _ | apply Drawn0.step)⟩
      ·rw [if_neg c7] at H
       have c7b0 : (a0 == 30) = false := beq_eq_false_iff_ne.mpr c7
       have c7b1 : (a0 != 30) = true := bne_iff_ne.mpr c7
       have H' := Aside0.mk H
       clear H
       go_wp2
       go_meet
       case rel => exact ⟨_, ((a0 == 32)), (bq78), H', ⟨by first | omega | exact Nat.le_refl _⟩, by repeat (first | exact Drawn0.refl _ | apply Drawn0.step)⟩
 case rest =>
  clear HC2
  obtain ⟨kq, x4_1, rfl, HA, HJ1, ⟨mc1, rfl⟩⟩ := hcut
  cases kq with
  | zero => exact absurd HA.out (by simp [ir_Args.j0])
  | succ kj1 =>
   have H := HA.out
   clear HA
   simp only [ir_Args.j0] at H
   by_cases c8 : x4_1 = true
   ·subst c8
    have H1 := H; rw [if_pos rfl] at H1; (try dsimp only at H1)
    clear H
    have H := H1
    clear H1
    obtain rfl := Option.some.inj H
    go_wp2
    go_ret
    exact ⟨bq78, by repeat (first | exact Drawn0.refl _ | apply Drawn0.step)⟩
   ·replace c8 := Bool.eq_false_iff.mpr c8
    subst c8
    have H1 := H; rw [if_neg (show ¬ (false = true) by decide)] at H1; (try dsimp only at H1)
    clear H
    have H := H1
    clear H1
    by_cases c9 : a0 = 26
    ·rw [if_pos c9] at H
     have c9b0 : (a0 == 26) = true := beq_iff_eq.mpr c9
     have c9b1 : (a0 != 26) = false := bne_eq_false_iff_eq.mpr c9
     clear c9
     obtain rfl := Option.some.inj H
     go_wp2
     go_ret
     exact ⟨bq78, by repeat (first | exact Drawn0.refl _ | apply Drawn0.step)⟩
    ·rw [if_neg c9] at H
     have c9b0 : (a0 == 26) = false := beq_eq_false_iff_ne.mpr c9
     have c9b1 : (a0 != 26) = true := bne_iff_ne.mpr c9
     have HC10 := Aside0.mk H
     clear H
     go_upto_if 13 with (fail)
     go_cut [13] (fun v13 wc => ∃ (kq : Nat) (x13_9 : Bool), v13 = .bool x13_9 ∧ Aside0 (ir_Args.j1 kq a0 x13_9 = some r) ∧ Aside0 (kq ≤ kj1) ∧ Drawn0 w wc)
     case first =>
      have H := HC10.out
      clear HC10
      by_cases c11 : a0 = 20
      ·rw [if_pos c11] at H
       have c11b0 : (a0 == 20) = true := beq_iff_eq.mpr c11
       have c11b1 : (a0 != 20) = false := bne_eq_false_iff_eq.mpr c11
       clear c11
       (first | rw [c11b0] | rw [c11b1] | rw [c11b4] | (simp only [i64_w, i32_w]; rw [c11b0]) | skip)
       have H' := Aside0.mk H
       clear H
       go_wp2
       go_meet
       case rel => exact ⟨_, ((a0 == 20)), (bq78), H', ⟨by have := HJ1.out; first | omega | exact Nat.le_refl _⟩, by repeat (first | exact Drawn0.refl _ | apply Drawn0.step)⟩
      ·rw [if_neg c11] at H
       have c11b0 : (a0 == 20) = false := beq_eq_false_iff_ne.mpr c11
       have c11b1 : (a0 != 20) = true := bne_iff_ne.mpr c11
       (first | rw [c11b0] | rw [c11b1] | rw [c11b4] | (simp only [i64_w, i32_w]; rw [c11b0]) | skip)
       by_cases c12 : a0 = 21
       ·rw [if_pos c12] at H
        have c12b0 : (a0 == 21) = true := beq_iff_eq.mpr c12
        have c12b1 : (a0 != 21) = false := bne_eq_false_iff_eq.mpr c12
        clear c12
        have H' := Aside0.mk H
        clear H
        go_wp2
        go_meet
        case rel => exact ⟨_, ((a0 == 21)), (bq78), H', ⟨by have := HJ1.out; first | omega | exact Nat.le_refl _⟩, by repeat (first | exact Drawn0.refl _ | apply Drawn0.step)⟩
       ·rw [if_neg c12] at H
        have c12b0 : (a0 == 21) = false := beq_eq_false_iff_ne.mpr c12
        have c12b1 : (a0 != 21) = true := bne_iff_ne.mpr c12
        by_cases c13 : a0 = 22
        ·rw [if_pos c13] at H
         have c13b0 : (a0 == 22) = true := beq_iff_eq.mpr c13
         have c13b1 : (a0 != 22) = false := bne_eq_false_iff_eq.mpr c13
         clear c13
         have H' := Aside0.mk H
         clear H
         go_wp2
         go_meet
         case rel => exact ⟨_, ((a0 == 22)), (bq78), H', ⟨by have := HJ1.out; first | omega | exact Nat.le_refl _⟩, by repeat (first | exact Drawn0.refl _ | apply Drawn0.step)⟩
        ·rw [if_neg c13] at H
         have c13b0 : (a0 == 22) = false := beq_eq_false_iff_ne.mpr c13
         have c13b1 : (a0 != 22) = true := bne_iff_ne.mpr c13
         by_cases c14 : a0 = 23
         ·rw [if_pos c14] at H
          have c14b0 : (a0 == 23) = true := beq_iff_eq.mpr c14
          have c14b1 : (a0 != 23) = false := bne_eq_false_iff_eq.mpr c14
          clear c14
          have H' := Aside0.mk H
          clear H
          go_wp2
          go_meet
          case rel => exact ⟨_, ((a0 == 23)), (bq78), H', ⟨by have := HJ1.out; first | omega | exact Nat.le_refl _⟩, by repeat (first | exact Drawn0.refl _ | apply Drawn0.step)⟩
         ·rw [if_neg c14] at H
          have c14b0 : (a0 == 23) = false := beq_eq_false_iff_ne.mpr c14
          have c14b1 : (a0 != 23) = true := bne_iff_ne.mpr c14
          by_cases c15 : a0 = 24
          ·rw [if_pos c15] at H
           have c15b0 : (a0 == 24) = true := beq_iff_eq.mpr c15
           have c15b1 : (a0 != 24) = false := bne_eq_false_iff_eq.mpr c15
           clear c15
           have H' := Aside0.mk H
           clear H
           go_wp2
           go_meet
           case rel => exact ⟨_, ((a0 == 24)), (bq78), H', ⟨by have := HJ1.out; first | omega | exact Nat.le_refl _⟩, by repeat (first | exact Drawn0.refl _ | apply Drawn0.step)⟩
          ·rw [if_neg c15] at H
           have c15b0 : (a0 == 24) = false := beq_eq_false_iff_ne.mpr c15
           have c15b1 : (a0 != 24) = true := bne_iff_ne.mpr c15
           by_cases c16 : a0 = 27
           ·rw [if_pos c16] at H
            have c16b0 : (a0 == 27) = true := beq_iff_eq.mpr c16
            have c16b1 : (a0 != 27) = false := bne_eq_false_iff_eq.mpr c16
            clear c16
            have H' := Aside0.mk H
            clear H
            go_wp2
            go_meet
            case rel => exact ⟨_, ((a0 == 27)), (bq78), H', ⟨by have := HJ1.out; first | omega | exact Nat.le_refl _⟩, by repeat (first | exact Drawn0.refl _ | apply Drawn0.step)⟩
           ·rw [if_neg c16] at H
            have c16b0 : (a0 == 27) = false := beq_eq_false_iff_ne.mpr c16
            have c16b1 : (a0 != 27) = true := bne_iff_ne.mpr c16
            by_cases c17 : a0 = 29
            ·rw [if_pos c17] at H
             have c17b0 : (a0 == 29) = true := beq_iff_eq.mpr c17
             have c17b1 : (a0 != 29) = false := bne_eq_false_iff_eq.mpr c17
             clear c17
             have H' := Aside0.mk H
             clear H
             go_wp2
             go_meet
             case rel => exact ⟨_, ((a0 == 29)), (bq78), H', ⟨by have := HJ1.out; first | omega | exact Nat.le_refl _⟩, by repeat (first | exact Drawn0.refl _ | apply Drawn0.step)⟩
            ·rw [if_neg c17] at H
             have c17b0 : (a0 == 29) = false := beq_eq_false_iff_ne.mpr c17
             have c17b1 : (a0 != 29) = true := bne_iff_ne.mpr c17
             have H' := Aside0.mk H
             clear H
             go_wp2
             go_meet
             case rel => exact ⟨_, ((a0 == 33)), (bq78), H', ⟨by have := HJ1.out; first | omega | exact Nat.le_refl _⟩, by repeat (first | exact Drawn0.refl _ | apply Drawn0.step)⟩
     case rest =>
      clear HC10 c9 c9b0 c9b1
      obtain ⟨kq, x13_9, rfl, HA, HJ9, ⟨mc9, rfl⟩⟩ := hcut
      cases kq with
      | zero => exact absurd HA.out (by simp [ir_Args.j1])
      | succ kj9 =>
       have H := HA.out
       clear HA
       simp only [ir_Args.j1] at H
       by_cases c18 : x13_9 = true
       ·subst c18
        have H1 := H; rw [if_pos rfl] at H1; (try dsimp only at H1)
        clear H
        have H := H1
        clear H1
        obtain rfl := Option.some.inj H
        go_wp2
        go_ret
        exact ⟨bq78, by repeat (first | exact Drawn0.refl _ | apply Drawn0.step)⟩
       ·replace c18 := Bool.eq_false_iff.mpr c18
        subst c18
        have H1 := H; rw [if_neg (show ¬ (false = true) by decide)] at H1; (try dsimp only at H1)
        clear H
        have H := H1
        clear H1
        by_cases c19 : a0 ≥ 1
        ·rw [if_pos c19] at H
         have c19b0 := decide_eq_true c19
         clear c19
         by_cases c20 : a0 ≤ 16
         ·rw [if_pos c20] at H
          have c20b0 := decide_eq_true c20
          clear c20
          obtain rfl := Option.some.inj H
          go_wp2
          go_ret
          exact ⟨bq78, by repeat (first | exact Drawn0.refl _ | apply Drawn0.step)⟩
         ·rw [if_neg c20] at H
          have c20b0 := decide_eq_false c20
          clear c20
          obtain rfl := Option.some.inj H
          go_wp2
          go_ret
          exact ⟨bq78, by repeat (first | exact Drawn0.refl _ | apply Drawn0.step)⟩
        ·rw [if_neg c19] at H
         have c19b0 := decide_eq_false c19
         clear c19
         obtain rfl := Option.some.inj H
         go_wp2
         go_ret
         exact ⟨bq78, by repeat (first | exact Drawn0.refl _ | apply Drawn0.step)⟩
/-! ### ir_IsQuiet: function 19 -/
def ir_IsQuiet.j0 : Nat → Int → Int → Bool → Option (Bool)
 | 0, _, _, _ => none
 | k + 1, x0, x3, x4 => if x4 = true then (some false) else (if x3 = 20 then (some true) else (if x3 = 21 then (some true) else (if x3 = 22 then (some true) else (if x3 = 23 then (some true) else (if x3 = 27 then (some true) else (if x3 = 29 then (some true) else (if x3 = 34 then (some true) else (if x0 ≥ 1 then (some (decide (x0 ≤ 18))) else (some false)))))))))
def ir_IsQuiet.f (k : Nat) (a0 : Int) : Option (Bool) := if a0 = 4 then (ir_IsQuiet.j0 k a0 a0 (a0 == 4)) else (if a0 = 5 then (ir_IsQuiet.j0 k a0 a0 (a0 == 5)) else (if a0 = 9 then (ir_IsQuiet.j0 k a0 a0 (a0 == 9)) else (ir_IsQuiet.j0 k a0 a0 (a0 == 10))))
theorem ir_IsQuiet.mono_l : ∀ k, (∀ y0 y1 y2, LeO (ir_IsQuiet.j0 k y0 y1 y2) (ir_IsQuiet.j0 (k + 1) y0 y1 y2))
 | 0 => fun _ _ _ r h => by simp [ir_IsQuiet.j0] at h
 | k + 1 => by
  have ih0 := ir_IsQuiet.mono_l k
  ·intro y0 y1 y2
   unfold ir_IsQuiet.j0
   repeat' first
   | (with_reducible exact LeO.refl _)
theorem ir_IsQuiet.mono : ∀ a0 k, LeO (ir_IsQuiet.f k a0) (ir_IsQuiet.f (k + 1) a0) := by
 intro a0 k
 have ih0 := ir_IsQuiet.mono_l k
 unfold ir_IsQuiet.f
 repeat' first
   | (with_reducible exact ih0 _ _ _)
   | (with_reducible refine LeO.ite ?_ ?_)
set_option maxHeartbeats 8000000 in
set_option maxRecDepth 100000 in
theorem ir_IsQuiet.calls (k : Nat) (a0 : Int) (r : Bool) (w : World) (h : ir_IsQuiet.f k a0 = some r) :
  Calls Tryd.prog 19 #[.int .i64 a0] w fun e w' => e = .returned (.bool r) ∧ Drawn0 w w' := by
 have H : (if a0 = 4 then (ir_IsQuiet.j0 k a0 a0 (a0 == 4)) else (if a0 = 5 then (ir_IsQuiet.j0 k a0 a0 (a0 == 5)) else (if a0 = 9 then (ir_IsQuiet.j0 k a0 a0 (a0 == 9)) else (ir_IsQuiet.j0 k a0 a0 (a0 == 10))))) = some r := h
 clear h
 have HC2 := Aside0.mk H
 clear H
 go_enter Tryd.func19, Tryd.ntmps19
 go_upto_if 4 with (fail)
 go_cut [4] (fun v4 wc => ∃ (kq : Nat) (x4_1 : Bool), v4 = .bool x4_1 ∧ Aside0 (ir_IsQuiet.j0 kq a0 a0 x4_1 = some r) ∧ Aside0 (kq ≤ k) ∧ Drawn0 w wc)
 case first =>
  have H := HC2.out
  clear HC2
  by_cases c3 : a0 = 4
  ·rw [if_pos c3] at H
   have c3b0 : (a0 == 4) = true := beq_iff_eq.mpr c3
   have c3b1 : (a0 != 4) = false := bne_eq_false_iff_eq.mpr c3
   clear c3
   (first | rw [c3b0] | rw [c3b1] | rw [c3b4] | (simp only [i64_w, i32_w]; rw [c3b0]) | skip)
   have H' := Aside0.mk H
   clear H
   go_wp2
   go_meet
   case rel => exact ⟨_, ((a0 == 4)), (bq78), H', ⟨by first | omega | exact Nat.le_refl _⟩, by repeat (first | exact Drawn0.refl _ | apply Drawn0.step)⟩
  ·rw [if_neg c3] at H
   have c3b0 : (a0 == 4) = false := beq_eq_false_iff_ne.mpr c3
   have c3b1 : (a0 != 4) = true := bne_iff_ne.mpr c3
   (first | rw [c3b0] | rw [c3b1] | rw [c3b4] | (simp only [i64_w, i32_w]; rw [c3b0]) | skip)
   by_cases c4 : a0 = 5
   ·rw [if_pos c4] at H
    have c4b0 : (a0 == 5) = true := beq_iff_eq.mpr c4
    have c4b1 : (a0 != 5) = false := bne_eq_false_iff_eq.mpr c4
    clear c4
    have H' := Aside0.mk H
    clear H
    go_wp2
    go_meet
    case rel => exact ⟨_, ((a0 == 5)), (bq78), H', ⟨by first | omega | exact Nat.le_refl _⟩, by repeat (first | exact Drawn0.refl _ | apply Drawn0.step)⟩
   ·rw [if_neg c4] at H
    have c4b0 : (a0 == 5) = false := beq_eq_false_iff_ne.mpr c4
    have c4b1 : (a0 != 5) = true := bne_iff_ne.mpr c4
    by_cases c5 : a0 = 9
    ·rw [if_pos c5] at H
     have c5b0 : (a0 == 9) = true := beq_iff_eq.mpr c5
     have c5b1 : (a0 != 9) = false := bne_eq_false_iff_eq.mpr c5
     clear c5
     have H' := Aside0.mk H
     clear H
     go_wp2
     go_meet
     case rel => exact ⟨_, ((a0 == 9)), (bq78), H', ⟨by first | omega | exact Nat.le_refl _⟩, by repeat (first | exact Drawn0.refl _ | apply Drawn0.step)⟩
    ·rw [if_neg c5] at H
     have c5b0 : (a0 == 9) = false := beq_eq_false_iff_ne.mpr c5
     have c5b1 : (a0 != 9) = true := bne_iff_ne.mpr c5
     have H' := Aside0.mk H
     clear H
     go_wp2
     go_meet
     case rel => exact ⟨_, ((a0 == 10)), (bq78), H', ⟨by first | omega | exact Nat.le_refl _⟩, by repeat (first | exact Drawn0.refl _ | apply Drawn0.step)⟩
 case rest =>
  clear HC2
  obtain ⟨kq, x4_1, rfl, HA, HJ1, ⟨mc1, rfl⟩⟩ := hcut
  cases kq with
  | zero => exact absurd HA.out (by simp [ir_IsQuiet.j0])
  | succ kj1 =>
   have H := HA.out
   clear HA
   simp only [ir_IsQuiet.j0] at H
   by_cases c6 : x4_1 = true
   ·subst c6
    have H1 := H; rw [if_pos rfl] at H1; (try dsimp only at H1)
    clear H
    have H := H1
    clear H1
    obtain rfl := Option.some.inj H
    go_wp2
    go_ret
    exact ⟨bq78, by repeat (first | exact Drawn0.refl _ | apply Drawn0.step)⟩
   ·replace c6 := Bool.eq_false_iff.mpr c6
    subst c6
    have H1 := H; rw [if_neg (show ¬ (false = true) by decide)] at H1; (try dsimp only at H1)
    clear H
    have H := H1
    clear H1
    by_cases c7 : a0 = 20
    ·rw [if_pos c7] at H
     have c7b0 : (a0 == 20) = true := beq_iff_eq.mpr c7
     have c7b1 : (a0 != 20) = false := bne_eq_false_iff_eq.mpr c7
     clear c7
     obtain rfl := Option.some.inj H
     go_wp2
     go_ret
     exact ⟨bq78, by repeat (first | exact Drawn0.refl _ | apply Drawn0.step)⟩
    ·rw [if_neg c7] at H
     have c7b0 : (a0 == 20) = false := beq_eq_false_iff_ne.mpr c7
     have c7b1 : (a0 != 20) = true := bne_iff_ne.mpr c7
     by_cases c8 : a0 = 21
     ·rw [if_pos c8] at H
      have c8b0 : (a0 == 21) = true := beq_iff_eq.mpr c8
      have c8b1 : (a0 != 21) = false := bne_eq_false_iff_eq.mpr c8
      clear c8
      obtain rfl := Option.some.inj H
      go_wp2
      go_ret
      exact ⟨bq78, by repeat (first | exact Drawn0.refl _ | apply Drawn0.step)⟩
     ·rw [if_neg c8] at H
      have c8b0 : (a0 == 21) = false := beq_eq_false_iff_ne.mpr c8
      have c8b1 : (a0 != 21) = true := bne_iff_ne.mpr c8
      by_cases c9 : a0 = 22
      ·rw [if_pos c9] at H
       have c9b0 : (a0 == 22) = true := beq_iff_eq.mpr c9
       have c9b1 : (a0 != 22) = false := bne_eq_false_iff_eq.mpr c9
       clear c9
       obtain rfl := Option.some.inj H
       go_wp2
       go_ret
       exact ⟨bq78, by repeat (first | exact Drawn0.refl _ | apply Drawn0.step)⟩
      ·rw [if_neg c9] at H
       have c9b0 : (a0 == 22) = false := beq_eq_false_iff_ne.mpr c9
       have c9b1 : (a0 != 22) = true := bne_iff_ne.mpr c9
       by_cases c10 : a0 = 23
       ·rw [if_pos c10] at H
        have c10b0 : (a0 == 23) = true := beq_iff_eq.mpr c10
        have c10b1 : (a0 != 23) = false := bne_eq_false_iff_eq.mpr c10
        clear c10
        obtain rfl := Option.some.inj H
        go_wp2
        go_ret
        exact ⟨bq78, by repeat (first | exact Drawn0.refl _ | apply Drawn0.step)⟩
       ·rw [if_neg c10] at H
        have c10b0 : (a0 == 23) = false := beq_eq_false_iff_ne.mpr c10
        have c10b1 : (a0 != 23) = true := bne_iff_ne.mpr c10
        by_cases c11 : a0 = 27
        ·rw [if_pos c11] at H
         have c11b0 : (a0 == 27) = true := beq_iff_eq.mpr c11
         have c11b1 : (a0 != 27) = false := bne_eq_false_iff_eq.mpr c11
         clear c11
         obtain rfl := Option.some.inj H
         go_wp2
         go_ret
         exact ⟨bq78, by repeat (first | exact Drawn0.refl _ | apply Drawn0.step)⟩
        ·rw [if_neg c11] at H
         have c11b0 : (a0 == 27) = false := beq_eq_false_iff_ne.mpr c11
         have c11b1 : (a0 != 27) = true := bne_iff_ne.mpr c11
         by_cases c12 : a0 = 29
         ·rw [if_pos c12] at H
          have c12b0 : (a0 == 29) = true := beq_iff_eq.mpr c12
          have c12b1 : (a0 != 29) = false := bne_eq_false_iff_eq.mpr c12
          clear c12
          obtain rfl := Option.some.inj H
          go_wp2
          go_ret
          exact ⟨bq78, by repeat (first | exact Drawn0.refl _ | apply Drawn0.step)⟩
         ·rw [if_neg c12] at H
          have c12b0 : (a0 == 29) = false := beq_eq_false_iff_ne.mpr c12
          have c12b1 : (a0 != 29) = true := bne_iff_ne.mpr c12
          by_cases c13 : a0 = 34
          ·rw [if_pos c13] at H
           have c13b0 : (a0 == 34) = true := beq_iff_eq.mpr c13
           have c13b1 : (a0 != 34) = false := bne_eq_false_iff_eq.mpr c13
           clear c13
           obtain rfl := Option.some.inj H
           go_wp2
           go_ret
           exact ⟨bq78, by repeat (first | exact Drawn0.refl _ | apply Drawn0.step)⟩
          ·rw [if_neg c13] at H
           have c13b0 : (a0 == 34) = false := beq_eq_false_iff_ne.mpr c13
           have c13b1 : (a0 != 34) = true := bne_iff_ne.mpr c13
           by_cases c14 : a0 ≥ 1
           ·rw [if_pos c14] at H
            have c14b0 := decide_eq_true c14
            clear c14
            obtain rfl := Option.some.inj H
            go_wp2
            go_ret
            exact ⟨bq78, by repeat (first | exact Drawn0.refl _ | apply Drawn0.step)⟩
           ·rw [if_neg c14] at H
            have c14b0 := decide_eq_false c14
            clear c14
            obtain rfl := Option.some.inj H
            go_wp2
            go_ret
            exact ⟨bq78, by repeat (first | exact Drawn0.refl _ | apply Drawn0.step)⟩
end Go.Proofs.YtkiiojgaaoaipaaDoor.Q
/- slices.Clone: by hand. -/
namespace Go.Proofs.YtkiiojgaaoaipaaDoor.Q
open Go.RowKit Go.Proofs.YtkiiojgaaoaipaaDoorW.PrintWords Go.Proofs.YtkiiojgaaoaipaaDoorW.PrintLast Go.Proofs.YtkiiojgaaoaipaaDoorW.PrintMore
set_option linter.unusedVariables false
set_option linter.unusedSimpArgs false
theorem info_field : (Tryd.prog.info? 61).map (fun i => (i.zero, i.size, i.bytes)) = some (some (.agg #[(.string ⟨#[]⟩), (.string ⟨#[]⟩)]), 2, 32) := by kernel_rfl
set_option maxRecDepth 100000 in
set_option maxHeartbeats 2000000 in
theorem clone_slices_Clone_int_int (A : Option Addr) (c : Nat) (l : List Int) (w : World) (hr : (Kd.int .i64).C w A l.length l) (hc : l.length ≤ c) (hl : l.length ≤ 1000000) :
  Calls Tryd.prog 61 #[.slice A l.length c] w fun e w' => ∃ v0_ : Value, e = .returned (v0_) ∧ Kd.R (Kd.int .i64) 3 w' w.heap.size (fun _ => True) v0_ l ∧ Below w.heap.size w w' := by
 have HR := Aside0.mk hr
 have HL := Aside0.mk hl
 cases A with
 | none =>
  have heq : ∀ W : World, (binOp .eql 42 (.slice none l.length c) (.slice none 0 0)).run Tryd.prog W = .ok (.bool true) W := fun W => rfl
  have h0 : l = [] := by
   by_cases h : 0 < l.length
   ·obtain ⟨ad, e, _⟩ := hr.2.2 h
    cases e
   ·exact List.eq_nil_of_length_eq_zero (by omega)
  have H0 := Aside0.mk h0; clear h0
  clear hr hl
  go_enter Tryd.func61, Tryd.ntmps61
  go_wp2
  go_ret
  exact ⟨_, rfl, by rw [H0.out]; exact Kd.R_nil _ _ _ _ _, Below.refl _ _⟩
 | some ad =>
  have heq : ∀ W : World, (binOp .eql 42 (.slice (some ad) l.length c) (.slice none 0 0)).run Tryd.prog W = .ok (.bool false) W := fun W => rfl
  clear hr hl
  go_enter Tryd.func61, Tryd.ntmps61
  go_wp2_with (first | ((with_reducible refine gate_dst (N := 5) rfl ?_); refine Kd.R_lit (Kd.int .i64) (w0 := w) w.heap.size 3 ?hg (N := 5) ?hd (xs := ([] : List Int)) (inner := []) (ok := fun _ => True) (okp := fun _ => True) ?hr ?hp (fun _ hk => hk) trivial (Below.refl _ _) (Nat.le_refl _) (by simp) ?_; (case hd => rfl); (case hg => rfl); (case hr => first | (go_simp; done) | (go_simp; rfl)); (case hp => exact Reps.none _ _); intro v1 w1 ho hb hg_ hnew_; have HO := Aside0.mk ho; have HB := Aside0.mk hb; clear ho hb hg_ hnew_) | ((with_reducible refine gate_builtin (b := .append) (xs := #[.tmp 5, .tmp 6]) rfl ?_); at_builtin; refine Kd.R_append_rows (Kd.int .i64) (Rr := (Kd.int .i64).K w1) (w0 := w) w.heap.size rfl (.tmp 5) (.tmp 6) 42 3 (.int .i64 0) 8 rfl Tryd.underlying42 info3 rfl (by decide) (by omega) v1 [] l (some ad) l.length c (fun _ => True) (fun _ => False) rfl rfl HO.out (Kd.C_below HR.out HB.out) (fun _ _ hk => hk) (fun _ hk => hk.elim) (fun _ _ => trivial) HB.out HB.out.size ?aL ?_; (case aL => have := HL.out; simp; omega); intro v2 w2 ho hb hg_ hat_; have HO2 := Aside0.mk ho; have HB2 := Aside0.mk hb; clear ho hb hg_ hat_))
  go_ret
  exact ⟨_, rfl, HO2.out, HB2.out⟩
def slices_Clone_int_int.f (l0 : List Int) : Option (List Int) := if l0.length ≤ 1000000 then some l0 else none
theorem slices_Clone_int_int.calls (A0 : Option Addr) (c0 : Nat) (l0 : List Int) (r : List Int) (w : World) (hr0 : Kd.C (Kd.int .i64) w A0 l0.length l0) (hc0 : l0.length ≤ c0) (h : slices_Clone_int_int.f l0 = some r) :
  Calls Tryd.prog 61 #[.slice A0 l0.length c0] w fun e w' => ∃ v0_ : Value, e = .returned (v0_) ∧ Kd.R (Kd.int .i64) 3 w' w.heap.size (fun _ => True) v0_ r ∧ Below w.heap.size w w' := by
 unfold slices_Clone_int_int.f at h
 split at h
 case isFalse => cases h
 rename_i hl
 obtain rfl := Option.some.inj h
 exact clone_slices_Clone_int_int A0 c0 l0 w hr0 hc0 hl
set_option maxRecDepth 100000 in
set_option maxHeartbeats 2000000 in
theorem clone_slices_Clone_string_string (A : Option Addr) (c : Nat) (l : List ByteArray) (w : World) (hr : Kd.string.C w A l.length l) (hc : l.length ≤ c) (hl : l.length ≤ 1000000) :
  Calls Tryd.prog 60 #[.slice A l.length c] w fun e w' => ∃ v0_ : Value, e = .returned (v0_) ∧ Kd.R Kd.string 9 w' w.heap.size (fun _ => True) v0_ l ∧ Below w.heap.size w w' := by
 have HR := Aside0.mk hr
 have HL := Aside0.mk hl
 cases A with
 | none =>
  have heq : ∀ W : World, (binOp .eql 31 (.slice none l.length c) (.slice none 0 0)).run Tryd.prog W = .ok (.bool true) W := fun W => rfl
  have h0 : l = [] := by
   by_cases h : 0 < l.length
   ·obtain ⟨ad, e, _⟩ := hr.2.2 h
    cases e
   ·exact List.eq_nil_of_length_eq_zero (by omega)
  have H0 := Aside0.mk h0; clear h0
  clear hr hl
  go_enter Tryd.func60, Tryd.ntmps60
  go_wp2
  go_ret
  exact ⟨_, rfl, by rw [H0.out]; exact Kd.R_nil _ _ _ _ _, Below.refl _ _⟩
 | some ad =>
  have heq : ∀ W : World, (binOp .eql 31 (.slice (some ad) l.length c) (.slice none 0 0)).run Tryd.prog W = .ok (.bool false) W := fun W => rfl
  clear hr hl
  go_enter Tryd.func60, Tryd.ntmps60
  go_wp2_with (first | ((with_reducible refine gate_dst (N := 5) rfl ?_); refine Kd.R_lit Kd.string (w0 := w) w.heap.size 9 ?hg (N := 5) ?hd (xs := ([] : List ByteArray)) (inner := []) (ok := fun _ => True) (okp := fun _ => True) ?hr ?hp (fun _ hk => hk) trivial (Below.refl _ _) (Nat.le_refl _) (by simp) ?_; (case hd => rfl); (case hg => rfl); (case hr => first | (go_simp; done) | (go_simp; rfl)); (case hp => exact Reps.none _ _); intro v1 w1 ho hb hg_ hnew_; have HO := Aside0.mk ho; have HB := Aside0.mk hb; clear ho hb hg_ hnew_) | ((with_reducible refine gate_builtin (b := .append) (xs := #[.tmp 5, .tmp 6]) rfl ?_); at_builtin; refine Kd.R_append_rows Kd.string (Rr := Kd.string.K w1) (w0 := w) w.heap.size rfl (.tmp 5) (.tmp 6) 31 9 (.string ⟨#[]⟩) 16 rfl Tryd.underlying31 info9 rfl (by decide) (by omega) v1 [] l (some ad) l.length c (fun _ => True) (fun _ => False) rfl rfl HO.out (Kd.C_below HR.out HB.out) (fun _ _ hk => hk) (fun _ hk => hk.elim) (fun _ _ => trivial) HB.out HB.out.size ?aL ?_; (case aL => have := HL.out; simp; omega); intro v2 w2 ho hb hg_ hat_; have HO2 := Aside0.mk ho; have HB2 := Aside0.mk hb; clear ho hb hg_ hat_))
  go_ret
  exact ⟨_, rfl, HO2.out, HB2.out⟩
def slices_Clone_string_string.f (l0 : List ByteArray) : Option (List ByteArray) := if l0.length ≤ 1000000 then some l0 else none
theorem slices_Clone_string_string.calls (A0 : Option Addr) (c0 : Nat) (l0 : List ByteArray) (r : List ByteArray) (w : World) (hr0 : Kd.C Kd.string w A0 l0.length l0) (hc0 : l0.length ≤ c0) (h : slices_Clone_string_string.f l0 = some r) :
  Calls Tryd.prog 60 #[.slice A0 l0.length c0] w fun e w' => ∃ v0_ : Value, e = .returned (v0_) ∧ Kd.R Kd.string 9 w' w.heap.size (fun _ => True) v0_ r ∧ Below w.heap.size w w' := by
 unfold slices_Clone_string_string.f at h
 split at h
 case isFalse => cases h
 rename_i hl
 obtain rfl := Option.some.inj h
 exact clone_slices_Clone_string_string A0 c0 l0 w hr0 hc0 hl
set_option maxRecDepth 100000 in
set_option maxHeartbeats 2000000 in
theorem clone_api_Field_ (A : Option Addr) (c : Nat) (l : List S61) (w : World) (hr : k61.C w A l.length l) (hc : l.length ≤ c) (hl : l.length ≤ 1000000) :
  Calls Tryd.prog 43 #[.slice A l.length c] w fun e w' => ∃ v0_ : Value, e = .returned (v0_) ∧ Kd.R k61 61 w' w.heap.size (fun _ => True) v0_ l ∧ Below w.heap.size w w' := by
 have HR := Aside0.mk hr
 have HL := Aside0.mk hl
 cases A with
 | none =>
  have heq : ∀ W : World, (binOp .eql 23 (.slice none l.length c) (.slice none 0 0)).run Tryd.prog W = .ok (.bool true) W := fun W => rfl
  have h0 : l = [] := by
   by_cases h : 0 < l.length
   ·obtain ⟨ad, e, _⟩ := hr.2.2 h
    cases e
   ·exact List.eq_nil_of_length_eq_zero (by omega)
  have H0 := Aside0.mk h0; clear h0
  clear hr hl
  go_enter Tryd.func43, Tryd.ntmps43
  go_wp2
  go_ret
  exact ⟨_, rfl, by rw [H0.out]; exact Kd.R_nil _ _ _ _ _, Below.refl _ _⟩
 | some ad =>
  have heq : ∀ W : World, (binOp .eql 23 (.slice (some ad) l.length c) (.slice none 0 0)).run Tryd.prog W = .ok (.bool false) W := fun W => rfl
  clear hr hl
  go_enter Tryd.func43, Tryd.ntmps43
  go_wp2_with (first | ((with_reducible refine gate_dst (N := 5) rfl ?_); refine Kd.R_lit k61 (w0 := w) w.heap.size 61 ?hg (N := 5) ?hd (xs := ([] : List S61)) (inner := []) (ok := fun _ => True) (okp := fun _ => True) ?hr ?hp (fun _ hk => hk) trivial (Below.refl _ _) (Nat.le_refl _) (by simp) ?_; (case hd => rfl); (case hg => rfl); (case hr => first | (go_simp; done) | (go_simp; rfl)); (case hp => exact Reps.none _ _); intro v1 w1 ho hb hg_ hnew_; have HO := Aside0.mk ho; have HB := Aside0.mk hb; clear ho hb hg_ hnew_) | ((with_reducible refine gate_builtin (b := .append) (xs := #[.tmp 5, .tmp 6]) rfl ?_); at_builtin; refine Kd.R_append_rows k61 (Rr := k61.K w1) (w0 := w) w.heap.size rfl (.tmp 5) (.tmp 6) 23 61 (.agg #[(.string ⟨#[]⟩), (.string ⟨#[]⟩)]) 32 rfl Tryd.underlying23 info_field rfl (by decide) (by omega) v1 [] l (some ad) l.length c (fun _ => True) (fun _ => False) rfl rfl HO.out (Kd.C_below HR.out HB.out) (fun _ _ hk => hk) (fun _ hk => hk.elim) (fun _ _ => trivial) HB.out HB.out.size ?aL ?_; (case aL => have := HL.out; simp; omega); intro v2 w2 ho hb hg_ hat_; have HO2 := Aside0.mk ho; have HB2 := Aside0.mk hb; clear ho hb hg_ hat_))
  go_ret
  exact ⟨_, rfl, HO2.out, HB2.out⟩
def api_Field_43.f (l0 : List S61) : Option (List S61) := if l0.length ≤ 1000000 then some l0 else none
theorem api_Field_43.calls (A0 : Option Addr) (c0 : Nat) (l0 : List S61) (r : List S61) (w : World) (hr0 : Kd.C k61 w A0 l0.length l0) (hc0 : l0.length ≤ c0) (h : api_Field_43.f l0 = some r) :
  Calls Tryd.prog 43 #[.slice A0 l0.length c0] w fun e w' => ∃ v0_ : Value, e = .returned (v0_) ∧ Kd.R k61 61 w' w.heap.size (fun _ => True) v0_ r ∧ Below w.heap.size w w' := by
 unfold api_Field_43.f at h
 split at h
 case isFalse => cases h
 rename_i hl
 obtain rfl := Option.some.inj h
 exact clone_api_Field_ A0 c0 l0 w hr0 hc0 hl
end Go.Proofs.YtkiiojgaaoaipaaDoor.Q
