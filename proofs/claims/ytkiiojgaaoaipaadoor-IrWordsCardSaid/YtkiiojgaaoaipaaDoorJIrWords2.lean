/- What the row of IrWords rests on, part 2: contracts of the functions that it reaches, and the plain law. -/
import Derived.Test.YtkiiojgaaoaipaaDoorJIrWords1
namespace Go.Proofs.YtkiiojgaaoaipaaDoor.Q
open Go.RowKit Go.Proofs.YtkiiojgaaoaipaaDoorW.PrintWords Go.Proofs.YtkiiojgaaoaipaaDoorW.PrintLast Go.Proofs.YtkiiojgaaoaipaaDoorW.PrintMore
attribute [local go_sem] max2_int min2_int max_two min_two max_three min_three max_four min_four   -- for this text's walks alone
set_option linter.unusedVariables false
set_option linter.unusedSimpArgs false

/-! ### ir_sameFun: function 35 -/
def ir_sameFun.f (k : Nat) (a0_0 : ByteArray) (l0_1 : List ByteArray) (a0_2 : ByteArray) (l0_3 : List ByteArray) (l0_4 : List (S47)) (l0_5 : List (S53)) (a1_0 : ByteArray) (l1_1 : List ByteArray) (a1_2 : ByteArray) (l1_3 : List ByteArray) (l1_4 : List (S47)) (l1_5 : List (S53)) : Option (Bool) := if a0_0.toList = a1_0.toList then (if a0_2.toList = a1_2.toList then ((slices_Equal_string_string.f k l0_1 l1_1).bind fun t242 => (if t242 = true then ((slices_Equal_string_string.f k l0_3 l1_3).bind fun t243 => (if t243 = true then ((api_Ins_ir_sameIns.f l0_4 l1_4).bind fun t244 => (if t244 = true then ((api_Block_ir_sameBlock.f l0_5 l1_5).bind fun t245 => (some t245)) else (some false))) else (some false))) else (some false))) else (some false)) else (some false)
theorem ir_sameFun.mono : ∀ a0 a1 a2 a3 a4 a5 a6 a7 a8 a9 a10 a11 k, LeO (ir_sameFun.f k a0 a1 a2 a3 a4 a5 a6 a7 a8 a9 a10 a11) (ir_sameFun.f (k + 1) a0 a1 a2 a3 a4 a5 a6 a7 a8 a9 a10 a11) := by
 intro a0 a1 a2 a3 a4 a5 a6 a7 a8 a9 a10 a11 k
 unfold ir_sameFun.f
 repeat' first
   | (with_reducible exact slices_Equal_string_string.mono _ _ _)
   | (with_reducible exact LeO.refl _)
   | (with_reducible exact LeO.none _)
   | (with_reducible refine LeO.ite ?_ ?_)
   | (with_reducible refine LeO.bind ?_ (fun _ => ?_))
   | exact slices_Equal_string_string.mono _ _ _
   | exact LeO.none _
   | refine LeO.ite ?_ ?_
   | refine LeO.bind ?_ (fun _ => ?_)
set_option maxHeartbeats 8000000 in
set_option maxRecDepth 100000 in
theorem ir_sameFun.calls (k : Nat) (a0_0 : ByteArray) (A0_1 : Option Addr) (c0_1 : Nat) (l0_1 : List ByteArray) (a0_2 : ByteArray) (A0_3 : Option Addr) (c0_3 : Nat) (l0_3 : List ByteArray) (A0_4 : Option Addr) (c0_4 : Nat) (l0_4 : List (S47)) (A0_5 : Option Addr) (c0_5 : Nat) (l0_5 : List (S53)) (a1_0 : ByteArray) (A1_1 : Option Addr) (c1_1 : Nat) (l1_1 : List ByteArray) (a1_2 : ByteArray) (A1_3 : Option Addr) (c1_3 : Nat) (l1_3 : List ByteArray) (A1_4 : Option Addr) (c1_4 : Nat) (l1_4 : List (S47)) (A1_5 : Option Addr) (c1_5 : Nat) (l1_5 : List (S53)) (r : Bool) (w : World) (hr0_1 : Kd.C Kd.string w A0_1 l0_1.length l0_1) (hc0_1 : l0_1.length ≤ c0_1) (hr0_3 : Kd.C Kd.string w A0_3 l0_3.length l0_3) (hc0_3 : l0_3.length ≤ c0_3) (hr0_4 : Kd.C k47 w A0_4 l0_4.length l0_4) (hc0_4 : l0_4.length ≤ c0_4) (hr0_5 : Kd.C k53 w A0_5 l0_5.length l0_5) (hc0_5 : l0_5.length ≤ c0_5) (hr1_1 : Kd.C Kd.string w A1_1 l1_1.length l1_1) (hc1_1 : l1_1.length ≤ c1_1) (hr1_3 : Kd.C Kd.string w A1_3 l1_3.length l1_3) (hc1_3 : l1_3.length ≤ c1_3) (hr1_4 : Kd.C k47 w A1_4 l1_4.length l1_4) (hc1_4 : l1_4.length ≤ c1_4) (hr1_5 : Kd.C k53 w A1_5 l1_5.length l1_5) (hc1_5 : l1_5.length ≤ c1_5) (h : ir_sameFun.f k a0_0 l0_1 a0_2 l0_3 l0_4 l0_5 a1_0 l1_1 a1_2 l1_3 l1_4 l1_5 = some r) :
  Calls Tryd.prog 35 #[.agg #[.string a0_0, .slice A0_1 l0_1.length c0_1, .string a0_2, .slice A0_3 l0_3.length c0_3, .slice A0_4 l0_4.length c0_4, .slice A0_5 l0_5.length c0_5], .agg #[.string a1_0, .slice A1_1 l1_1.length c1_1, .string a1_2, .slice A1_3 l1_3.length c1_3, .slice A1_4 l1_4.length c1_4, .slice A1_5 l1_5.length c1_5]] w fun e w' => e = .returned (.bool r) ∧ Below w.heap.size w w' := by
 have hu40 := Tryd.underlying40
 have HR0_1 := Aside0.mk hr0_1
 have HC0_1 := Aside0.mk hc0_1
 clear hr0_1 hc0_1
 have HR0_3 := Aside0.mk hr0_3
 have HC0_3 := Aside0.mk hc0_3
 clear hr0_3 hc0_3
 have HR0_4 := Aside0.mk hr0_4
 have HC0_4 := Aside0.mk hc0_4
 clear hr0_4 hc0_4
 have HR0_5 := Aside0.mk hr0_5
 have HC0_5 := Aside0.mk hc0_5
 clear hr0_5 hc0_5
 have HR1_1 := Aside0.mk hr1_1
 have HC1_1 := Aside0.mk hc1_1
 clear hr1_1 hc1_1
 have HR1_3 := Aside0.mk hr1_3
 have HC1_3 := Aside0.mk hc1_3
 clear hr1_3 hc1_3
 have HR1_4 := Aside0.mk hr1_4
 have HC1_4 := Aside0.mk hc1_4
 clear hr1_4 hc1_4
 have HR1_5 := Aside0.mk hr1_5
 have HC1_5 := Aside0.mk hc1_5
 clear hr1_5 hc1_5
 have HB := Aside0.mk (Below.refl w.heap.size w)
 have H : (if a0_0.toList = a1_0.toList then (if a0_2.toList = a1_2.toList then ((slices_Equal_string_string.f k l0_1 l1_1).bind fun t242 => (if t242 = true then ((slices_Equal_string_string.f k l0_3 l1_3).bind fun t243 => (if t243 = true then ((api_Ins_ir_sameIns.f l0_4 l1_4).bind fun t244 => (if t244 = true then ((api_Block_ir_sameBlock.f l0_5 l1_5).bind fun t245 => (some t245)) else (some false))) else (some false))) else (some false))) else (some false)) else (some false)) = some r := h
 clear h
 by_cases c3 : a0_0.toList = a1_0.toList
 ·rw [if_pos c3] at H
  have c3b0 : (a0_0.toList == a1_0.toList) = true := beq_iff_eq.mpr c3
  have c3b1 : (a0_0.toList != a1_0.toList) = false := bne_eq_false_iff_eq.mpr c3
  clear c3
  by_cases c4 : a0_2.toList = a1_2.toList
  ·rw [if_pos c4] at H
   have c4b0 : (a0_2.toList == a1_2.toList) = true := beq_iff_eq.mpr c4
   have c4b1 : (a0_2.toList != a1_2.toList) = false := bne_eq_false_iff_eq.mpr c4
   clear c4
   replace H := Option.bind_eq_some_iff.mp H
   obtain ⟨t242, A50, H⟩ := H
   (try dsimp only at H)
   have A5 := Aside0.mk A50
   clear A50
   by_cases c6 : t242 = true
   ·subst c6
    have H1 := H; rw [if_pos rfl] at H1; (try dsimp only at H1)
    clear H
    have H := H1
    clear H1
    replace H := Option.bind_eq_some_iff.mp H
    obtain ⟨t243, A70, H⟩ := H
    (try dsimp only at H)
    have A7 := Aside0.mk A70
    clear A70
    by_cases c8 : t243 = true
    ·subst c8
     have H1 := H; rw [if_pos rfl] at H1; (try dsimp only at H1)
     clear H
     have H := H1
     clear H1
     replace H := Option.bind_eq_some_iff.mp H
     obtain ⟨t244, A90, H⟩ := H
     (try dsimp only at H)
     have A9 := Aside0.mk A90
     clear A90
     by_cases c10 : t244 = true
     ·subst c10
      have H1 := H; rw [if_pos rfl] at H1; (try dsimp only at H1)
      clear H
      have H := H1
      clear H1
      replace H := Option.bind_eq_some_iff.mp H
      obtain ⟨t245, A110, H⟩ := H
      (try dsimp only at H)
      have A11 := Aside0.mk A110
      clear A110
      obtain rfl := Option.some.inj H
      go_enter Tryd.func35, Tryd.ntmps35
      go_wp2_with (first | ((with_reducible refine gate_dst (N := 2) rfl ?_); refine box_event ?hg (N := 2) ?hd (cs := #[.string a0_0, .slice A0_1 l0_1.length c0_1, .string a0_2, .slice A0_3 l0_3.length c0_3, .slice A0_4 l0_4.length c0_4, .slice A0_5 l0_5.length c0_5]) (t := 40) ?hr ?_; (case hd => rfl); (case hg => rfl); (case hr => first | (go_simp; done) | (go_simp; rfl)); intro gb240 hg w12 hbox hb; have n0_ := Aside0.mk (below_step (bq47) hb); have n1_ := Aside0.mk (hbox); have n2_ := Aside0.mk ((bq33 : w.heap.size ≤ gb240)); have n3_ := Aside0.mk ((bq33 : w.heap.size ≤ gb240)); clear HB; have HB := n0_; have BK240 := n1_; have GW240 := n2_; have GE240 := n3_; clear n0_ n1_ n2_ n3_; clear hb hbox hg) | ((with_reducible refine gate_dst (N := 3) rfl ?_); refine box_event ?hg (N := 3) ?hd (cs := #[.string a1_0, .slice A1_1 l1_1.length c1_1, .string a1_2, .slice A1_3 l1_3.length c1_3, .slice A1_4 l1_4.length c1_4, .slice A1_5 l1_5.length c1_5]) (t := 40) ?hr ?_; (case hd => rfl); (case hg => rfl); (case hr => first | (go_simp; done) | (go_simp; rfl)); intro gb241 hg w13 hbox hb; have n0_ := Aside0.mk (blkB BK240.out hb); have n1_ := Aside0.mk (below_step (bq39) hb); have n2_ := Aside0.mk (hbox); have n3_ := Aside0.mk ((bq19 : w.heap.size ≤ gb241)); have n4_ := Aside0.mk ((bq19 : w.heap.size ≤ gb241)); have n5_ := Aside0.mk ((bq80 : gb240 ≠ gb241)); have n6_ := Aside0.mk ((bq81 : gb241 ≠ gb240)); clear BK240; clear HB; have BK240 := n0_; have HB := n1_; have BK241 := n2_; have GW241 := n3_; have GE241 := n4_; have NB240_241 := n5_; have NB241_240 := n6_; clear n0_ n1_ n2_ n3_ n4_ n5_ n6_; clear hb hbox hg; have hnb14 := NB240_241.out; have hnc14 := NB241_240.out; obtain ⟨hcz15_0, hcz15_1, hcz15_2, hcz15_3, hcz15_4, hcz15_5, hfz15_0, hfz15_1, hfz15_2, hfz15_3, hfz15_4, hfz15_5⟩ := bk6 BK240.out; obtain ⟨hcz16_0, hcz16_1, hcz16_2, hcz16_3, hcz16_4, hcz16_5, hfz16_0, hfz16_1, hfz16_2, hfz16_3, hfz16_4, hfz16_5⟩ := bk6 BK241.out) | (go_at_call 51; (with_reducible refine (slices_Equal_string_string.calls k _ _ l0_1 _ _ l1_1 true _ ?side1 ?side2 ?side3 ?side4 A5.out).mono ?_); clear A5; (case side1 => repeat (first | exact (Kd.C_below HR0_1.out HB.out) | (with_reducible refine Kd.C_alloc ?_ _) | (with_reducible refine Kd.C_drewN ?_ _) | (with_reducible refine Kd.C_drew ?_))); (case side2 => exact HC0_1.out); (case side3 => repeat (first | exact (Kd.C_below HR1_1.out HB.out) | (with_reducible refine Kd.C_alloc ?_ _) | (with_reducible refine Kd.C_drewN ?_ _) | (with_reducible refine Kd.C_drew ?_))); (case side4 => exact HC1_1.out); rintro e w' ⟨rfl, ⟨nd, rfl⟩⟩) | (go_at_call 51; (with_reducible refine (slices_Equal_string_string.calls k _ _ l0_3 _ _ l1_3 true _ ?side1 ?side2 ?side3 ?side4 A7.out).mono ?_); clear A7; (case side1 => repeat (first | exact (Kd.C_below HR0_3.out (bq29)) | (with_reducible refine Kd.C_alloc ?_ _) | (with_reducible refine Kd.C_drewN ?_ _) | (with_reducible refine Kd.C_drew ?_))); (case side2 => exact HC0_3.out); (case side3 => repeat (first | exact (Kd.C_below HR1_3.out (bq29)) | (with_reducible refine Kd.C_alloc ?_ _) | (with_reducible refine Kd.C_drewN ?_ _) | (with_reducible refine Kd.C_drew ?_))); (case side4 => exact HC1_3.out); rintro e w' ⟨rfl, ⟨nd, rfl⟩⟩) | (go_at_call 52; (with_reducible refine (api_Ins_ir_sameIns.calls _ _ l0_4 _ _ l1_4 true _ ?side1 ?side2 ?side3 ?side4 A9.out).mono ?_); (case side1 => repeat (first | exact (Kd.C_below HR0_4.out (bq29)) | (with_reducible refine Kd.C_alloc ?_ _) | (with_reducible refine Kd.C_drewN ?_ _) | (with_reducible refine Kd.C_drew ?_))); (case side2 => exact HC0_4.out); (case side3 => repeat (first | exact (Kd.C_below HR1_4.out (bq29)) | (with_reducible refine Kd.C_alloc ?_ _) | (with_reducible refine Kd.C_drewN ?_ _) | (with_reducible refine Kd.C_drew ?_))); (case side4 => exact HC1_4.out); rintro e w17 ⟨rfl, hb⟩; have n0_ := Aside0.mk (blkB BK240.out hb); have n1_ := Aside0.mk (blkB BK241.out hb); have n2_ := Aside0.mk (below_step (bq29) hb); clear BK240; clear BK241; clear HB; have BK240 := n0_; have BK241 := n1_; have HB := n2_; clear n0_ n1_ n2_; (try clear hb); (try clear hb2); (try clear hk); (try clear hi); obtain ⟨hcz18_0, hcz18_1, hcz18_2, hcz18_3, hcz18_4, hcz18_5, hfz18_0, hfz18_1, hfz18_2, hfz18_3, hfz18_4, hfz18_5⟩ := bk6 BK240.out; obtain ⟨hcz19_0, hcz19_1, hcz19_2, hcz19_3, hcz19_4, hcz19_5, hfz19_0, hfz19_1, hfz19_2, hfz19_3, hfz19_4, hfz19_5⟩ := bk6 BK241.out) | (go_at_call 54; (with_reducible refine (api_Block_ir_sameBlock.calls _ _ l0_5 _ _ l1_5 t245 _ ?side1 ?side2 ?side3 ?side4 A11.out).mono ?_); (case side1 => repeat (first | exact (Kd.C_below HR0_5.out HB.out) | (with_reducible refine Kd.C_alloc ?_ _) | (with_reducible refine Kd.C_drewN ?_ _) | (with_reducible refine Kd.C_drew ?_))); (case side2 => exact HC0_5.out); (case side3 => repeat (first | exact (Kd.C_below HR1_5.out HB.out) | (with_reducible refine Kd.C_alloc ?_ _) | (with_reducible refine Kd.C_drewN ?_ _) | (with_reducible refine Kd.C_drew ?_))); (case side4 => exact HC1_5.out); rintro e w20 ⟨rfl, hb⟩; have n0_ := Aside0.mk (blkB BK240.out hb); have n1_ := Aside0.mk (blkB BK241.out hb); have n2_ := Aside0.mk (below_step (bq29) hb); clear BK240; clear BK241; clear HB; have BK240 := n0_; have BK241 := n1_; have HB := n2_; clear n0_ n1_ n2_; (try clear hb); (try clear hb2); (try clear hk); (try clear hi)))
      go_ret
      exact ⟨by first | rfl | (simp [errW_none, errW_some] <;> rfl) | (simp [*, errW_none, errW_some] <;> rfl), bq29⟩
     ·replace c10 := Bool.eq_false_iff.mpr c10
      subst c10
      have H1 := H; rw [if_neg (show ¬ (false = true) by decide)] at H1; (try dsimp only at H1)
      clear H
      have H := H1
      clear H1
      obtain rfl := Option.some.inj H
      go_enter Tryd.func35, Tryd.ntmps35
      go_wp2_with (first | ((with_reducible refine gate_dst (N := 2) rfl ?_); refine box_event ?hg (N := 2) ?hd (cs := #[.string a0_0, .slice A0_1 l0_1.length c0_1, .string a0_2, .slice A0_3 l0_3.length c0_3, .slice A0_4 l0_4.length c0_4, .slice A0_5 l0_5.length c0_5]) (t := 40) ?hr ?_; (case hd => rfl); (case hg => rfl); (case hr => first | (go_simp; done) | (go_simp; rfl)); intro gb240 hg w21 hbox hb; have n0_ := Aside0.mk (below_step (bq47) hb); have n1_ := Aside0.mk (hbox); have n2_ := Aside0.mk ((bq33 : w.heap.size ≤ gb240)); have n3_ := Aside0.mk ((bq33 : w.heap.size ≤ gb240)); clear HB; have HB := n0_; have BK240 := n1_; have GW240 := n2_; have GE240 := n3_; clear n0_ n1_ n2_ n3_; clear hb hbox hg) | ((with_reducible refine gate_dst (N := 3) rfl ?_); refine box_event ?hg (N := 3) ?hd (cs := #[.string a1_0, .slice A1_1 l1_1.length c1_1, .string a1_2, .slice A1_3 l1_3.length c1_3, .slice A1_4 l1_4.length c1_4, .slice A1_5 l1_5.length c1_5]) (t := 40) ?hr ?_; (case hd => rfl); (case hg => rfl); (case hr => first | (go_simp; done) | (go_simp; rfl)); intro gb241 hg w22 hbox hb; have n0_ := Aside0.mk (blkB BK240.out hb); have n1_ := Aside0.mk (below_step (bq39) hb); have n2_ := Aside0.mk (hbox); have n3_ := Aside0.mk ((bq19 : w.heap.size ≤ gb241)); have n4_ := Aside0.mk ((bq19 : w.heap.size ≤ gb241)); have n5_ := Aside0.mk ((bq80 : gb240 ≠ gb241)); have n6_ := Aside0.mk ((bq81 : gb241 ≠ gb240)); clear BK240; clear HB; have BK240 := n0_; have HB := n1_; have BK241 := n2_; have GW241 := n3_; have GE241 := n4_; have NB240_241 := n5_; have NB241_240 := n6_; clear n0_ n1_ n2_ n3_ n4_ n5_ n6_; clear hb hbox hg; have hnb23 := NB240_241.out; have hnc23 := NB241_240.out; obtain ⟨hcz24_0, hcz24_1, hcz24_2, hcz24_3, hcz24_4, hcz24_5, hfz24_0, hfz24_1, hfz24_2, hfz24_3, hfz24_4, hfz24_5⟩ := bk6 BK240.out; obtain ⟨hcz25_0, hcz25_1, hcz25_2, hcz25_3, hcz25_4, hcz25_5, hfz25_0, hfz25_1, hfz25_2, hfz25_3, hfz25_4, hfz25_5⟩ := bk6 BK241.out) | (go_at_call 51; (with_reducible refine (slices_Equal_string_string.calls k _ _ l0_1 _ _ l1_1 true _ ?side1 ?side2 ?side3 ?side4 A5.out).mono ?_); clear A5; (case side1 => repeat (first | exact (Kd.C_below HR0_1.out HB.out) | (with_reducible refine Kd.C_alloc ?_ _) | (with_reducible refine Kd.C_drewN ?_ _) | (with_reducible refine Kd.C_drew ?_))); (case side2 => exact HC0_1.out); (case side3 => repeat (first | exact (Kd.C_below HR1_1.out HB.out) | (with_reducible refine Kd.C_alloc ?_ _) | (with_reducible refine Kd.C_drewN ?_ _) | (with_reducible refine Kd.C_drew ?_))); (case side4 => exact HC1_1.out); rintro e w' ⟨rfl, ⟨nd, rfl⟩⟩) | (go_at_call 51; (with_reducible refine (slices_Equal_string_string.calls k _ _ l0_3 _ _ l1_3 true _ ?side1 ?side2 ?side3 ?side4 A7.out).mono ?_); clear A7; (case side1 => repeat (first | exact (Kd.C_below HR0_3.out (bq29)) | (with_reducible refine Kd.C_alloc ?_ _) | (with_reducible refine Kd.C_drewN ?_ _) | (with_reducible refine Kd.C_drew ?_))); (case side2 => exact HC0_3.out); (case side3 => repeat (first | exact (Kd.C_below HR1_3.out (bq29)) | (with_reducible refine Kd.C_alloc ?_ _) | (with_reducible refine Kd.C_drewN ?_ _) | (with_reducible refine Kd.C_drew ?_))); (case side4 => exact HC1_3.out); rintro e w' ⟨rfl, ⟨nd, rfl⟩⟩) | (go_at_call 52; (with_reducible refine (api_Ins_ir_sameIns.calls _ _ l0_4 _ _ l1_4 false _ ?side1 ?side2 ?side3 ?side4 A9.out).mono ?_); (case side1 => repeat (first | exact (Kd.C_below HR0_4.out (bq29)) | (with_reducible refine Kd.C_alloc ?_ _) | (with_reducible refine Kd.C_drewN ?_ _) | (with_reducible refine Kd.C_drew ?_))); (case side2 => exact HC0_4.out); (case side3 => repeat (first | exact (Kd.C_below HR1_4.out (bq29)) | (with_reducible refine Kd.C_alloc ?_ _) | (with_reducible refine Kd.C_drewN ?_ _) | (with_reducible refine Kd.C_drew ?_))); (case side4 => exact HC1_4.out); rintro e w26 ⟨rfl, hb⟩; have n0_ := Aside0.mk (blkB BK240.out hb); have n1_ := Aside0.mk (blkB BK241.out hb); have n2_ := Aside0.mk (below_step (bq29) hb); clear BK240; clear BK241; clear HB; have BK240 := n0_; have BK241 := n1_; have HB := n2_; clear n0_ n1_ n2_; (try clear hb); (try clear hb2); (try clear hk); (try clear hi)))
      go_ret
      exact ⟨by first | rfl | (simp [errW_none, errW_some] <;> rfl) | (simp [*, errW_none, errW_some] <;> rfl), bq29⟩
    ·replace c8 := Bool.eq_false_iff.mpr c8
     subst c8
     have H1 := H; rw [if_neg (show ¬ (false = true) by decide)] at H1; (try dsimp only at H1)
     clear H
     have H := H1
     clear H1
     obtain rfl := Option.some.inj H
     go_enter Tryd.func35, Tryd.ntmps35
     go_wp2_with (first | ((with_reducible refine gate_dst (N := 2) rfl ?_); refine box_event ?hg (N := 2) ?hd (cs := #[.string a0_0, .slice A0_1 l0_1.length c0_1, .string a0_2, .slice A0_3 l0_3.length c0_3, .slice A0_4 l0_4.length c0_4, .slice A0_5 l0_5.length c0_5]) (t := 40) ?hr ?_; (case hd => rfl); (case hg => rfl); (case hr => first | (go_simp; done) | (go_simp; rfl)); intro gb240 hg w27 hbox hb; have n0_ := Aside0.mk (below_step (bq47) hb); have n1_ := Aside0.mk (hbox); have n2_ := Aside0.mk ((bq33 : w.heap.size ≤ gb240)); have n3_ := Aside0.mk ((bq33 : w.heap.size ≤ gb240)); clear HB; have HB := n0_; have BK240 := n1_; have GW240 := n2_; have GE240 := n3_; clear n0_ n1_ n2_ n3_; clear hb hbox hg) | ((with_reducible refine gate_dst (N := 3) rfl ?_); refine box_event ?hg (N := 3) ?hd (cs := #[.string a1_0, .slice A1_1 l1_1.length c1_1, .string a1_2, .slice A1_3 l1_3.length c1_3, .slice A1_4 l1_4.length c1_4, .slice A1_5 l1_5.length c1_5]) (t := 40) ?hr ?_; (case hd => rfl); (case hg => rfl); (case hr => first | (go_simp; done) | (go_simp; rfl)); intro gb241 hg w28 hbox hb; have n0_ := Aside0.mk (blkB BK240.out hb); have n1_ := Aside0.mk (below_step (bq39) hb); have n2_ := Aside0.mk (hbox); have n3_ := Aside0.mk ((bq19 : w.heap.size ≤ gb241)); have n4_ := Aside0.mk ((bq19 : w.heap.size ≤ gb241)); have n5_ := Aside0.mk ((bq80 : gb240 ≠ gb241)); have n6_ := Aside0.mk ((bq81 : gb241 ≠ gb240)); clear BK240; clear HB; have BK240 := n0_; have HB := n1_; have BK241 := n2_; have GW241 := n3_; have GE241 := n4_; have NB240_241 := n5_; have NB241_240 := n6_; clear n0_ n1_ n2_ n3_ n4_ n5_ n6_; clear hb hbox hg; have hnb29 := NB240_241.out; have hnc29 := NB241_240.out; obtain ⟨hcz30_0, hcz30_1, hcz30_2, hcz30_3, hcz30_4, hcz30_5, hfz30_0, hfz30_1, hfz30_2, hfz30_3, hfz30_4, hfz30_5⟩ := bk6 BK240.out; obtain ⟨hcz31_0, hcz31_1, hcz31_2, hcz31_3, hcz31_4, hcz31_5, hfz31_0, hfz31_1, hfz31_2, hfz31_3, hfz31_4, hfz31_5⟩ := bk6 BK241.out) | (go_at_call 51; (with_reducible refine (slices_Equal_string_string.calls k _ _ l0_1 _ _ l1_1 true _ ?side1 ?side2 ?side3 ?side4 A5.out).mono ?_); clear A5; (case side1 => repeat (first | exact (Kd.C_below HR0_1.out HB.out) | (with_reducible refine Kd.C_alloc ?_ _) | (with_reducible refine Kd.C_drewN ?_ _) | (with_reducible refine Kd.C_drew ?_))); (case side2 => exact HC0_1.out); (case side3 => repeat (first | exact (Kd.C_below HR1_1.out HB.out) | (with_reducible refine Kd.C_alloc ?_ _) | (with_reducible refine Kd.C_drewN ?_ _) | (with_reducible refine Kd.C_drew ?_))); (case side4 => exact HC1_1.out); rintro e w' ⟨rfl, ⟨nd, rfl⟩⟩) | (go_at_call 51; (with_reducible refine (slices_Equal_string_string.calls k _ _ l0_3 _ _ l1_3 false _ ?side1 ?side2 ?side3 ?side4 A7.out).mono ?_); clear A7; (case side1 => repeat (first | exact (Kd.C_below HR0_3.out (bq29)) | (with_reducible refine Kd.C_alloc ?_ _) | (with_reducible refine Kd.C_drewN ?_ _) | (with_reducible refine Kd.C_drew ?_))); (case side2 => exact HC0_3.out); (case side3 => repeat (first | exact (Kd.C_below HR1_3.out (bq29)) | (with_reducible refine Kd.C_alloc ?_ _) | (with_reducible refine Kd.C_drewN ?_ _) | (with_reducible refine Kd.C_drew ?_))); (case side4 => exact HC1_3.out); rintro e w' ⟨rfl, ⟨nd, rfl⟩⟩))
     go_ret
     exact ⟨by first | rfl | (simp [errW_none, errW_some] <;> rfl) | (simp [*, errW_none, errW_some] <;> rfl), bq29⟩
   ·replace c6 := Bool.eq_false_iff.mpr c6
    subst c6
    have H1 := H; rw [if_neg (show ¬ (false = true) by decide)] at H1; (try dsimp only at H1)
    clear H
    have H := H1
    clear H1
    obtain rfl := Option.some.inj H
    go_enter Tryd.func35, Tryd.ntmps35
    go_wp2_with (first | ((with_reducible refine gate_dst (N := 2) rfl ?_); refine box_event ?hg (N := 2) ?hd (cs := #[.string a0_0, .slice A0_1 l0_1.length c0_1, .string a0_2, .slice A0_3 l0_3.length c0_3, .slice A0_4 l0_4.length c0_4, .slice A0_5 l0_5.length c0_5]) (t := 40) ?hr ?_; (case hd => rfl); (case hg => rfl); (case hr => first | (go_simp; done) | (go_simp; rfl)); intro gb240 hg w32 hbox hb; have n0_ := Aside0.mk (below_step (bq47) hb); have n1_ := Aside0.mk (hbox); have n2_ := Aside0.mk ((bq33 : w.heap.size ≤ gb240)); have n3_ := Aside0.mk ((bq33 : w.heap.size ≤ gb240)); clear HB; have HB := n0_; have BK240 := n1_; have GW240 := n2_; have GE240 := n3_; clear n0_ n1_ n2_ n3_; clear hb hbox hg) | ((with_reducible refine gate_dst (N := 3) rfl ?_); refine box_event ?hg (N := 3) ?hd (cs := #[.string a1_0, .slice A1_1 l1_1.length c1_1, .string a1_2, .slice A1_3 l1_3.length c1_3, .slice A1_4 l1_4.length c1_4, .slice A1_5 l1_5.length c1_5]) (t := 40) ?hr ?_; (case hd => rfl); (case hg => rfl); (case hr => first | (go_simp; done) | (go_simp; rfl)); intro gb241 hg w33 hbox hb; have n0_ := Aside0.mk (blkB BK240.out hb); have n1_ := Aside0.mk (below_step (bq39) hb); have n2_ := Aside0.mk (hbox); have n3_ := Aside0.mk ((bq19 : w.heap.size ≤ gb241)); have n4_ := Aside0.mk ((bq19 : w.heap.size ≤ gb241)); have n5_ := Aside0.mk ((bq80 : gb240 ≠ gb241)); have n6_ := Aside0.mk ((bq81 : gb241 ≠ gb240)); clear BK240; clear HB; have BK240 := n0_; have HB := n1_; have BK241 := n2_; have GW241 := n3_; have GE241 := n4_; have NB240_241 := n5_; have NB241_240 := n6_; clear n0_ n1_ n2_ n3_ n4_ n5_ n6_; clear hb hbox hg; have hnb34 := NB240_241.out; have hnc34 := NB241_240.out; obtain ⟨hcz35_0, hcz35_1, hcz35_2, hcz35_3, hcz35_4, hcz35_5, hfz35_0, hfz35_1, hfz35_2, hfz35_3, hfz35_4, hfz35_5⟩ := bk6 BK240.out; obtain ⟨hcz36_0, hcz36_1, hcz36_2, hcz36_3, hcz36_4, hcz36_5, hfz36_0, hfz36_1, hfz36_2, hfz36_3, hfz36_4, hfz36_5⟩ := bk6 BK241.out) | (go_at_call 51; (with_reducible refine (slices_Equal_string_string.calls k _ _ l0_1 _ _ l1_1 false _ ?side1 ?side2 ?side3 ?side4 A5.out).mono ?_); (case side1 => repeat (first | exact (Kd.C_below HR0_1.out HB.out) | (with_reducible refine Kd.C_alloc ?_ _) | (with_reducible refine Kd.C_drewN ?_ _) | (with_reducible refine Kd.C_drew ?_))); (case side2 => exact HC0_1.out); (case side3 => repeat (first | exact (Kd.C_below HR1_1.out HB.out) | (with_reducible refine Kd.C_alloc ?_ _) | (with_reducible refine Kd.C_drewN ?_ _) | (with_reducible refine Kd.C_drew ?_))); (case side4 => exact HC1_1.out); rintro e w' ⟨rfl, ⟨nd, rfl⟩⟩))
    go_ret
    exact ⟨by first | rfl | (simp [errW_none, errW_some] <;> rfl) | (simp [*, errW_none, errW_some] <;> rfl), bq29⟩
  ·rw [if_neg c4] at H
   have c4b0 : (a0_2.toList == a1_2.toList) = false := beq_eq_false_iff_ne.mpr c4
   have c4b1 : (a0_2.toList != a1_2.toList) = true := bne_iff_ne.mpr c4
   obtain rfl := Option.some.inj H
   go_enter Tryd.func35, Tryd.ntmps35
   go_wp2_with (first | ((with_reducible refine gate_dst (N := 2) rfl ?_); refine box_event ?hg (N := 2) ?hd (cs := #[.string a0_0, .slice A0_1 l0_1.length c0_1, .string a0_2, .slice A0_3 l0_3.length c0_3, .slice A0_4 l0_4.length c0_4, .slice A0_5 l0_5.length c0_5]) (t := 40) ?hr ?_; (case hd => rfl); (case hg => rfl); (case hr => first | (go_simp; done) | (go_simp; rfl)); intro gb240 hg w37 hbox hb; have n0_ := Aside0.mk (below_step (bq47) hb); have n1_ := Aside0.mk (hbox); have n2_ := Aside0.mk ((bq33 : w.heap.size ≤ gb240)); have n3_ := Aside0.mk ((bq33 : w.heap.size ≤ gb240)); clear HB; have HB := n0_; have BK240 := n1_; have GW240 := n2_; have GE240 := n3_; clear n0_ n1_ n2_ n3_; clear hb hbox hg) | ((with_reducible refine gate_dst (N := 3) rfl ?_); refine box_event ?hg (N := 3) ?hd (cs := #[.string a1_0, .slice A1_1 l1_1.length c1_1, .string a1_2, .slice A1_3 l1_3.length c1_3, .slice A1_4 l1_4.length c1_4, .slice A1_5 l1_5.length c1_5]) (t := 40) ?hr ?_; (case hd => rfl); (case hg => rfl); (case hr => first | (go_simp; done) | (go_simp; rfl)); intro gb241 hg w38 hbox hb; have n0_ := Aside0.mk (blkB BK240.out hb); have n1_ := Aside0.mk (below_step (bq39) hb); have n2_ := Aside0.mk (hbox); have n3_ := Aside0.mk ((bq19 : w.heap.size ≤ gb241)); have n4_ := Aside0.mk ((bq19 : w.heap.size ≤ gb241)); have n5_ := Aside0.mk ((bq80 : gb240 ≠ gb241)); have n6_ := Aside0.mk ((bq81 : gb241 ≠ gb240)); clear BK240; clear HB; have BK240 := n0_; have HB := n1_; have BK241 := n2_; have GW241 := n3_; have GE241 := n4_; have NB240_241 := n5_; have NB241_240 := n6_; clear n0_ n1_ n2_ n3_ n4_ n5_ n6_; clear hb hbox hg; have hnb39 := NB240_241.out; have hnc39 := NB241_240.out; obtain ⟨hcz40_0, hcz40_1, hcz40_2, hcz40_3, hcz40_4, hcz40_5, hfz40_0, hfz40_1, hfz40_2, hfz40_3, hfz40_4, hfz40_5⟩ := bk6 BK240.out; obtain ⟨hcz41_0, hcz41_1, hcz41_2, hcz41_3, hcz41_4, hcz41_5, hfz41_0, hfz41_1, hfz41_2, hfz41_3, hfz41_4, hfz41_5⟩ := bk6 BK241.out))
   go_ret
   exact ⟨by first | rfl | (simp [errW_none, errW_some] <;> rfl) | (simp [*, errW_none, errW_some] <;> rfl), bq29⟩
 ·rw [if_neg c3] at H
  have c3b0 : (a0_0.toList == a1_0.toList) = false := beq_eq_false_iff_ne.mpr c3
  have c3b1 : (a0_0.toList != a1_0.toList) = true := bne_iff_ne.mpr c3
  obtain rfl := Option.some.inj H
  go_enter Tryd.func35, Tryd.ntmps35
  go_wp2_with (first | ((with_reducible refine gate_dst (N := 2) rfl ?_); refine box_event ?hg (N := 2) ?hd (cs := #[.string a0_0, .slice A0_1 l0_1.length c0_1, .string a0_2, .slice A0_3 l0_3.length c0_3, .slice A0_4 l0_4.length c0_4, .slice A0_5 l0_5.length c0_5]) (t := 40) ?hr ?_; (case hd => rfl); (case hg => rfl); (case hr => first | (go_simp; done) | (go_simp; rfl)); intro gb240 hg w42 hbox hb; have n0_ := Aside0.mk (below_step (bq47) hb); have n1_ := Aside0.mk (hbox); have n2_ := Aside0.mk ((bq33 : w.heap.size ≤ gb240)); have n3_ := Aside0.mk ((bq33 : w.heap.size ≤ gb240)); clear HB; have HB := n0_; have BK240 := n1_; have GW240 := n2_; have GE240 := n3_; clear n0_ n1_ n2_ n3_; clear hb hbox hg) | ((with_reducible refine gate_dst (N := 3) rfl ?_); refine box_event ?hg (N := 3) ?hd (cs := #[.string a1_0, .slice A1_1 l1_1.length c1_1, .string a1_2, .slice A1_3 l1_3.length c1_3, .slice A1_4 l1_4.length c1_4, .slice A1_5 l1_5.length c1_5]) (t := 40) ?hr ?_; (case hd => rfl); (case hg => rfl); (case hr => first | (go_simp; done) | (go_simp; rfl)); intro gb241 hg w43 hbox hb; have n0_ := Aside0.mk (blkB BK240.out hb); have n1_ := Aside0.mk (below_step (bq39) hb); have n2_ := Aside0.mk (hbox); have n3_ := Aside0.mk ((bq19 : w.heap.size ≤ gb241)); have n4_ := Aside0.mk ((bq19 : w.heap.size ≤ gb241)); have n5_ := Aside0.mk ((bq80 : gb240 ≠ gb241)); have n6_ := Aside0.mk ((bq81 : gb241 ≠ gb240)); clear BK240; clear HB; have BK240 := n0_; have HB := n1_; have BK241 := n2_; have GW241 := n3_; have GE241 := n4_; have NB240_241 := n5_; have NB241_240 := n6_; clear n0_ n1_ n2_ n3_ n4_ n5_ n6_; clear hb hbox hg; have hnb44 := NB240_241.out; have hnc44 := NB241_240.out; obtain ⟨hcz45_0, hcz45_1, hcz45_2, hcz45_3, hcz45_4, hcz45_5, hfz45_0, hfz45_1, hfz45_2, hfz45_3, hfz45_4, hfz45_5⟩ := bk6 BK240.out; obtain ⟨hcz46_0, hcz46_1, hcz46_2, hcz46_3, hcz46_4, hcz46_5, hfz46_0, hfz46_1, hfz46_2, hfz46_3, hfz46_4, hfz46_5⟩ := bk6 BK241.out))
  go_ret
  exact ⟨by first | rfl | (simp [errW_none, errW_some] <;> rfl) | (simp [*, errW_none, errW_some] <;> rfl), bq29⟩

end Go.Proofs.YtkiiojgaaoaipaaDoor.Q

/- slices.EqualFunc at ir.sameFun: by hand (tool/eqf.py). -/

namespace Go.Proofs.YtkiiojgaaoaipaaDoor.Q
open Go.RowKit Go.Proofs.YtkiiojgaaoaipaaDoorW.PrintWords Go.Proofs.YtkiiojgaaoaipaaDoorW.PrintLast Go.Proofs.YtkiiojgaaoaipaaDoorW.PrintMore
set_option linter.unusedVariables false
set_option linter.unusedSimpArgs false
theorem sameF_eq (x y : S40) (hm : x.f1.length ≤ 9223372036854775807) (hm3 : x.f3.length ≤ 9223372036854775807) : ir_sameFun.f (x.f1.length + x.f3.length + 1) x.f0 x.f1 x.f2 x.f3 x.f4 x.f5 y.f0 y.f1 y.f2 y.f3 y.f4 y.f5 = some (eqF x y) := by
 unfold ir_sameFun.f eqF
 by_cases h1 : x.f0.toList = y.f0.toList
 ·rw [if_pos h1, show eqT x.f0 y.f0 = true from beq_iff_eq.mpr h1, Bool.true_and]
  by_cases h2 : x.f2.toList = y.f2.toList
  ·rw [if_pos h2, show eqT x.f2 y.f2 = true from beq_iff_eq.mpr h2, Bool.true_and, str_same _ _ _ (by omega) hm, Option.bind_some]
   cases eqL eqT x.f1 y.f1
   ·rw [if_neg (by simp), Bool.false_and]
   ·rw [if_pos rfl, Bool.true_and, str_same _ _ _ (by omega) hm3, Option.bind_some]
    cases eqL eqT x.f3 y.f3
    ·rw [if_neg (by simp), Bool.false_and]
    ·rw [if_pos rfl, Bool.true_and]
     show (some (eqL eqI x.f4 y.f4)).bind _ = _
     rw [Option.bind_some]
     cases eqL eqI x.f4 y.f4
     ·rw [if_neg (by simp), Bool.false_and]
     ·rw [if_pos rfl, Bool.true_and]; rfl
  ·rw [if_neg h2, show eqT x.f2 y.f2 = false from beq_eq_false_iff_ne.mpr h2, Bool.false_and]
 ·rw [if_neg h1, show eqT x.f0 y.f0 = false from beq_eq_false_iff_ne.mpr h1, Bool.false_and]
set_option maxHeartbeats 1600000 in
theorem fun_eq (A0 : Option Addr) (c0 : Nat) (l0 : List (S40)) (A1 : Option Addr) (c1 : Nat) (l1 : List (S40)) (w : World) (hr0 : Kd.C k40 w A0 l0.length l0) (hc0 : l0.length ≤ c0) (hr1 : Kd.C k40 w A1 l1.length l1) (hc1 : l1.length ≤ c1) :
  Calls Tryd.prog 34 #[.slice A0 l0.length c0, .slice A1 l1.length c1, .func (.func 35) #[] #[]] w fun e w' => e = .returned (.bool (decB (l0 = l1))) ∧ Below w.heap.size w w' := by
 have hu := Tryd.underlying40
 have HR0 := Aside0.mk hr0; clear hr0
 have HR1 := Aside0.mk hr1; clear hr1
 have HM := Aside0.mk (Kd.C_max HR0.out)
 have hm := HM.out
 have hm1 := Kd.C_max HR1.out
 by_cases hn : l0.length = l1.length
 ·have hd : (l0.length == l1.length) = true := beq_iff_eq.mpr hn
  have hd2 : ((l0.length : Int) != (l1.length : Int)) = false := by rw [hn]; simp
  have HN := Aside0.mk hn; clear hn
  go_enter Tryd.func34, Tryd.ntmps34
  go_wp2_with fail
  go_loopw [7, 8, 9, 17] (fun _ _ _ v wr => ∃ k : Nat, v = .int .i64 k ∧ k ≤ l0.length ∧ Aside0 (∀ i : Nat, i < k → l0.getD i z40 = l1.getD i z40) ∧ Below w.heap.size w wr) (fun _ _ _ v _ => l0.length - (intOf v).toNat)
  case atStart => exact ⟨0, rfl, Nat.zero_le _, ⟨fun i h => absurd h (Nat.not_lt_zero _)⟩, Below.refl _ _⟩
  case round =>
   obtain ⟨k, rfl, hk, HA, hB⟩ := hrel
   by_cases hlt : k < l0.length
   ·have hlt1 : k < l1.length := by have := HN.out; omega
    obtain ⟨ad, A1, a1, A3, a3, A4, a4, A5, a5, e1, hx0, hx1, hx2, hx3, hx4, hx5, hl1, hi1, hl3, hi3, hl4, hi4, hl5, hi5⟩ := at_T40 (Kd.C_below HR0.out hB) (k : Int) (by omega) (by omega)
    obtain ⟨bd, B1, b1, B3, b3, B4, b4, B5, b5, e2, hy0, hy1, hy2, hy3, hy4, hy5, hm1, hj1, hm3, hj3, hm4, hj4, hm5, hj5⟩ := at_T40 (Kd.C_below HR1.out hB) (k : Int) (by omega) (by omega)
    cases e1
    cases e2
    obtain ⟨x, ex⟩ : ∃ x, x = rd_T40 l0 (k : Int) := ⟨_, rfl⟩
    obtain ⟨y, ey⟩ : ∃ y, y = rd_T40 l1 (k : Int) := ⟨_, rfl⟩
    rw [← ex] at hx0 hx1 hx2 hx3 hx4 hx5 hl1 hi1 hl3 hi3 hl4 hi4 hl5 hi5
    rw [← ey] at hy0 hy1 hy2 hy3 hy4 hy5 hm1 hj1 hm3 hj3 hm4 hj4 hm5 hj5
    simp only [Int.toNat_natCast] at hx0 hx1 hx2 hx3 hx4 hx5 hy0 hy1 hy2 hy3 hy4 hy5
    have EX : Aside0 (x = l0.getD k z40) := ⟨by rw [ex]; unfold rd_T40; rw [Int.toNat_natCast]⟩
    have EY : Aside0 (y = l1.getD k z40) := ⟨by rw [ey]; unfold rd_T40; rw [Int.toNat_natCast]⟩
    clear ex ey
    have hz0 := pw_cell_below (below_alloc (Below.refl wr.heap.size wr) (.cells #[.string x.f0, .slice A1 x.f1.length a1, .string x.f2, .slice A3 x.f3.length a3, .slice A4 x.f4.length a4, .slice A5 x.f5.length a5] 40)) hy0
    have hz1 := pw_cell_below (below_alloc (Below.refl wr.heap.size wr) (.cells #[.string x.f0, .slice A1 x.f1.length a1, .string x.f2, .slice A3 x.f3.length a3, .slice A4 x.f4.length a4, .slice A5 x.f5.length a5] 40)) hy1
    have hz2 := pw_cell_below (below_alloc (Below.refl wr.heap.size wr) (.cells #[.string x.f0, .slice A1 x.f1.length a1, .string x.f2, .slice A3 x.f3.length a3, .slice A4 x.f4.length a4, .slice A5 x.f5.length a5] 40)) hy2
    have hz3 := pw_cell_below (below_alloc (Below.refl wr.heap.size wr) (.cells #[.string x.f0, .slice A1 x.f1.length a1, .string x.f2, .slice A3 x.f3.length a3, .slice A4 x.f4.length a4, .slice A5 x.f5.length a5] 40)) hy3
    have hz4 := pw_cell_below (below_alloc (Below.refl wr.heap.size wr) (.cells #[.string x.f0, .slice A1 x.f1.length a1, .string x.f2, .slice A3 x.f3.length a3, .slice A4 x.f4.length a4, .slice A5 x.f5.length a5] 40)) hy4
    have hz5 := pw_cell_below (below_alloc (Below.refl wr.heap.size wr) (.cells #[.string x.f0, .slice A1 x.f1.length a1, .string x.f2, .slice A3 x.f3.length a3, .slice A4 x.f4.length a4, .slice A5 x.f5.length a5] 40)) hy5
    have HI1 := Aside0.mk hi1; have HJ1 := Aside0.mk hj1; have HL1 := Aside0.mk hl1; have HM1 := Aside0.mk hm1; have HI3 := Aside0.mk hi3; have HJ3 := Aside0.mk hj3; have HL3 := Aside0.mk hl3; have HM3 := Aside0.mk hm3; have HI4 := Aside0.mk hi4; have HJ4 := Aside0.mk hj4; have HL4 := Aside0.mk hl4; have HM4 := Aside0.mk hm4; have HI5 := Aside0.mk hi5; have HJ5 := Aside0.mk hj5; have HL5 := Aside0.mk hl5; have HM5 := Aside0.mk hm5
    clear hi1 hj1 hl1 hm1 hi3 hj3 hl3 hm3 hi4 hj4 hl4 hm4 hi5 hj5 hl5 hm5
    go_wp2_with fail
    refine (ir_sameFun.calls (x.f1.length + x.f3.length + 1) x.f0 A1 a1 x.f1 x.f2 A3 a3 x.f3 A4 a4 x.f4 A5 a5 x.f5 y.f0 B1 b1 y.f1 y.f2 B3 b3 y.f3 B4 b4 y.f4 B5 b5 y.f5 _ _ (Kd.C_alloc (Kd.C_alloc HI1.out _) _) HL1.out (Kd.C_alloc (Kd.C_alloc HI3.out _) _) HL3.out (Kd.C_alloc (Kd.C_alloc HI4.out _) _) HL4.out (Kd.C_alloc (Kd.C_alloc HI5.out _) _) HL5.out (Kd.C_alloc (Kd.C_alloc HJ1.out _) _) HM1.out (Kd.C_alloc (Kd.C_alloc HJ3.out _) _) HM3.out (Kd.C_alloc (Kd.C_alloc HJ4.out _) _) HM4.out (Kd.C_alloc (Kd.C_alloc HJ5.out _) _) HM5.out (sameF_eq x y (Kd.C_max HI1.out) (Kd.C_max HI3.out))).mono ?_
    rintro e w1 ⟨rfl, hb1⟩
    have HB1 : Aside0 (Below w.heap.size w w1) := ⟨below_then (below_alloc (below_alloc hB _) _) (by have := hB.size; simp; omega) hb1⟩
    clear hb1 hx0 hx1 hx2 hx3 hx4 hx5 hy0 hy1 hy2 hy3 hy4 hy5 hz0 hz1 hz2 hz3 hz4 hz5 HI1 HJ1 HL1 HM1 HI3 HJ3 HL3 HM3 HI4 HJ4 HL4 HM4 HI5 HJ5 HL5 HM5
    have hbd := bool_dec (eqF_iff x y)
    by_cases hxy : x = y
    ·rw [hbd, decB_true hxy]
     have HA1 : Aside0 (∀ i : Nat, i < k + 1 → l0.getD i z40 = l1.getD i z40) := ⟨all_succ HA.out (bq92)⟩
     clear hxy HA EX EY hbd
     go_wp2
     go_roundw
     case rel => exact ⟨k + 1, by go_num, by omega, HA1, HB1.out⟩
     case measure => simp [intOf]; omega
    ·rw [hbd, decB_false hxy]
     have HE : Aside0 (decB (l0 = l1) = false) := ⟨decB_false (fun e => hxy (by rw [EX.out, EY.out, e]))⟩
     clear hxy HA EX EY hbd
     go_wp2
     go_ret
     exact ⟨by rw [HE.out]; rfl, HB1.out⟩
   ·have HE : Aside0 (decB (l0 = l1) = true) := ⟨decB_true (lists_eq z40 HN.out (fun j hj => HA.out j (by omega)))⟩
    clear HA
    go_wp2
    go_ret
    exact ⟨by rw [HE.out]; rfl, hB⟩
 ·have hd : (l0.length == l1.length) = false := beq_eq_false_iff_ne.mpr hn
  have hd2 : ((l0.length : Int) != (l1.length : Int)) = true := by rw [bne_iff_ne]; omega
  have HE : Aside0 (decB (l0 = l1) = false) := ⟨decB_false (fun e => hn (by rw [e]))⟩
  clear hn
  go_enter Tryd.func34, Tryd.ntmps34
  go_wp2
  go_ret
  exact ⟨by rw [HE.out]; rfl, Below.refl _ _⟩
def api_Fun_ir_sameFun.f (l0 : List (S40)) (l1 : List (S40)) : Option (Bool) := some (eqL eqF l0 l1)
theorem api_Fun_ir_sameFun.calls (A0 : Option Addr) (c0 : Nat) (l0 : List (S40)) (A1 : Option Addr) (c1 : Nat) (l1 : List (S40)) (r : Bool) (w : World) (hr0 : Kd.C k40 w A0 l0.length l0) (hc0 : l0.length ≤ c0) (hr1 : Kd.C k40 w A1 l1.length l1) (hc1 : l1.length ≤ c1) (h : api_Fun_ir_sameFun.f l0 l1 = some r) :
  Calls Tryd.prog 34 #[.slice A0 l0.length c0, .slice A1 l1.length c1, .func (.func 35) #[] #[]] w fun e w' => e = .returned (.bool r) ∧ Below w.heap.size w w' := by
 unfold api_Fun_ir_sameFun.f at h
 rw [bool_dec (eqL_iff eqF_iff l0 l1)] at h
 obtain rfl := Option.some.inj h
 exact fun_eq A0 c0 l0 A1 c1 l1 w hr0 hc0 hr1 hc1
end Go.Proofs.YtkiiojgaaoaipaaDoor.Q

namespace Go.Proofs.YtkiiojgaaoaipaaDoor.Q
open Go.RowKit Go.Proofs.YtkiiojgaaoaipaaDoorW.PrintWords Go.Proofs.YtkiiojgaaoaipaaDoorW.PrintLast Go.Proofs.YtkiiojgaaoaipaaDoorW.PrintMore
attribute [local go_sem] max2_int min2_int max_two min_two max_three min_three max_four min_four   -- for this text's walks alone
set_option linter.unusedVariables false
set_option linter.unusedSimpArgs false

/-! ### kind_Same_1: function 50 -/
def kind_Same_1.f (k : Nat) (a0_0 : ByteArray) (l0_1 : List (S61)) (a1_0 : ByteArray) (l1_1 : List (S61)) : Option (Bool) := if a0_0.toList = a1_0.toList then ((api_Field_33.f k l0_1 l1_1).bind fun t229 => (some t229)) else (some false)
theorem kind_Same_1.mono : ∀ a0 a1 a2 a3 k, LeO (kind_Same_1.f k a0 a1 a2 a3) (kind_Same_1.f (k + 1) a0 a1 a2 a3) := by
 intro a0 a1 a2 a3 k
 unfold kind_Same_1.f
 repeat' first
   | (with_reducible exact api_Field_33.mono _ _ _)
   | (with_reducible exact LeO.refl _)
   | (with_reducible exact LeO.none _)
   | (with_reducible refine LeO.ite ?_ ?_)
   | (with_reducible refine LeO.bind ?_ (fun _ => ?_))
   | exact api_Field_33.mono _ _ _
   | exact LeO.none _
   | refine LeO.ite ?_ ?_
   | refine LeO.bind ?_ (fun _ => ?_)
set_option maxHeartbeats 8000000 in
set_option maxRecDepth 100000 in
theorem kind_Same_1.calls (k : Nat) (a0_0 : ByteArray) (A0_1 : Option Addr) (c0_1 : Nat) (l0_1 : List (S61)) (a1_0 : ByteArray) (A1_1 : Option Addr) (c1_1 : Nat) (l1_1 : List (S61)) (r : Bool) (w : World) (hr0_1 : Kd.C k61 w A0_1 l0_1.length l0_1) (hc0_1 : l0_1.length ≤ c0_1) (hr1_1 : Kd.C k61 w A1_1 l1_1.length l1_1) (hc1_1 : l1_1.length ≤ c1_1) (h : kind_Same_1.f k a0_0 l0_1 a1_0 l1_1 = some r) :
  Calls Tryd.prog 50 #[.agg #[.string a0_0, .slice A0_1 l0_1.length c0_1], .agg #[.string a1_0, .slice A1_1 l1_1.length c1_1]] w fun e w' => e = .returned (.bool r) ∧ Below w.heap.size w w' := by
 have hu58 := Tryd.underlying58
 have HR0_1 := Aside0.mk hr0_1
 have HC0_1 := Aside0.mk hc0_1
 clear hr0_1 hc0_1
 have HR1_1 := Aside0.mk hr1_1
 have HC1_1 := Aside0.mk hc1_1
 clear hr1_1 hc1_1
 have HB := Aside0.mk (Below.refl w.heap.size w)
 have H : (if a0_0.toList = a1_0.toList then ((api_Field_33.f k l0_1 l1_1).bind fun t229 => (some t229)) else (some false)) = some r := h
 clear h
 by_cases c3 : a0_0.toList = a1_0.toList
 ·rw [if_pos c3] at H
  have c3b0 : (a0_0.toList == a1_0.toList) = true := beq_iff_eq.mpr c3
  have c3b1 : (a0_0.toList != a1_0.toList) = false := bne_eq_false_iff_eq.mpr c3
  clear c3
  replace H := Option.bind_eq_some_iff.mp H
  obtain ⟨t229, A40, H⟩ := H
  (try dsimp only at H)
  have A4 := Aside0.mk A40
  clear A40
  obtain rfl := Option.some.inj H
  go_enter Tryd.func50, Tryd.ntmps50
  go_wp2_with (first | ((with_reducible refine gate_dst (N := 2) rfl ?_); refine box_event ?hg (N := 2) ?hd (cs := #[.string a0_0, .slice A0_1 l0_1.length c0_1]) (t := 58) ?hr ?_; (case hd => rfl); (case hg => rfl); (case hr => first | (go_simp; done) | (go_simp; rfl)); intro gb227 hg w5 hbox hb; have n0_ := Aside0.mk (below_step (bq47) hb); have n1_ := Aside0.mk (hbox); have n2_ := Aside0.mk ((bq33 : w.heap.size ≤ gb227)); have n3_ := Aside0.mk ((bq33 : w.heap.size ≤ gb227)); clear HB; have HB := n0_; have BK227 := n1_; have GW227 := n2_; have GE227 := n3_; clear n0_ n1_ n2_ n3_; clear hb hbox hg) | ((with_reducible refine gate_dst (N := 3) rfl ?_); refine box_event ?hg (N := 3) ?hd (cs := #[.string a1_0, .slice A1_1 l1_1.length c1_1]) (t := 58) ?hr ?_; (case hd => rfl); (case hg => rfl); (case hr => first | (go_simp; done) | (go_simp; rfl)); intro gb228 hg w6 hbox hb; have n0_ := Aside0.mk (blkB BK227.out hb); have n1_ := Aside0.mk (below_step (bq40) hb); have n2_ := Aside0.mk (hbox); have n3_ := Aside0.mk ((bq20 : w.heap.size ≤ gb228)); have n4_ := Aside0.mk ((bq20 : w.heap.size ≤ gb228)); have n5_ := Aside0.mk ((by rw [hg]; exact Nat.ne_of_lt (blkL BK227.out) : gb227 ≠ gb228)); have n6_ := Aside0.mk ((by rw [hg]; exact Nat.ne_of_gt (blkL BK227.out) : gb228 ≠ gb227)); clear BK227; clear HB; have BK227 := n0_; have HB := n1_; have BK228 := n2_; have GW228 := n3_; have GE228 := n4_; have NB227_228 := n5_; have NB228_227 := n6_; clear n0_ n1_ n2_ n3_ n4_ n5_ n6_; clear hb hbox hg; have hnb7 := NB227_228.out; have hnc7 := NB228_227.out; obtain ⟨hcz8_0, hcz8_1, hfz8_0, hfz8_1⟩ := bk2 BK227.out; obtain ⟨hcz9_0, hcz9_1, hfz9_0, hfz9_1⟩ := bk2 BK228.out) | (go_at_call 33; (with_reducible refine (api_Field_33.calls k _ _ l0_1 _ _ l1_1 t229 _ ?side1 ?side2 ?side3 ?side4 A4.out).mono ?_); (case side1 => repeat (first | exact (Kd.C_below HR0_1.out HB.out) | (with_reducible refine Kd.C_alloc ?_ _) | (with_reducible refine Kd.C_drewN ?_ _) | (with_reducible refine Kd.C_drew ?_))); (case side2 => exact HC0_1.out); (case side3 => repeat (first | exact (Kd.C_below HR1_1.out HB.out) | (with_reducible refine Kd.C_alloc ?_ _) | (with_reducible refine Kd.C_drewN ?_ _) | (with_reducible refine Kd.C_drew ?_))); (case side4 => exact HC1_1.out); rintro e w' ⟨rfl, ⟨nd, rfl⟩⟩))
  go_ret
  exact ⟨by first | rfl | (simp [errW_none, errW_some] <;> rfl) | (simp [*, errW_none, errW_some] <;> rfl), by repeat (first | (with_reducible first | exact HB.out | apply below_alloc | apply pw_below_drewN | apply below_drew1 | refine below_set ?_ GE227.out | refine below_set ?_ GE228.out) | exact HB.out)⟩
 ·rw [if_neg c3] at H
  have c3b0 : (a0_0.toList == a1_0.toList) = false := beq_eq_false_iff_ne.mpr c3
  have c3b1 : (a0_0.toList != a1_0.toList) = true := bne_iff_ne.mpr c3
  obtain rfl := Option.some.inj H
  go_enter Tryd.func50, Tryd.ntmps50
  go_wp2_with (first | ((with_reducible refine gate_dst (N := 2) rfl ?_); refine box_event ?hg (N := 2) ?hd (cs := #[.string a0_0, .slice A0_1 l0_1.length c0_1]) (t := 58) ?hr ?_; (case hd => rfl); (case hg => rfl); (case hr => first | (go_simp; done) | (go_simp; rfl)); intro gb227 hg w10 hbox hb; have n0_ := Aside0.mk (below_step (bq47) hb); have n1_ := Aside0.mk (hbox); have n2_ := Aside0.mk ((bq33 : w.heap.size ≤ gb227)); have n3_ := Aside0.mk ((bq33 : w.heap.size ≤ gb227)); clear HB; have HB := n0_; have BK227 := n1_; have GW227 := n2_; have GE227 := n3_; clear n0_ n1_ n2_ n3_; clear hb hbox hg) | ((with_reducible refine gate_dst (N := 3) rfl ?_); refine box_event ?hg (N := 3) ?hd (cs := #[.string a1_0, .slice A1_1 l1_1.length c1_1]) (t := 58) ?hr ?_; (case hd => rfl); (case hg => rfl); (case hr => first | (go_simp; done) | (go_simp; rfl)); intro gb228 hg w11 hbox hb; have n0_ := Aside0.mk (blkB BK227.out hb); have n1_ := Aside0.mk (below_step (bq40) hb); have n2_ := Aside0.mk (hbox); have n3_ := Aside0.mk ((bq20 : w.heap.size ≤ gb228)); have n4_ := Aside0.mk ((bq20 : w.heap.size ≤ gb228)); have n5_ := Aside0.mk ((by rw [hg]; exact Nat.ne_of_lt (blkL BK227.out) : gb227 ≠ gb228)); have n6_ := Aside0.mk ((by rw [hg]; exact Nat.ne_of_gt (blkL BK227.out) : gb228 ≠ gb227)); clear BK227; clear HB; have BK227 := n0_; have HB := n1_; have BK228 := n2_; have GW228 := n3_; have GE228 := n4_; have NB227_228 := n5_; have NB228_227 := n6_; clear n0_ n1_ n2_ n3_ n4_ n5_ n6_; clear hb hbox hg; have hnb12 := NB227_228.out; have hnc12 := NB228_227.out; obtain ⟨hcz13_0, hcz13_1, hfz13_0, hfz13_1⟩ := bk2 BK227.out; obtain ⟨hcz14_0, hcz14_1, hfz14_0, hfz14_1⟩ := bk2 BK228.out))
  go_ret
  exact ⟨by first | rfl | (simp [errW_none, errW_some] <;> rfl) | (simp [*, errW_none, errW_some] <;> rfl), by repeat (first | (with_reducible first | exact HB.out | apply below_alloc | apply pw_below_drewN | apply below_drew1 | refine below_set ?_ GE227.out | refine below_set ?_ GE228.out) | exact HB.out)⟩

end Go.Proofs.YtkiiojgaaoaipaaDoor.Q

/- 'kind.Same': by hand. -/

namespace Go.Proofs.YtkiiojgaaoaipaaDoor.Q
open Go.RowKit Go.Proofs.YtkiiojgaaoaipaaDoorW.PrintWords Go.Proofs.YtkiiojgaaoaipaaDoorW.PrintLast Go.Proofs.YtkiiojgaaoaipaaDoorW.PrintMore
set_option linter.unusedVariables false
set_option linter.unusedSimpArgs false
theorem atN_T58 {w : World} {A : Option Addr} {n : Nat} {xs : List S58} (h : Kd.C k58 w A n xs) (k : Nat) (h1 : k < n) : ∃ ad A1 c1, A = some ad ∧ w.cell? (ad.add (k * 2)) = some (.string (xs.getD k z58).f0) ∧ w.cell? ⟨(ad.add (k * 2)).block, (ad.add (k * 2)).off + 1, none⟩ = some (.slice A1 (xs.getD k z58).f1.length c1) ∧ (xs.getD k z58).f1.length ≤ c1 ∧ k61.C w A1 (xs.getD k z58).f1.length (xs.getD k z58).f1 := at_T58 h (k : Int) (by omega) (by omega)
theorem field_eq {x y : S61} (h : (!((x.f0).toList == (y.f0).toList) || (!((x.f1).toList == (y.f1).toList))) = false) : x = y := by
 simp at h
 cases x; cases y
 simp only at h
 rw [bytes_eq h.1, bytes_eq h.2]
theorem fields_l (l l' : List S61) (hn : l.length = l'.length) (hm : l.length ≤ 9223372036854775807) (d : Nat) : ∀ (k i : Nat), i ≤ l.length → l.length - i = d → d < k →
  (∀ j : Nat, j < i → l.getD j z61 = l'.getD j z61) → api_Field_33.l0 k l l' (l.length : Int) (i : Int) = some (decB (l = l')) := by
 induction d with
 | zero =>
  intro k i h0 hd hk h
  obtain ⟨k, rfl⟩ : ∃ m, k = m + 1 := ⟨k - 1, by omega⟩
  simp only [api_Field_33.l0]; rw [if_neg (by omega), decB_true (lists_eq z61 hn (fun j hj => h j (by omega)))]
 | succ d ih =>
  intro k i h0 hd hk h
  obtain ⟨k, rfl⟩ : ∃ m, k = m + 1 := ⟨k - 1, by omega⟩
  simp only [api_Field_33.l0]
  rw [if_pos (by omega), if_pos (by omega), if_pos (by omega), if_pos (by omega)]
  by_cases e : (!(((rd_T61 l i).f0.toList) == ((rd_T61 l' i).f0.toList)) || (!(((rd_T61 l i).f1.toList) == ((rd_T61 l' i).f1.toList)))) = true
  ·rw [if_pos e, decB_false]
   rintro rfl
   simp at e
  ·rw [if_neg e, wrap_succ (by omega) (by omega)]
   have e2 := field_eq (Bool.eq_false_iff.mpr e)
   refine ih k (i + 1) (by omega) (by omega) (by omega) (all_succ h e2)
theorem fields_same (l l' : List S61) (hm : l.length ≤ 9223372036854775807) : api_Field_33.f (l.length + 1) l l' = some (decB (l = l')) := by
 unfold api_Field_33.f
 by_cases hn : l.length = l'.length
 ·rw [if_pos (by omega)]
  exact fields_l l l' hn hm l.length (l.length + 1) 0 (by omega) (by omega) (by omega) (fun j hj => absurd hj (by omega))
 ·rw [if_neg (by omega), decB_false (fun e => hn (by rw [e]))]

theorem struct_eq (x y : S58) (hm : x.f1.length ≤ 9223372036854775807) : kind_Same_1.f (x.f1.length + 1) x.f0 x.f1 y.f0 y.f1 = some (decB (x = y)) := by
 unfold kind_Same_1.f
 by_cases h : x.f0.toList = y.f0.toList
 ·rw [if_pos h, fields_same x.f1 y.f1 hm]
  simp only [Option.bind_some]
  congr 1
  have h := bytes_eq h
  cases x; cases y
  simp only at h
  subst h
  simp [decB]
 ·rw [if_neg h, decB_false (fun e => h (by rw [e]))]
def sameF : List S61 → List S61 → Bool
 | [], [] => true
 | x :: xs, y :: ys => x.f0.toList == y.f0.toList && (x.f1.toList == y.f1.toList && sameF xs ys)
 | _, _ => false
def sameS : List S58 → List S58 → Bool
 | [], [] => true
 | x :: xs, y :: ys => x.f0.toList == y.f0.toList && (sameF x.f1 y.f1 && sameS xs ys)
 | _, _ => false
theorem sameF_iff : ∀ l l' : List S61, sameF l l' = true ↔ l = l'
 | [], [] => by simp [sameF]
 | [], _ :: _ => by simp [sameF]
 | _ :: _, [] => by simp [sameF]
 | x :: xs, y :: ys => by
  simp only [sameF, Bool.and_eq_true, beq_iff_eq, sameF_iff xs ys, List.cons.injEq]
  constructor
  ·rintro ⟨h1, h2, h3⟩
   cases x; cases y
   simp only at h1 h2
   exact ⟨by rw [bytes_eq h1, bytes_eq h2], h3⟩
  ·rintro ⟨rfl, rfl⟩
   exact ⟨rfl, rfl, rfl⟩
theorem sameS_iff : ∀ l l' : List S58, sameS l l' = true ↔ l = l'
 | [], [] => by simp [sameS]
 | [], _ :: _ => by simp [sameS]
 | _ :: _, [] => by simp [sameS]
 | x :: xs, y :: ys => by
  simp only [sameS, Bool.and_eq_true, beq_iff_eq, sameF_iff, sameS_iff xs ys, List.cons.injEq]
  constructor
  ·rintro ⟨h1, h2, h3⟩
   cases x; cases y
   simp only at h1 h2
   exact ⟨by rw [bytes_eq h1, h2], h3⟩
  ·rintro ⟨rfl, rfl⟩
   exact ⟨rfl, rfl, rfl⟩
theorem sameS_dec (l l' : List S58) : sameS l l' = decB (l = l') := by
 cases h : sameS l l'
 ·exact (decB_false (fun e => by rw [(sameS_iff l l').mpr e] at h; cases h)).symm
 ·exact (decB_true ((sameS_iff l l').mp h)).symm
def kind_Same.f (l0 : List (S58)) (l1 : List (S58)) : Option (Bool) := some (sameS l0 l1)
set_option maxHeartbeats 800000 in
theorem same_eq (A0 : Option Addr) (c0 : Nat) (l0 : List (S58)) (A1 : Option Addr) (c1 : Nat) (l1 : List (S58)) (w : World) (hr0 : Kd.C k58 w A0 l0.length l0) (hc0 : l0.length ≤ c0) (hr1 : Kd.C k58 w A1 l1.length l1) (hc1 : l1.length ≤ c1) :
  Calls Tryd.prog 49 #[.slice A0 l0.length c0, .slice A1 l1.length c1, .func (.func 50) #[] #[]] w fun e w' => e = .returned (.bool (decB (l0 = l1))) ∧ Below w.heap.size w w' := by
 have hu := Tryd.underlying58
 have HR0 := Aside0.mk hr0; clear hr0
 have HR1 := Aside0.mk hr1; clear hr1
 have HM := Aside0.mk (Kd.C_max HR0.out)
 have hm := HM.out
 have hm1 := Kd.C_max HR1.out
 by_cases hn : l0.length = l1.length
 ·have hd : (l0.length == l1.length) = true := beq_iff_eq.mpr hn
  have hd2 : ((l0.length : Int) != (l1.length : Int)) = false := by rw [hn]; simp
  have HN := Aside0.mk hn; clear hn
  go_enter Tryd.func49, Tryd.ntmps49
  go_wp2_with fail
  go_loopw [7, 8, 9, 17] (fun _ _ _ v wr => ∃ k : Nat, v = .int .i64 k ∧ k ≤ l0.length ∧ Aside0 (∀ i : Nat, i < k → l0.getD i z58 = l1.getD i z58) ∧ Below w.heap.size w wr) (fun _ _ _ v _ => l0.length - (intOf v).toNat)
  case atStart => exact ⟨0, rfl, Nat.zero_le _, ⟨fun i h => absurd h (Nat.not_lt_zero _)⟩, Below.refl _ _⟩
  case round =>
   obtain ⟨k, rfl, hk, HA, hB⟩ := hrel
   by_cases hlt : k < l0.length
   ·have hlt1 : k < l1.length := by have := HN.out; omega
    obtain ⟨ad, A2, c2, e1, hx0, hx1, hl1, hi1⟩ := atN_T58 (Kd.C_below HR0.out hB) k hlt
    obtain ⟨bd, B2, d2, e2, hy0, hy1, hm2, hj1⟩ := atN_T58 (Kd.C_below HR1.out hB) k hlt1
    cases e1
    cases e2
    obtain ⟨x, ex⟩ : ∃ x, x = l0.getD k z58 := ⟨_, rfl⟩
    rw [← ex] at hx0 hx1 hl1 hi1
    have EX := Aside0.mk ex; clear ex
    obtain ⟨y, ey⟩ : ∃ y, y = l1.getD k z58 := ⟨_, rfl⟩
    rw [← ey] at hy0 hy1 hm2 hj1
    have EY := Aside0.mk ey; clear ey
    have hy0' := pw_cell_below (below_alloc (Below.refl _ _) (.cells #[.string x.f0, .slice A2 x.f1.length c2] 58)) hy0
    have hy1' := pw_cell_below (below_alloc (Below.refl _ _) (.cells #[.string x.f0, .slice A2 x.f1.length c2] 58)) hy1
    have HI := Aside0.mk hi1; have HJ := Aside0.mk hj1; have HL := Aside0.mk hl1; have HL2 := Aside0.mk hm2
    clear hi1 hj1 hl1 hm2
    go_wp2_with fail
    refine (kind_Same_1.calls (x.f1.length + 1) x.f0 A2 c2 x.f1 y.f0 B2 d2 y.f1 _ _ (Kd.C_alloc (Kd.C_alloc HI.out _) _) HL.out (Kd.C_alloc (Kd.C_alloc HJ.out _) _) HL2.out (struct_eq x y (Kd.C_max HI.out))).mono ?_
    rintro e w1 ⟨rfl, hb1⟩
    have HB1 : Aside0 (Below w.heap.size w w1) := ⟨below_then (below_alloc (below_alloc hB _) _) (by have := hB.size; simp; omega) hb1⟩
    clear hb1 hx0 hx1 hy0 hy1 hy0' hy1' HI HJ HL HL2
    by_cases hxy : x = y
    ·rw [decB_true hxy]
     have HA1 : Aside0 (∀ i : Nat, i < k + 1 → l0.getD i z58 = l1.getD i z58) := ⟨all_succ HA.out (bq92)⟩
     clear hxy HA EX EY
     go_wp2
     go_roundw
     case rel => exact ⟨k + 1, by go_num, by omega, HA1, HB1.out⟩
     case measure => simp [intOf]; omega
    ·rw [decB_false hxy]
     have HE : Aside0 (decB (l0 = l1) = false) := ⟨decB_false (fun e => hxy (by rw [EX.out, EY.out, e]))⟩
     clear hxy HA EX EY
     go_wp2
     go_ret
     exact ⟨by rw [HE.out]; rfl, HB1.out⟩
   ·have HE : Aside0 (decB (l0 = l1) = true) := ⟨decB_true (lists_eq z58 HN.out (fun j hj => HA.out j (by omega)))⟩
    clear HA
    go_wp2
    go_ret
    exact ⟨by rw [HE.out]; rfl, hB⟩
 ·have hd : (l0.length == l1.length) = false := beq_eq_false_iff_ne.mpr hn
  have hd2 : ((l0.length : Int) != (l1.length : Int)) = true := by rw [bne_iff_ne]; omega
  have HE : Aside0 (decB (l0 = l1) = false) := ⟨decB_false (fun e => hn (by rw [e]))⟩
  clear hn
  go_enter Tryd.func49, Tryd.ntmps49
  go_wp2
  go_ret
  exact ⟨by rw [HE.out]; rfl, Below.refl _ _⟩
set_option maxHeartbeats 800000 in
theorem kind_Same.calls (A0 : Option Addr) (c0 : Nat) (l0 : List (S58)) (A1 : Option Addr) (c1 : Nat) (l1 : List (S58)) (r : Bool) (w : World) (hr0 : Kd.C k58 w A0 l0.length l0) (hc0 : l0.length ≤ c0) (hr1 : Kd.C k58 w A1 l1.length l1) (hc1 : l1.length ≤ c1) (h : kind_Same.f l0 l1 = some r) :
  Calls Tryd.prog 32 #[.slice A0 l0.length c0, .slice A1 l1.length c1] w fun e w' => e = .returned (.bool r) ∧ Below w.heap.size w w' := by
 unfold kind_Same.f at h
 rw [sameS_dec] at h
 obtain rfl := Option.some.inj h
 clear h
 have HR0 := Aside0.mk hr0; have HR1 := Aside0.mk hr1; have HC0 := Aside0.mk hc0; have HC1 := Aside0.mk hc1
 clear hr0 hr1 hc0 hc1
 go_enter Tryd.func32, Tryd.ntmps32
 go_wp2_with fail
 refine (same_eq A0 c0 l0 A1 c1 l1 w HR0.out HC0.out HR1.out HC1.out).mono ?_
 rintro e w1 ⟨rfl, hb⟩
 go_wp2
 go_ret
 exact ⟨rfl, hb⟩
end Go.Proofs.YtkiiojgaaoaipaaDoor.Q

namespace Go.Proofs.YtkiiojgaaoaipaaDoor.Q
open Go.RowKit Go.Proofs.YtkiiojgaaoaipaaDoorW.PrintWords Go.Proofs.YtkiiojgaaoaipaaDoorW.PrintLast Go.Proofs.YtkiiojgaaoaipaaDoorW.PrintMore
attribute [local go_sem] max2_int min2_int max_two min_two max_three min_three max_four min_four   -- for this text's walks alone
set_option linter.unusedVariables false
set_option linter.unusedSimpArgs false

/-! ### ir_Same: function 13 -/
def ir_Same.f (k : Nat) (l0_0 : List (S58)) (l0_1 : List (S61)) (l0_2 : List (S40)) (l1_0 : List (S58)) (l1_1 : List (S61)) (l1_2 : List (S40)) : Option (Bool) := (kind_Same.f l0_0 l1_0).bind fun t248 => (if t248 = true then ((api_Field_33.f k l0_1 l1_1).bind fun t249 => (if t249 = true then ((api_Fun_ir_sameFun.f l0_2 l1_2).bind fun t250 => (some t250)) else (some false))) else (some false))
theorem ir_Same.mono : ∀ a0 a1 a2 a3 a4 a5 k, LeO (ir_Same.f k a0 a1 a2 a3 a4 a5) (ir_Same.f (k + 1) a0 a1 a2 a3 a4 a5) := by
 intro a0 a1 a2 a3 a4 a5 k
 unfold ir_Same.f
 repeat' first
   | (with_reducible exact api_Field_33.mono _ _ _)
   | (with_reducible exact LeO.refl _)
   | (with_reducible exact LeO.none _)
   | (with_reducible refine LeO.ite ?_ ?_)
   | (with_reducible refine LeO.bind ?_ (fun _ => ?_))
   | exact api_Field_33.mono _ _ _
   | exact LeO.none _
   | refine LeO.ite ?_ ?_
   | refine LeO.bind ?_ (fun _ => ?_)
set_option maxHeartbeats 8000000 in
set_option maxRecDepth 100000 in
theorem ir_Same.calls (k : Nat) (A0_0 : Option Addr) (c0_0 : Nat) (l0_0 : List (S58)) (A0_1 : Option Addr) (c0_1 : Nat) (l0_1 : List (S61)) (A0_2 : Option Addr) (c0_2 : Nat) (l0_2 : List (S40)) (A1_0 : Option Addr) (c1_0 : Nat) (l1_0 : List (S58)) (A1_1 : Option Addr) (c1_1 : Nat) (l1_1 : List (S61)) (A1_2 : Option Addr) (c1_2 : Nat) (l1_2 : List (S40)) (r : Bool) (w : World) (hr0_0 : Kd.C k58 w A0_0 l0_0.length l0_0) (hc0_0 : l0_0.length ≤ c0_0) (hr0_1 : Kd.C k61 w A0_1 l0_1.length l0_1) (hc0_1 : l0_1.length ≤ c0_1) (hr0_2 : Kd.C k40 w A0_2 l0_2.length l0_2) (hc0_2 : l0_2.length ≤ c0_2) (hr1_0 : Kd.C k58 w A1_0 l1_0.length l1_0) (hc1_0 : l1_0.length ≤ c1_0) (hr1_1 : Kd.C k61 w A1_1 l1_1.length l1_1) (hc1_1 : l1_1.length ≤ c1_1) (hr1_2 : Kd.C k40 w A1_2 l1_2.length l1_2) (hc1_2 : l1_2.length ≤ c1_2) (h : ir_Same.f k l0_0 l0_1 l0_2 l1_0 l1_1 l1_2 = some r) :
  Calls Tryd.prog 13 #[.agg #[.slice A0_0 l0_0.length c0_0, .slice A0_1 l0_1.length c0_1, .slice A0_2 l0_2.length c0_2], .agg #[.slice A1_0 l1_0.length c1_0, .slice A1_1 l1_1.length c1_1, .slice A1_2 l1_2.length c1_2]] w fun e w' => e = .returned (.bool r) ∧ Below w.heap.size w w' := by
 have hu26 := Tryd.underlying26
 have HR0_0 := Aside0.mk hr0_0
 have HC0_0 := Aside0.mk hc0_0
 clear hr0_0 hc0_0
 have HR0_1 := Aside0.mk hr0_1
 have HC0_1 := Aside0.mk hc0_1
 clear hr0_1 hc0_1
 have HR0_2 := Aside0.mk hr0_2
 have HC0_2 := Aside0.mk hc0_2
 clear hr0_2 hc0_2
 have HR1_0 := Aside0.mk hr1_0
 have HC1_0 := Aside0.mk hc1_0
 clear hr1_0 hc1_0
 have HR1_1 := Aside0.mk hr1_1
 have HC1_1 := Aside0.mk hc1_1
 clear hr1_1 hc1_1
 have HR1_2 := Aside0.mk hr1_2
 have HC1_2 := Aside0.mk hc1_2
 clear hr1_2 hc1_2
 have HB := Aside0.mk (Below.refl w.heap.size w)
 have H : ((kind_Same.f l0_0 l1_0).bind fun t248 => (if t248 = true then ((api_Field_33.f k l0_1 l1_1).bind fun t249 => (if t249 = true then ((api_Fun_ir_sameFun.f l0_2 l1_2).bind fun t250 => (some t250)) else (some false))) else (some false))) = some r := h
 clear h
 replace H := Option.bind_eq_some_iff.mp H
 obtain ⟨t248, A30, H⟩ := H
 (try dsimp only at H)
 have A3 := Aside0.mk A30
 clear A30
 by_cases c4 : t248 = true
 ·subst c4
  have H1 := H; rw [if_pos rfl] at H1; (try dsimp only at H1)
  clear H
  have H := H1
  clear H1
  replace H := Option.bind_eq_some_iff.mp H
  obtain ⟨t249, A50, H⟩ := H
  (try dsimp only at H)
  have A5 := Aside0.mk A50
  clear A50
  by_cases c6 : t249 = true
  ·subst c6
   have H1 := H; rw [if_pos rfl] at H1; (try dsimp only at H1)
   clear H
   have H := H1
   clear H1
   replace H := Option.bind_eq_some_iff.mp H
   obtain ⟨t250, A70, H⟩ := H
   (try dsimp only at H)
   have A7 := Aside0.mk A70
   clear A70
   obtain rfl := Option.some.inj H
   go_enter Tryd.func13, Tryd.ntmps13
   go_wp2_with (first | ((with_reducible refine gate_dst (N := 2) rfl ?_); refine box_event ?hg (N := 2) ?hd (cs := #[.slice A0_0 l0_0.length c0_0, .slice A0_1 l0_1.length c0_1, .slice A0_2 l0_2.length c0_2]) (t := 26) ?hr ?_; (case hd => rfl); (case hg => rfl); (case hr => first | (go_simp; done) | (go_simp; rfl)); intro gb246 hg w8 hbox hb; have n0_ := Aside0.mk (below_step (bq47) hb); have n1_ := Aside0.mk (hbox); have n2_ := Aside0.mk ((bq33 : w.heap.size ≤ gb246)); have n3_ := Aside0.mk ((bq33 : w.heap.size ≤ gb246)); clear HB; have HB := n0_; have BK246 := n1_; have GW246 := n2_; have GE246 := n3_; clear n0_ n1_ n2_ n3_; clear hb hbox hg) | ((with_reducible refine gate_dst (N := 3) rfl ?_); refine box_event ?hg (N := 3) ?hd (cs := #[.slice A1_0 l1_0.length c1_0, .slice A1_1 l1_1.length c1_1, .slice A1_2 l1_2.length c1_2]) (t := 26) ?hr ?_; (case hd => rfl); (case hg => rfl); (case hr => first | (go_simp; done) | (go_simp; rfl)); intro gb247 hg w9 hbox hb; have n0_ := Aside0.mk (blkB BK246.out hb); have n1_ := Aside0.mk (below_step (bq41) hb); have n2_ := Aside0.mk (hbox); have n3_ := Aside0.mk ((bq21 : w.heap.size ≤ gb247)); have n4_ := Aside0.mk ((bq21 : w.heap.size ≤ gb247)); have n5_ := Aside0.mk ((bq82 : gb246 ≠ gb247)); have n6_ := Aside0.mk ((bq83 : gb247 ≠ gb246)); clear BK246; clear HB; have BK246 := n0_; have HB := n1_; have BK247 := n2_; have GW247 := n3_; have GE247 := n4_; have NB246_247 := n5_; have NB247_246 := n6_; clear n0_ n1_ n2_ n3_ n4_ n5_ n6_; clear hb hbox hg; have hnb10 := NB246_247.out; have hnc10 := NB247_246.out; obtain ⟨hcz11_0, hcz11_1, hcz11_2, hfz11_0, hfz11_1, hfz11_2⟩ := bk3 BK246.out; obtain ⟨hcz12_0, hcz12_1, hcz12_2, hfz12_0, hfz12_1, hfz12_2⟩ := bk3 BK247.out) | ((with_reducible refine gate_callee (f := 32) rfl ?_); refine goesL_ (some 9) rfl rfl Tryd.func32 (by kernel_rfl) rfl #[.slice A0_0 l0_0.length c0_0, .slice A1_0 l1_0.length c1_0] rfl (bq44) ?_; (with_reducible refine (kind_Same.calls _ _ l0_0 _ _ l1_0 true _ ?side1 ?side2 ?side3 ?side4 A3.out).mono ?_); (case side1 => repeat (first | exact (Kd.C_below HR0_0.out HB.out) | (with_reducible refine Kd.C_alloc ?_ _) | (with_reducible refine Kd.C_drewN ?_ _) | (with_reducible refine Kd.C_drew ?_))); (case side2 => exact HC0_0.out); (case side3 => repeat (first | exact (Kd.C_below HR1_0.out HB.out) | (with_reducible refine Kd.C_alloc ?_ _) | (with_reducible refine Kd.C_drewN ?_ _) | (with_reducible refine Kd.C_drew ?_))); (case side4 => exact HC1_0.out); rintro e w13 ⟨rfl, hb⟩; refine ⟨_, rfl, ?_⟩; have n0_ := Aside0.mk (blkB BK246.out hb); have n1_ := Aside0.mk (blkB BK247.out hb); have n2_ := Aside0.mk (below_step (bq30) hb); clear BK246; clear BK247; clear HB; have BK246 := n0_; have BK247 := n1_; have HB := n2_; clear n0_ n1_ n2_; (try clear hb); (try clear hb2); (try clear hk); (try clear hi); obtain ⟨hcz14_0, hcz14_1, hcz14_2, hfz14_0, hfz14_1, hfz14_2⟩ := bk3 BK246.out; obtain ⟨hcz15_0, hcz15_1, hcz15_2, hfz15_0, hfz15_1, hfz15_2⟩ := bk3 BK247.out) | (go_at_call 33; (with_reducible refine (api_Field_33.calls k _ _ l0_1 _ _ l1_1 true _ ?side1 ?side2 ?side3 ?side4 A5.out).mono ?_); (case side1 => repeat (first | exact (Kd.C_below HR0_1.out HB.out) | (with_reducible refine Kd.C_alloc ?_ _) | (with_reducible refine Kd.C_drewN ?_ _) | (with_reducible refine Kd.C_drew ?_))); (case side2 => exact HC0_1.out); (case side3 => repeat (first | exact (Kd.C_below HR1_1.out HB.out) | (with_reducible refine Kd.C_alloc ?_ _) | (with_reducible refine Kd.C_drewN ?_ _) | (with_reducible refine Kd.C_drew ?_))); (case side4 => exact HC1_1.out); rintro e w' ⟨rfl, ⟨nd, rfl⟩⟩) | (go_at_call 34; (with_reducible refine (api_Fun_ir_sameFun.calls _ _ l0_2 _ _ l1_2 t250 _ ?side1 ?side2 ?side3 ?side4 A7.out).mono ?_); (case side1 => repeat (first | exact (Kd.C_below HR0_2.out (bq30)) | (with_reducible refine Kd.C_alloc ?_ _) | (with_reducible refine Kd.C_drewN ?_ _) | (with_reducible refine Kd.C_drew ?_))); (case side2 => exact HC0_2.out); (case side3 => repeat (first | exact (Kd.C_below HR1_2.out (bq30)) | (with_reducible refine Kd.C_alloc ?_ _) | (with_reducible refine Kd.C_drewN ?_ _) | (with_reducible refine Kd.C_drew ?_))); (case side4 => exact HC1_2.out); rintro e w16 ⟨rfl, hb⟩; have n0_ := Aside0.mk (blkB BK246.out hb); have n1_ := Aside0.mk (blkB BK247.out hb); have n2_ := Aside0.mk (below_step (bq30) hb); clear BK246; clear BK247; clear HB; have BK246 := n0_; have BK247 := n1_; have HB := n2_; clear n0_ n1_ n2_; (try clear hb); (try clear hb2); (try clear hk); (try clear hi)))
   go_ret
   exact ⟨by first | rfl | (simp [errW_none, errW_some] <;> rfl) | (simp [*, errW_none, errW_some] <;> rfl), bq30⟩
  ·replace c6 := Bool.eq_false_iff.mpr c6
   subst c6
   have H1 := H; rw [if_neg (show ¬ (false = true) by decide)] at H1; (try dsimp only at H1)
   clear H
   have H := H1
   clear H1
   obtain rfl := Option.some.inj H
   go_enter Tryd.func13, Tryd.ntmps13
   go_wp2_with (first | ((with_reducible refine gate_dst (N := 2) rfl ?_); refine box_event ?hg (N := 2) ?hd (cs := #[.slice A0_0 l0_0.length c0_0, .slice A0_1 l0_1.length c0_1, .slice A0_2 l0_2.length c0_2]) (t := 26) ?hr ?_; (case hd => rfl); (case hg => rfl); (case hr => first | (go_simp; done) | (go_simp; rfl)); intro gb246 hg w17 hbox hb; have n0_ := Aside0.mk (below_step (bq47) hb); have n1_ := Aside0.mk (hbox); have n2_ := Aside0.mk ((bq33 : w.heap.size ≤ gb246)); have n3_ := Aside0.mk ((bq33 : w.heap.size ≤ gb246)); clear HB; have HB := n0_; have BK246 := n1_; have GW246 := n2_; have GE246 := n3_; clear n0_ n1_ n2_ n3_; clear hb hbox hg) | ((with_reducible refine gate_dst (N := 3) rfl ?_); refine box_event ?hg (N := 3) ?hd (cs := #[.slice A1_0 l1_0.length c1_0, .slice A1_1 l1_1.length c1_1, .slice A1_2 l1_2.length c1_2]) (t := 26) ?hr ?_; (case hd => rfl); (case hg => rfl); (case hr => first | (go_simp; done) | (go_simp; rfl)); intro gb247 hg w18 hbox hb; have n0_ := Aside0.mk (blkB BK246.out hb); have n1_ := Aside0.mk (below_step (bq41) hb); have n2_ := Aside0.mk (hbox); have n3_ := Aside0.mk ((bq21 : w.heap.size ≤ gb247)); have n4_ := Aside0.mk ((bq21 : w.heap.size ≤ gb247)); have n5_ := Aside0.mk ((bq82 : gb246 ≠ gb247)); have n6_ := Aside0.mk ((bq83 : gb247 ≠ gb246)); clear BK246; clear HB; have BK246 := n0_; have HB := n1_; have BK247 := n2_; have GW247 := n3_; have GE247 := n4_; have NB246_247 := n5_; have NB247_246 := n6_; clear n0_ n1_ n2_ n3_ n4_ n5_ n6_; clear hb hbox hg; have hnb19 := NB246_247.out; have hnc19 := NB247_246.out; obtain ⟨hcz20_0, hcz20_1, hcz20_2, hfz20_0, hfz20_1, hfz20_2⟩ := bk3 BK246.out; obtain ⟨hcz21_0, hcz21_1, hcz21_2, hfz21_0, hfz21_1, hfz21_2⟩ := bk3 BK247.out) | ((with_reducible refine gate_callee (f := 32) rfl ?_); refine goesL_ (some 9) rfl rfl Tryd.func32 (by kernel_rfl) rfl #[.slice A0_0 l0_0.length c0_0, .slice A1_0 l1_0.length c1_0] rfl (bq44) ?_; (with_reducible refine (kind_Same.calls _ _ l0_0 _ _ l1_0 true _ ?side1 ?side2 ?side3 ?side4 A3.out).mono ?_); (case side1 => repeat (first | exact (Kd.C_below HR0_0.out HB.out) | (with_reducible refine Kd.C_alloc ?_ _) | (with_reducible refine Kd.C_drewN ?_ _) | (with_reducible refine Kd.C_drew ?_))); (case side2 => exact HC0_0.out); (case side3 => repeat (first | exact (Kd.C_below HR1_0.out HB.out) | (with_reducible refine Kd.C_alloc ?_ _) | (with_reducible refine Kd.C_drewN ?_ _) | (with_reducible refine Kd.C_drew ?_))); (case side4 => exact HC1_0.out); rintro e w22 ⟨rfl, hb⟩; refine ⟨_, rfl, ?_⟩; have n0_ := Aside0.mk (blkB BK246.out hb); have n1_ := Aside0.mk (blkB BK247.out hb); have n2_ := Aside0.mk (below_step (bq30) hb); clear BK246; clear BK247; clear HB; have BK246 := n0_; have BK247 := n1_; have HB := n2_; clear n0_ n1_ n2_; (try clear hb); (try clear hb2); (try clear hk); (try clear hi); obtain ⟨hcz23_0, hcz23_1, hcz23_2, hfz23_0, hfz23_1, hfz23_2⟩ := bk3 BK246.out; obtain ⟨hcz24_0, hcz24_1, hcz24_2, hfz24_0, hfz24_1, hfz24_2⟩ := bk3 BK247.out) | (go_at_call 33; (with_reducible refine (api_Field_33.calls k _ _ l0_1 _ _ l1_1 false _ ?side1 ?side2 ?side3 ?side4 A5.out).mono ?_); (case side1 => repeat (first | exact (Kd.C_below HR0_1.out HB.out) | (with_reducible refine Kd.C_alloc ?_ _) | (with_reducible refine Kd.C_drewN ?_ _) | (with_reducible refine Kd.C_drew ?_))); (case side2 => exact HC0_1.out); (case side3 => repeat (first | exact (Kd.C_below HR1_1.out HB.out) | (with_reducible refine Kd.C_alloc ?_ _) | (with_reducible refine Kd.C_drewN ?_ _) | (with_reducible refine Kd.C_drew ?_))); (case side4 => exact HC1_1.out); rintro e w' ⟨rfl, ⟨nd, rfl⟩⟩))
   go_ret
   exact ⟨by first | rfl | (simp [errW_none, errW_some] <;> rfl) | (simp [*, errW_none, errW_some] <;> rfl), bq30⟩
 ·replace c4 := Bool.eq_false_iff.mpr c4
  subst c4
  have H1 := H; rw [if_neg (show ¬ (false = true) by decide)] at H1; (try dsimp only at H1)
  clear H
  have H := H1
  clear H1
  obtain rfl := Option.some.inj H
  go_enter Tryd.func13, Tryd.ntmps13
  go_wp2_with (first | ((with_reducible refine gate_dst (N := 2) rfl ?_); refine box_event ?hg (N := 2) ?hd (cs := #[.slice A0_0 l0_0.length c0_0, .slice A0_1 l0_1.length c0_1, .slice A0_2 l0_2.length c0_2]) (t := 26) ?hr ?_; (case hd => rfl); (case hg => rfl); (case hr => first | (go_simp; done) | (go_simp; rfl)); intro gb246 hg w25 hbox hb; have n0_ := Aside0.mk (below_step (bq47) hb); have n1_ := Aside0.mk (hbox); have n2_ := Aside0.mk ((bq33 : w.heap.size ≤ gb246)); have n3_ := Aside0.mk ((bq33 : w.heap.size ≤ gb246)); clear HB; have HB := n0_; have BK246 := n1_; have GW246 := n2_; have GE246 := n3_; clear n0_ n1_ n2_ n3_; clear hb hbox hg) | ((with_reducible refine gate_dst (N := 3) rfl ?_); refine box_event ?hg (N := 3) ?hd (cs := #[.slice A1_0 l1_0.length c1_0, .slice A1_1 l1_1.length c1_1, .slice A1_2 l1_2.length c1_2]) (t := 26) ?hr ?_; (case hd => rfl); (case hg => rfl); (case hr => first | (go_simp; done) | (go_simp; rfl)); intro gb247 hg w26 hbox hb; have n0_ := Aside0.mk (blkB BK246.out hb); have n1_ := Aside0.mk (below_step (bq41) hb); have n2_ := Aside0.mk (hbox); have n3_ := Aside0.mk ((bq21 : w.heap.size ≤ gb247)); have n4_ := Aside0.mk ((bq21 : w.heap.size ≤ gb247)); have n5_ := Aside0.mk ((bq82 : gb246 ≠ gb247)); have n6_ := Aside0.mk ((bq83 : gb247 ≠ gb246)); clear BK246; clear HB; have BK246 := n0_; have HB := n1_; have BK247 := n2_; have GW247 := n3_; have GE247 := n4_; have NB246_247 := n5_; have NB247_246 := n6_; clear n0_ n1_ n2_ n3_ n4_ n5_ n6_; clear hb hbox hg; have hnb27 := NB246_247.out; have hnc27 := NB247_246.out; obtain ⟨hcz28_0, hcz28_1, hcz28_2, hfz28_0, hfz28_1, hfz28_2⟩ := bk3 BK246.out; obtain ⟨hcz29_0, hcz29_1, hcz29_2, hfz29_0, hfz29_1, hfz29_2⟩ := bk3 BK247.out) | ((with_reducible refine gate_callee (f := 32) rfl ?_); refine goesL_ (some 9) rfl rfl Tryd.func32 (by kernel_rfl) rfl #[.slice A0_0 l0_0.length c0_0, .slice A1_0 l1_0.length c1_0] rfl (bq44) ?_; (with_reducible refine (kind_Same.calls _ _ l0_0 _ _ l1_0 false _ ?side1 ?side2 ?side3 ?side4 A3.out).mono ?_); (case side1 => repeat (first | exact (Kd.C_below HR0_0.out HB.out) | (with_reducible refine Kd.C_alloc ?_ _) | (with_reducible refine Kd.C_drewN ?_ _) | (with_reducible refine Kd.C_drew ?_))); (case side2 => exact HC0_0.out); (case side3 => repeat (first | exact (Kd.C_below HR1_0.out HB.out) | (with_reducible refine Kd.C_alloc ?_ _) | (with_reducible refine Kd.C_drewN ?_ _) | (with_reducible refine Kd.C_drew ?_))); (case side4 => exact HC1_0.out); rintro e w30 ⟨rfl, hb⟩; refine ⟨_, rfl, ?_⟩; have n0_ := Aside0.mk (blkB BK246.out hb); have n1_ := Aside0.mk (blkB BK247.out hb); have n2_ := Aside0.mk (below_step (bq30) hb); clear BK246; clear BK247; clear HB; have BK246 := n0_; have BK247 := n1_; have HB := n2_; clear n0_ n1_ n2_; (try clear hb); (try clear hb2); (try clear hk); (try clear hi)))
  go_ret
  exact ⟨by first | rfl | (simp [errW_none, errW_some] <;> rfl) | (simp [*, errW_none, errW_some] <;> rfl), bq30⟩

end Go.Proofs.YtkiiojgaaoaipaaDoor.Q

/- slices.Clone: by hand. -/

namespace Go.Proofs.YtkiiojgaaoaipaaDoor.Q
open Go.RowKit Go.Proofs.YtkiiojgaaoaipaaDoorW.PrintWords Go.Proofs.YtkiiojgaaoaipaaDoorW.PrintLast Go.Proofs.YtkiiojgaaoaipaaDoorW.PrintMore
set_option linter.unusedVariables false
set_option linter.unusedSimpArgs false
theorem info_field : (Tryd.prog.info? 61).map (fun i => (i.zero, i.size, i.bytes)) = some (some (.agg #[(.string ⟨#[]⟩), (.string ⟨#[]⟩)]), 2, 32) := by kernel_rfl
set_option maxRecDepth 100000 in
set_option maxHeartbeats 2000000 in
theorem clone_slices_Clone_int_int (A : Option Addr) (c : Nat) (l : List Int) (w : World) (hr : (Kd.int .i64).C w A l.length l) (hc : l.length ≤ c) (hl : l.length ≤ 1000000) :
  Calls Tryd.prog 61 #[.slice A l.length c] w fun e w' => ∃ v0_ : Value, e = .returned (v0_) ∧ Kd.R (Kd.int .i64) 3 w' w.heap.size (fun _ => True) v0_ l ∧ Below w.heap.size w w' := by
 have HR := Aside0.mk hr
 have HL := Aside0.mk hl
 cases A with
 | none =>
  have heq : ∀ W : World, (binOp .eql 42 (.slice none l.length c) (.slice none 0 0)).run Tryd.prog W = .ok (.bool true) W := fun W => rfl
  have h0 : l = [] := by
   by_cases h : 0 < l.length
   ·obtain ⟨ad, e, _⟩ := hr.2.2 h
    cases e
   ·exact List.eq_nil_of_length_eq_zero (by omega)
  have H0 := Aside0.mk h0; clear h0
  clear hr hl
  go_enter Tryd.func61, Tryd.ntmps61
  go_wp2
  go_ret
  exact ⟨_, rfl, by rw [H0.out]; exact Kd.R_nil _ _ _ _ _, Below.refl _ _⟩
 | some ad =>
  have heq : ∀ W : World, (binOp .eql 42 (.slice (some ad) l.length c) (.slice none 0 0)).run Tryd.prog W = .ok (.bool false) W := fun W => rfl
  clear hr hl
  go_enter Tryd.func61, Tryd.ntmps61
  go_wp2_with (first | ((with_reducible refine gate_dst (N := 5) rfl ?_); refine Kd.R_lit (Kd.int .i64) (w0 := w) w.heap.size 3 ?hg (N := 5) ?hd (xs := ([] : List Int)) (inner := []) (ok := fun _ => True) (okp := fun _ => True) ?hr ?hp (fun _ hk => hk) trivial (Below.refl _ _) (Nat.le_refl _) (by simp) ?_; (case hd => rfl); (case hg => rfl); (case hr => first | (go_simp; done) | (go_simp; rfl)); (case hp => exact Reps.none _ _); intro v1 w1 ho hb hg_ hnew_; have HO := Aside0.mk ho; have HB := Aside0.mk hb; clear ho hb hg_ hnew_) | ((with_reducible refine gate_builtin (b := .append) (xs := #[.tmp 5, .tmp 6]) rfl ?_); at_builtin; refine Kd.R_append_rows (Kd.int .i64) (Rr := (Kd.int .i64).K w1) (w0 := w) w.heap.size rfl (.tmp 5) (.tmp 6) 42 3 (.int .i64 0) 8 rfl Tryd.underlying42 info3 rfl (by decide) (by omega) v1 [] l (some ad) l.length c (fun _ => True) (fun _ => False) rfl rfl HO.out (Kd.C_below HR.out HB.out) (fun _ _ hk => hk) (fun _ hk => hk.elim) (fun _ _ => trivial) HB.out HB.out.size ?aL ?_; (case aL => have := HL.out; simp; omega); intro v2 w2 ho hb hg_ hat_; have HO2 := Aside0.mk ho; have HB2 := Aside0.mk hb; clear ho hb hg_ hat_))
  go_ret
  exact ⟨_, rfl, HO2.out, HB2.out⟩
def slices_Clone_int_int.f (l0 : List Int) : Option (List Int) := if l0.length ≤ 1000000 then some l0 else none
theorem slices_Clone_int_int.calls (A0 : Option Addr) (c0 : Nat) (l0 : List Int) (r : List Int) (w : World) (hr0 : Kd.C (Kd.int .i64) w A0 l0.length l0) (hc0 : l0.length ≤ c0) (h : slices_Clone_int_int.f l0 = some r) :
  Calls Tryd.prog 61 #[.slice A0 l0.length c0] w fun e w' => ∃ v0_ : Value, e = .returned (v0_) ∧ Kd.R (Kd.int .i64) 3 w' w.heap.size (fun _ => True) v0_ r ∧ Below w.heap.size w w' := by
 unfold slices_Clone_int_int.f at h
 split at h
 case isFalse => cases h
 rename_i hl
 obtain rfl := Option.some.inj h
 exact clone_slices_Clone_int_int A0 c0 l0 w hr0 hc0 hl
set_option maxRecDepth 100000 in
set_option maxHeartbeats 2000000 in
theorem clone_slices_Clone_string_string (A : Option Addr) (c : Nat) (l : List ByteArray) (w : World) (hr : Kd.string.C w A l.length l) (hc : l.length ≤ c) (hl : l.length ≤ 1000000) :
  Calls Tryd.prog 60 #[.slice A l.length c] w fun e w' => ∃ v0_ : Value, e = .returned (v0_) ∧ Kd.R Kd.string 9 w' w.heap.size (fun _ => True) v0_ l ∧ Below w.heap.size w w' := by
 have HR := Aside0.mk hr
 have HL := Aside0.mk hl
 cases A with
 | none =>
  have heq : ∀ W : World, (binOp .eql 31 (.slice none l.length c) (.slice none 0 0)).run Tryd.prog W = .ok (.bool true) W := fun W => rfl
  have h0 : l = [] := by
   by_cases h : 0 < l.length
   ·obtain ⟨ad, e, _⟩ := hr.2.2 h
    cases e
   ·exact List.eq_nil_of_length_eq_zero (by omega)
  have H0 := Aside0.mk h0; clear h0
  clear hr hl
  go_enter Tryd.func60, Tryd.ntmps60
  go_wp2
  go_ret
  exact ⟨_, rfl, by rw [H0.out]; exact Kd.R_nil _ _ _ _ _, Below.refl _ _⟩
 | some ad =>
  have heq : ∀ W : World, (binOp .eql 31 (.slice (some ad) l.length c) (.slice none 0 0)).run Tryd.prog W = .ok (.bool false) W := fun W => rfl
  clear hr hl
  go_enter Tryd.func60, Tryd.ntmps60
  go_wp2_with (first | ((with_reducible refine gate_dst (N := 5) rfl ?_); refine Kd.R_lit Kd.string (w0 := w) w.heap.size 9 ?hg (N := 5) ?hd (xs := ([] : List ByteArray)) (inner := []) (ok := fun _ => True) (okp := fun _ => True) ?hr ?hp (fun _ hk => hk) trivial (Below.refl _ _) (Nat.le_refl _) (by simp) ?_; (case hd => rfl); (case hg => rfl); (case hr => first | (go_simp; done) | (go_simp; rfl)); (case hp => exact Reps.none _ _); intro v1 w1 ho hb hg_ hnew_; have HO := Aside0.mk ho; have HB := Aside0.mk hb; clear ho hb hg_ hnew_) | ((with_reducible refine gate_builtin (b := .append) (xs := #[.tmp 5, .tmp 6]) rfl ?_); at_builtin; refine Kd.R_append_rows Kd.string (Rr := Kd.string.K w1) (w0 := w) w.heap.size rfl (.tmp 5) (.tmp 6) 31 9 (.string ⟨#[]⟩) 16 rfl Tryd.underlying31 info9 rfl (by decide) (by omega) v1 [] l (some ad) l.length c (fun _ => True) (fun _ => False) rfl rfl HO.out (Kd.C_below HR.out HB.out) (fun _ _ hk => hk) (fun _ hk => hk.elim) (fun _ _ => trivial) HB.out HB.out.size ?aL ?_; (case aL => have := HL.out; simp; omega); intro v2 w2 ho hb hg_ hat_; have HO2 := Aside0.mk ho; have HB2 := Aside0.mk hb; clear ho hb hg_ hat_))
  go_ret
  exact ⟨_, rfl, HO2.out, HB2.out⟩
def slices_Clone_string_string.f (l0 : List ByteArray) : Option (List ByteArray) := if l0.length ≤ 1000000 then some l0 else none
theorem slices_Clone_string_string.calls (A0 : Option Addr) (c0 : Nat) (l0 : List ByteArray) (r : List ByteArray) (w : World) (hr0 : Kd.C Kd.string w A0 l0.length l0) (hc0 : l0.length ≤ c0) (h : slices_Clone_string_string.f l0 = some r) :
  Calls Tryd.prog 60 #[.slice A0 l0.length c0] w fun e w' => ∃ v0_ : Value, e = .returned (v0_) ∧ Kd.R Kd.string 9 w' w.heap.size (fun _ => True) v0_ r ∧ Below w.heap.size w w' := by
 unfold slices_Clone_string_string.f at h
 split at h
 case isFalse => cases h
 rename_i hl
 obtain rfl := Option.some.inj h
 exact clone_slices_Clone_string_string A0 c0 l0 w hr0 hc0 hl
set_option maxRecDepth 100000 in
set_option maxHeartbeats 2000000 in
theorem clone_api_Field_ (A : Option Addr) (c : Nat) (l : List S61) (w : World) (hr : k61.C w A l.length l) (hc : l.length ≤ c) (hl : l.length ≤ 1000000) :
  Calls Tryd.prog 43 #[.slice A l.length c] w fun e w' => ∃ v0_ : Value, e = .returned (v0_) ∧ Kd.R k61 61 w' w.heap.size (fun _ => True) v0_ l ∧ Below w.heap.size w w' := by
 have HR := Aside0.mk hr
 have HL := Aside0.mk hl
 cases A with
 | none =>
  have heq : ∀ W : World, (binOp .eql 23 (.slice none l.length c) (.slice none 0 0)).run Tryd.prog W = .ok (.bool true) W := fun W => rfl
  have h0 : l = [] := by
   by_cases h : 0 < l.length
   ·obtain ⟨ad, e, _⟩ := hr.2.2 h
    cases e
   ·exact List.eq_nil_of_length_eq_zero (by omega)
  have H0 := Aside0.mk h0; clear h0
  clear hr hl
  go_enter Tryd.func43, Tryd.ntmps43
  go_wp2
  go_ret
  exact ⟨_, rfl, by rw [H0.out]; exact Kd.R_nil _ _ _ _ _, Below.refl _ _⟩
 | some ad =>
  have heq : ∀ W : World, (binOp .eql 23 (.slice (some ad) l.length c) (.slice none 0 0)).run Tryd.prog W = .ok (.bool false) W := fun W => rfl
  clear hr hl
  go_enter Tryd.func43, Tryd.ntmps43
  go_wp2_with (first | ((with_reducible refine gate_dst (N := 5) rfl ?_); refine Kd.R_lit k61 (w0 := w) w.heap.size 61 ?hg (N := 5) ?hd (xs := ([] : List S61)) (inner := []) (ok := fun _ => True) (okp := fun _ => True) ?hr ?hp (fun _ hk => hk) trivial (Below.refl _ _) (Nat.le_refl _) (by simp) ?_; (case hd => rfl); (case hg => rfl); (case hr => first | (go_simp; done) | (go_simp; rfl)); (case hp => exact Reps.none _ _); intro v1 w1 ho hb hg_ hnew_; have HO := Aside0.mk ho; have HB := Aside0.mk hb; clear ho hb hg_ hnew_) | ((with_reducible refine gate_builtin (b := .append) (xs := #[.tmp 5, .tmp 6]) rfl ?_); at_builtin; refine Kd.R_append_rows k61 (Rr := k61.K w1) (w0 := w) w.heap.size rfl (.tmp 5) (.tmp 6) 23 61 (.agg #[(.string ⟨#[]⟩), (.string ⟨#[]⟩)]) 32 rfl Tryd.underlying23 info_field rfl (by decide) (by omega) v1 [] l (some ad) l.length c (fun _ => True) (fun _ => False) rfl rfl HO.out (Kd.C_below HR.out HB.out) (fun _ _ hk => hk) (fun _ hk => hk.elim) (fun _ _ => trivial) HB.out HB.out.size ?aL ?_; (case aL => have := HL.out; simp; omega); intro v2 w2 ho hb hg_ hat_; have HO2 := Aside0.mk ho; have HB2 := Aside0.mk hb; clear ho hb hg_ hat_))
  go_ret
  exact ⟨_, rfl, HO2.out, HB2.out⟩
def api_Field_43.f (l0 : List S61) : Option (List S61) := if l0.length ≤ 1000000 then some l0 else none
theorem api_Field_43.calls (A0 : Option Addr) (c0 : Nat) (l0 : List S61) (r : List S61) (w : World) (hr0 : Kd.C k61 w A0 l0.length l0) (hc0 : l0.length ≤ c0) (h : api_Field_43.f l0 = some r) :
  Calls Tryd.prog 43 #[.slice A0 l0.length c0] w fun e w' => ∃ v0_ : Value, e = .returned (v0_) ∧ Kd.R k61 61 w' w.heap.size (fun _ => True) v0_ r ∧ Below w.heap.size w w' := by
 unfold api_Field_43.f at h
 split at h
 case isFalse => cases h
 rename_i hl
 obtain rfl := Option.some.inj h
 exact clone_api_Field_ A0 c0 l0 w hr0 hc0 hl
end Go.Proofs.YtkiiojgaaoaipaaDoor.Q

namespace Go.Proofs.YtkiiojgaaoaipaaDoor.Q
open Go.RowKit Go.Proofs.YtkiiojgaaoaipaaDoorW.PrintWords Go.Proofs.YtkiiojgaaoaipaaDoorW.PrintLast Go.Proofs.YtkiiojgaaoaipaaDoorW.PrintMore
attribute [local go_sem] max2_int min2_int max_two min_two max_three min_three max_four min_four   -- for this text's walks alone
set_option linter.unusedVariables false
set_option linter.unusedSimpArgs false

/-! ### ir_cloneFun: function 44 -/
mutual
def ir_cloneFun.l0 : Nat → List (S47) → Int → Int → ByteArray → List ByteArray → ByteArray → List ByteArray → List (S47) → List (S53) → ByteArray → List ByteArray → ByteArray → List ByteArray → List (S47) → Option (ByteArray × List ByteArray × ByteArray × List ByteArray × (List (S47)) × (List (S53)))
 | 0, _, _, _, _, _, _, _, _, _, _, _, _, _, _ => none
 | k + 1, x20, x21, x22, x388000, x388001, x388002, x388003, x388004, x388005, x396000, x396001, x396002, x396003, x396004 => if x22 < x21 then (if 0 ≤ x22 then (if x22 < (x20.length : Int) then ((slices_Clone_int_int.f ((rd_T47 x20 x22).f2)).bind fun t398 => (if x396004.length < 1954687338268 then (ir_cloneFun.l0 k x20 x21 (wrap64 (x22 + 1)) x388000 x388001 x388002 x388003 x388004 x388005 x396000 x396001 x396002 x396003 (x396004 ++ [(⟨(rd_T47 x20 x22).f0, (rd_T47 x20 x22).f1, t398, (rd_T47 x20 x22).f3, (rd_T47 x20 x22).f4⟩ : S47)])) else (none))) else (none)) else (none)) else (ir_cloneFun.l1 k x388005 (x388005.length : Int) 0 x396000 x396001 x396002 x396003 x396004 ([] : List (S53)))
def ir_cloneFun.l1 : Nat → List (S53) → Int → Int → ByteArray → List ByteArray → ByteArray → List ByteArray → List (S47) → List (S53) → Option (ByteArray × List ByteArray × ByteArray × List ByteArray × (List (S47)) × (List (S53)))
 | 0, _, _, _, _, _, _, _, _, _ => none
 | k + 1, x38, x39, x40, x396000, x396001, x396002, x396003, x396004, x396005 => if x40 < x39 then (if 0 ≤ x40 then (if x40 < (x38.length : Int) then ((slices_Clone_int_int.f ((rd_T53 x38 x40).f0)).bind fun t406 => (if x396005.length < 2513169434916 then (ir_cloneFun.l1 k x38 x39 (wrap64 (x40 + 1)) x396000 x396001 x396002 x396003 x396004 (x396005 ++ [(⟨t406, (rd_T53 x38 x40).f1, (rd_T53 x38 x40).f2, (⟨(rd_T53 x38 x40).f3.f0, (rd_T53 x38 x40).f3.f1⟩ : S51)⟩ : S53)])) else (none))) else (none)) else (none)) else (some (x396000, x396001, x396002, x396003, x396004, x396005))
end
def ir_cloneFun.f (k : Nat) (a0_0 : ByteArray) (l0_1 : List ByteArray) (a0_2 : ByteArray) (l0_3 : List ByteArray) (l0_4 : List (S47)) (l0_5 : List (S53)) : Option (ByteArray × List ByteArray × ByteArray × List ByteArray × (List (S47)) × (List (S53))) := (slices_Clone_string_string.f l0_1).bind fun t389 => ((slices_Clone_string_string.f l0_3).bind fun t392 => (ir_cloneFun.l0 k l0_4 (l0_4.length : Int) 0 a0_0 l0_1 a0_2 l0_3 l0_4 l0_5 a0_0 t389 a0_2 t392 ([] : List (S47))))
theorem ir_cloneFun.mono_l : ∀ k, (∀ y0 y1 y2 y3 y4 y5 y6 y7 y8 y9 y10 y11 y12 y13, LeO (ir_cloneFun.l0 k y0 y1 y2 y3 y4 y5 y6 y7 y8 y9 y10 y11 y12 y13) (ir_cloneFun.l0 (k + 1) y0 y1 y2 y3 y4 y5 y6 y7 y8 y9 y10 y11 y12 y13)) ∧ (∀ y0 y1 y2 y3 y4 y5 y6 y7 y8, LeO (ir_cloneFun.l1 k y0 y1 y2 y3 y4 y5 y6 y7 y8) (ir_cloneFun.l1 (k + 1) y0 y1 y2 y3 y4 y5 y6 y7 y8))
 | 0 => ⟨fun _ _ _ _ _ _ _ _ _ _ _ _ _ _ r h => by simp [ir_cloneFun.l0] at h, fun _ _ _ _ _ _ _ _ _ r h => by simp [ir_cloneFun.l1] at h⟩
 | k + 1 => by
  obtain ⟨ih0, ih1⟩ := ir_cloneFun.mono_l k
  refine ⟨?_, ?_⟩
  ·intro y0 y1 y2 y3 y4 y5 y6 y7 y8 y9 y10 y11 y12 y13
   unfold ir_cloneFun.l0
   repeat' first
   | (with_reducible exact ih0 _ _ _ _ _ _ _ _ _ _ _ _ _ _)
   | (with_reducible exact ih1 _ _ _ _ _ _ _ _ _)
   | (with_reducible exact LeO.refl _)
   | (with_reducible exact LeO.none _)
   | (with_reducible refine LeO.ite ?_ ?_)
   | (with_reducible refine LeO.bind ?_ (fun _ => ?_))
   | exact ih0 _ _ _ _ _ _ _ _ _ _ _ _ _ _
   | exact ih1 _ _ _ _ _ _ _ _ _
   | exact LeO.none _
   | refine LeO.ite ?_ ?_
   | refine LeO.bind ?_ (fun _ => ?_)
  ·intro y0 y1 y2 y3 y4 y5 y6 y7 y8
   unfold ir_cloneFun.l1
   repeat' first
   | (with_reducible exact ih0 _ _ _ _ _ _ _ _ _ _ _ _ _ _)
   | (with_reducible exact ih1 _ _ _ _ _ _ _ _ _)
   | (with_reducible exact LeO.refl _)
   | (with_reducible exact LeO.none _)
   | (with_reducible refine LeO.ite ?_ ?_)
   | (with_reducible refine LeO.bind ?_ (fun _ => ?_))
   | exact ih0 _ _ _ _ _ _ _ _ _ _ _ _ _ _
   | exact ih1 _ _ _ _ _ _ _ _ _
   | exact LeO.none _
   | refine LeO.ite ?_ ?_
   | refine LeO.bind ?_ (fun _ => ?_)
theorem ir_cloneFun.mono : ∀ a0 a1 a2 a3 a4 a5 k, LeO (ir_cloneFun.f k a0 a1 a2 a3 a4 a5) (ir_cloneFun.f (k + 1) a0 a1 a2 a3 a4 a5) := by
 intro a0 a1 a2 a3 a4 a5 k
 obtain ⟨ih0, ih1⟩ := ir_cloneFun.mono_l k
 unfold ir_cloneFun.f
 repeat' first
   | (with_reducible exact ih0 _ _ _ _ _ _ _ _ _ _ _ _ _ _)
   | (with_reducible exact ih1 _ _ _ _ _ _ _ _ _)
   | (with_reducible exact LeO.refl _)
   | (with_reducible exact LeO.none _)
   | (with_reducible refine LeO.ite ?_ ?_)
   | (with_reducible refine LeO.bind ?_ (fun _ => ?_))
   | exact ih0 _ _ _ _ _ _ _ _ _ _ _ _ _ _
   | exact ih1 _ _ _ _ _ _ _ _ _
   | exact LeO.none _
   | refine LeO.ite ?_ ?_
   | refine LeO.bind ?_ (fun _ => ?_)
def ir_cloneFun.T1 : Bool × List (List Nat × List Nat) := (true, [([], []), ([0], [0]), ([], []), ([2], [2]), ([3], [3]), ([], []), ([5], [5]), ([], []), ([7], [7]), ([8, 4], [8]), ([1, 4, 6, 9], [1, 4, 6, 9]), ([], []), ([11, 10, 9, 0, 1, 2, 3, 4, 5, 6, 7, 8, 9, 10, 11], [10, 11])])
def ir_cloneFun.B1 : List Nat := [0, 1, 0, 4, 12, 0, 32, 0, 128, 412, 1023, 0, 4095]
theorem ir_cloneFun.tab1 : rtab .any (opsOf Tryd.f44 1) = ir_cloneFun.T1 := by kernel_rfl
theorem ir_cloneFun.bits1 : waitsOk ir_cloneFun.T1.2 ir_cloneFun.B1 = true := by kernel_rfl
set_option maxHeartbeats 8000000 in
set_option maxRecDepth 100000 in
theorem ir_cloneFun.calls (k : Nat) (a0_0 : ByteArray) (A0_1 : Option Addr) (c0_1 : Nat) (l0_1 : List ByteArray) (a0_2 : ByteArray) (A0_3 : Option Addr) (c0_3 : Nat) (l0_3 : List ByteArray) (A0_4 : Option Addr) (c0_4 : Nat) (l0_4 : List (S47)) (A0_5 : Option Addr) (c0_5 : Nat) (l0_5 : List (S53)) (r1 : ByteArray) (r2 : List ByteArray) (r3 : ByteArray) (r4 : List ByteArray) (r5 : List (S47)) (r6 : List (S53)) (w : World) (hr0_1 : Kd.C Kd.string w A0_1 l0_1.length l0_1) (hc0_1 : l0_1.length ≤ c0_1) (hr0_3 : Kd.C Kd.string w A0_3 l0_3.length l0_3) (hc0_3 : l0_3.length ≤ c0_3) (hr0_4 : Kd.C k47 w A0_4 l0_4.length l0_4) (hc0_4 : l0_4.length ≤ c0_4) (hr0_5 : Kd.C k53 w A0_5 l0_5.length l0_5) (hc0_5 : l0_5.length ≤ c0_5) (h : ir_cloneFun.f k a0_0 l0_1 a0_2 l0_3 l0_4 l0_5 = some (r1, r2, r3, r4, r5, r6)) :
  Calls Tryd.prog 44 #[.agg #[.string a0_0, .slice A0_1 l0_1.length c0_1, .string a0_2, .slice A0_3 l0_3.length c0_3, .slice A0_4 l0_4.length c0_4, .slice A0_5 l0_5.length c0_5]] w fun e w' => ∃ v1_ v3_ v4_ v5_ : Value, e = .returned (.agg #[.string r1, v1_, .string r3, v3_, v4_, v5_]) ∧ Kd.R Kd.string 9 w' w.heap.size (fun k_ => some k_ ≠ (v3_ : Value).ownBlock) v1_ r2 ∧ Kd.R Kd.string 9 w' w.heap.size (fun k_ => some k_ ≠ (v1_ : Value).ownBlock) v3_ r4 ∧ Kd.S k47 47 w' w.heap.size (fun _ => True) v4_ r5 ∧ Kd.S k53 53 w' w.heap.size (fun _ => True) v5_ r6 ∧ Below w.heap.size w w' := by
 have hu40 := Tryd.underlying40
 have hu47 := Tryd.underlying47
 have hu53 := Tryd.underlying53
 have HR0_1 := Aside0.mk hr0_1
 have HC0_1 := Aside0.mk hc0_1
 clear hr0_1 hc0_1
 have HR0_3 := Aside0.mk hr0_3
 have HC0_3 := Aside0.mk hc0_3
 clear hr0_3 hc0_3
 have HR0_4 := Aside0.mk hr0_4
 have HC0_4 := Aside0.mk hc0_4
 clear hr0_4 hc0_4
 have HR0_5 := Aside0.mk hr0_5
 have HC0_5 := Aside0.mk hc0_5
 clear hr0_5 hc0_5
 have HB := Aside0.mk (Below.refl w.heap.size w)
 have H : ((slices_Clone_string_string.f l0_1).bind fun t389 => ((slices_Clone_string_string.f l0_3).bind fun t392 => (ir_cloneFun.l0 k l0_4 (l0_4.length : Int) 0 a0_0 l0_1 a0_2 l0_3 l0_4 l0_5 a0_0 t389 a0_2 t392 ([] : List (S47))))) = some (r1, r2, r3, r4, r5, r6) := h
 clear h
 replace H := Option.bind_eq_some_iff.mp H
 obtain ⟨t389, A20, H⟩ := H
 (try dsimp only at H)
 have A2 := Aside0.mk A20
 clear A20
 replace H := Option.bind_eq_some_iff.mp H
 obtain ⟨t392, A30, H⟩ := H
 (try dsimp only at H)
 have A3 := Aside0.mk A30
 clear A30
 have H' := Aside0.mk H
 clear H
 go_enter Tryd.func44, Tryd.ntmps44
 try go_wp2_with (first | ((with_reducible refine gate_dst (N := 1) rfl ?_); refine box_event ?hg (N := 1) ?hd (cs := #[.string a0_0, .slice A0_1 l0_1.length c0_1, .string a0_2, .slice A0_3 l0_3.length c0_3, .slice A0_4 l0_4.length c0_4, .slice A0_5 l0_5.length c0_5]) (t := 40) ?hr ?_; (case hd => rfl); (case hg => rfl); (case hr => first | (go_simp; done) | (go_simp; rfl)); intro gb387 hg w4 hbox hb; have n0_ := Aside0.mk (below_step (bq47) hb); have n1_ := Aside0.mk (hbox); have n2_ := Aside0.mk ((bq33 : w.heap.size ≤ gb387)); have n3_ := Aside0.mk ((bq33 : w.heap.size ≤ gb387)); clear HB; have HB := n0_; have BK387 := n1_; have GW387 := n2_; have GE387 := n3_; clear n0_ n1_ n2_ n3_; clear hb hbox hg) | ((with_reducible refine gate_dst (N := 2) rfl ?_); refine box_event ?hg (N := 2) ?hd (cs := #[.string (⟨#[]⟩ : ByteArray), .slice none 0 0, .string (⟨#[]⟩ : ByteArray), .slice none 0 0, .slice none 0 0, .slice none 0 0]) (t := 40) ?hr ?_; (case hd => rfl); (case hg => rfl); (case hr => first | (go_simp; done) | (go_simp; rfl)); intro gb388 hg w5 hbox hb; have n0_ := Aside0.mk (blkB BK387.out hb); have n1_ := Aside0.mk (below_step (by repeat (first | (with_reducible first | exact HB.out | apply below_alloc | apply pw_below_drewN | apply below_drew1 | refine below_set ?_ GE387.out) | exact HB.out)) hb); have n2_ := Aside0.mk (hbox); have n3_ := Aside0.mk ((bq22 : w.heap.size ≤ gb388)); have n4_ := Aside0.mk ((bq22 : w.heap.size ≤ gb388)); have n5_ := Aside0.mk ((bq84 : gb387 ≠ gb388)); have n6_ := Aside0.mk ((bq85 : gb388 ≠ gb387)); clear BK387; clear HB; have BK387 := n0_; have HB := n1_; have BK388 := n2_; have GW388 := n3_; have GE388 := n4_; have NB387_388 := n5_; have NB388_387 := n6_; clear n0_ n1_ n2_ n3_ n4_ n5_ n6_; clear hb hbox hg))
 have n0_ := Aside0.mk (blk_drew BK387.out)
 have n1_ := Aside0.mk (blk_drew BK388.out)
 have n2_ := Aside0.mk (below_drew1 HB.out)
 clear BK387
 clear BK388
 clear HB
 have BK387 := n0_
 have BK388 := n1_
 have HB := n2_
 clear n0_ n1_ n2_
 refine start_ (n := 13) (S := fun w' => w'.cell? ⟨gb387, 0, none⟩ = some (.string a0_0) ∧ w'.cell? ⟨gb387, 1, none⟩ = some (.slice A0_1 l0_1.length c0_1) ∧ w'.cell? ⟨gb387, 2, none⟩ = some (.string a0_2) ∧ w'.cell? ⟨gb387, 3, none⟩ = some (.slice A0_3 l0_3.length c0_3) ∧ w'.cell? ⟨gb387, 4, none⟩ = some (.slice A0_4 l0_4.length c0_4) ∧ w'.cell? ⟨gb387, 5, none⟩ = some (.slice A0_5 l0_5.length c0_5)) (ds := []) (tf 0 13) (by kernel_rfl) rfl rfl ⟨(blk_cell BK387.out 0).trans rfl, (blk_cell BK387.out 1).trans rfl, (blk_cell BK387.out 2).trans rfl, (blk_cell BK387.out 3).trans rfl, (blk_cell BK387.out 4).trans rfl, (blk_cell BK387.out 5).trans rfl⟩ (fun hHeld => ?_); refine with_tabW ir_cloneFun.tab1 ir_cloneFun.bits1 (fun HT_ HW_ => ?_)
 generalize w5.drew = w6 at BK387 BK388 HB hHeld ⊢
 refine pure_ (i := 0) (N := some 8) (v := ?_) (a' := ?_) (tf 1 12) rfl rfl (any_of HT_.out (by kernel_rfl)) (fun _ _ _ h => h) (Or.inl ⟨by rfl, ?_⟩) ?_ ?_
 rotate_left
 ·intro w'
  go_simp
  with_reducible rfl
 rotate_left
 ·simp only [Act.put, List.setIfInBounds_toArray, List.set_cons_zero, List.set_cons_succ, i64_w, i32_w]
  rfl
 refine pure_ (i := 2) (N := some 10) (v := ?_) (a' := ?_) #[true, false, true, false, false, false, false, false, false, false, false, false, false] rfl rfl (any_of HT_.out (by kernel_rfl)) (fun _ _ _ h => h) (Or.inl ⟨by rfl, ?_⟩) ?_ ?_
 rotate_left
 ·intro w'
  go_simp
  with_reducible rfl
 rotate_left
 ·simp only [Act.put, List.setIfInBounds_toArray, List.set_cons_zero, List.set_cons_succ, i64_w, i32_w]
  rfl
 refine pure_ (i := 5) (N := some 13) (v := ?_) (a' := ?_) #[true, false, true, false, false, true, false, false, false, false, false, false, false] rfl rfl (any_of HT_.out (by kernel_rfl)) (fun _ _ _ h => h) (Or.inl ⟨by rfl, ?_⟩) ?_ ?_
 rotate_left
 ·intro w'
  go_simp
  with_reducible rfl
 rotate_left
 ·simp only [Act.put, List.setIfInBounds_toArray, List.set_cons_zero, List.set_cons_succ, i64_w, i32_w]
  rfl
 refine pure_ (i := 7) (N := some 15) (v := ?_) (a' := ?_) #[true, false, true, false, false, true, false, true, false, false, false, false, false] rfl rfl (any_of HT_.out (by kernel_rfl)) (fun _ _ _ h => h) (Or.inl ⟨by rfl, ?_⟩) ?_ ?_
 rotate_left
 ·intro w'
  go_simp
  with_reducible rfl
 rotate_left
 ·simp only [Act.put, List.setIfInBounds_toArray, List.set_cons_zero, List.set_cons_succ, i64_w, i32_w]
  rfl
 refine take_ (i := 1) (N := some 9) (v := ?_) (a' := ?_) #[true, true, true, false, false, true, false, true, false, false, false, false, false] rfl rfl (take_ofW HT_.out HW_.out (by kernel_rfl)) (fun _ _ _ h => h) (Or.inl ⟨by rfl, ?_⟩) hHeld ?_ ?_
 rotate_left
 ·rintro w' ⟨s0, s1, s2, s3, s4, s5⟩
  go_simp
  with_reducible rfl
 rotate_left
 ·simp only [Act.put, List.setIfInBounds_toArray, List.set_cons_zero, List.set_cons_succ, i64_w, i32_w]
  rfl
 refine take_ (i := 3) (N := some 11) (v := ?_) (a' := ?_) #[true, true, true, true, false, true, false, true, false, false, false, false, false] rfl rfl (take_ofW HT_.out HW_.out (by kernel_rfl)) (fun _ _ _ h => h) (Or.inl ⟨by rfl, ?_⟩) hHeld ?_ ?_
 rotate_left
 ·rintro w' ⟨s0, s1, s2, s3, s4, s5⟩
  go_simp
  with_reducible rfl
 rotate_left
 ·simp only [Act.put, List.setIfInBounds_toArray, List.set_cons_zero, List.set_cons_succ, i64_w, i32_w]
  rfl
 refine take_ (i := 6) (N := some 14) (v := ?_) (a' := ?_) #[true, true, true, true, false, true, true, true, false, false, false, false, false] rfl rfl (take_ofW HT_.out HW_.out (by kernel_rfl)) (fun _ _ _ h => h) (Or.inl ⟨by rfl, ?_⟩) hHeld ?_ ?_
 rotate_left
 ·rintro w' ⟨s0, s1, s2, s3, s4, s5⟩
  go_simp
  with_reducible rfl
 rotate_left
 ·simp only [Act.put, List.setIfInBounds_toArray, List.set_cons_zero, List.set_cons_succ, i64_w, i32_w]
  rfl
 refine take_ (i := 8) (N := some 16) (v := ?_) (a' := ?_) #[true, true, true, true, false, true, true, true, true, false, false, false, false] rfl rfl (take_ofW HT_.out HW_.out (by kernel_rfl)) (fun _ _ _ h => h) (Or.inl ⟨by rfl, ?_⟩) hHeld ?_ ?_
 rotate_left
 ·rintro w' ⟨s0, s1, s2, s3, s4, s5⟩
  go_simp
  with_reducible rfl
 rotate_left
 ·simp only [Act.put, List.setIfInBounds_toArray, List.set_cons_zero, List.set_cons_succ, i64_w, i32_w]
  rfl
 refine join_ (σ := Value × Value × Nat) 1 (tf 12 1) (fun s_ => [(12, s_.1), (17, s_.2.1), (3, .pointer (some ⟨s_.2.2, 0, none⟩)), (18, .agg #[.string a0_0, s_.1, .string a0_2, s_.2.1, .slice none 0 0, .slice none 0 0])]) (fun s_ w' => (w'.cell? ⟨gb387, 0, none⟩ = some (.string a0_0) ∧ w'.cell? ⟨gb387, 1, none⟩ = some (.slice A0_1 l0_1.length c0_1) ∧ w'.cell? ⟨gb387, 2, none⟩ = some (.string a0_2) ∧ w'.cell? ⟨gb387, 3, none⟩ = some (.slice A0_3 l0_3.length c0_3) ∧ w'.cell? ⟨gb387, 4, none⟩ = some (.slice A0_4 l0_4.length c0_4) ∧ w'.cell? ⟨gb387, 5, none⟩ = some (.slice A0_5 l0_5.length c0_5)) ∧ (Kd.R Kd.string 9 w' w.heap.size (fun k_ => some k_ ≠ (s_.2.1 : Value).ownBlock) s_.1 t389) ∧ (Kd.R Kd.string 9 w' w.heap.size (fun k_ => some k_ ≠ (s_.1 : Value).ownBlock) s_.2.1 t392) ∧ (w'.heap[gb387]? = some (.cells #[.string a0_0, .slice A0_1 l0_1.length c0_1, .string a0_2, .slice A0_3 l0_3.length c0_3, .slice A0_4 l0_4.length c0_4, .slice A0_5 l0_5.length c0_5] 40 (0, 0))) ∧ (w'.heap[gb388]? = some (.cells #[.string (⟨#[]⟩ : ByteArray), .slice none 0 0, .string (⟨#[]⟩ : ByteArray), .slice none 0 0, .slice none 0 0, .slice none 0 0] 40 (0, 0))) ∧ (w'.heap[s_.2.2]? = some (.cells #[.string (⟨#[]⟩ : ByteArray), .slice none 0 0, .string (⟨#[]⟩ : ByteArray), .slice none 0 0, .slice none 0 0, .slice none 0 0] 40 (0, 0))) ∧ (w.heap.size ≤ s_.2.2) ∧ (w.heap.size ≤ s_.2.2) ∧ (gb387 ≠ s_.2.2) ∧ (s_.2.2 ≠ gb387) ∧ (gb388 ≠ s_.2.2) ∧ (s_.2.2 ≠ gb388) ∧ (Below w.heap.size w w')) ?_ ?_
 rotate_left
 ·intro hCont
  refine two_ (i := 4) (j := 11) (Ni := some 12) (Nj := some 3) (tf 9 4) #[true, true, true, true, false, true, true, true, true, false, false, true, false] rfl rfl rfl rfl (two_of HT_.out (by kernel_rfl)) (by decide) (by decide) (fun K hK => ?_) (fun K hK => ?_)
  ·skip
   refine goes_ Tryd.func60 (by kernel_rfl) rfl #[.slice A0_1 l0_1.length c0_1] (by rfl) rfl rfl (bq44) ?_
   with_reducible refine (slices_Clone_string_string.calls _ _ l0_1 t389 _ ?side1 ?side2 A2.out).mono ?_
   (case side1 => repeat (first | exact (Kd.C_below HR0_1.out HB.out) | (with_reducible refine Kd.C_alloc ?_ _) | (with_reducible refine Kd.C_drewN ?_ _) | (with_reducible refine Kd.C_drew ?_)))
   (case side2 => exact HC0_1.out)
   rintro e w7 ⟨v390, rfl, ho0, hb⟩
   refine ⟨_, rfl, ?_⟩
   have n0_ := Aside0.mk (Kd.R_lower ho0 (below_size (bq31)))
   have n1_ := Aside0.mk (blkB BK387.out hb)
   have n2_ := Aside0.mk (blkB BK388.out hb)
   have n3_ := Aside0.mk (below_step (bq31) hb)
   clear BK387
   clear BK388
   clear HB
   have HO391 := n0_
   have BK387 := n1_
   have BK388 := n2_
   have HB := n3_
   clear n0_ n1_ n2_ n3_
   (try clear hb)
   (try clear hb2)
   (try clear hk)
   (try clear hi)
   (try clear ho0)
   refine hK.out _ _ ⟨(blk_cell BK387.out 0).trans rfl, (blk_cell BK387.out 1).trans rfl, (blk_cell BK387.out 2).trans rfl, (blk_cell BK387.out 3).trans rfl, (blk_cell BK387.out 4).trans rfl, (blk_cell BK387.out 5).trans rfl⟩ (fun hHeld => ?_)
   clear hK K
   refine norm_ (a' := ?_) ?_ ?_
   rotate_left
   ·show Act.put _ (some 12) _ = _
    simp only [Act.put, List.setIfInBounds_toArray, List.set_cons_zero, List.set_cons_succ, i64_w, i32_w]
    rfl
   refine two_ (i := 9) (j := 11) (Ni := some 17) (Nj := some 3) (tf 10 3) #[true, true, true, true, true, true, true, true, true, false, false, true, false] rfl rfl rfl rfl (two_of HT_.out (by kernel_rfl)) (by decide) (by decide) (fun K hK => ?_) (fun K hK => ?_)
   ·skip
    refine goes_ Tryd.func60 (by kernel_rfl) rfl #[.slice A0_3 l0_3.length c0_3] (by rfl) rfl rfl (bq44) ?_
    with_reducible refine (slices_Clone_string_string.calls _ _ l0_3 t392 _ ?side1 ?side2 A3.out).mono ?_
    (case side1 => repeat (first | exact (Kd.C_below HR0_3.out HB.out) | (with_reducible refine Kd.C_alloc ?_ _) | (with_reducible refine Kd.C_drewN ?_ _) | (with_reducible refine Kd.C_drew ?_)))
    (case side2 => exact HC0_3.out)
    rintro e w8 ⟨v393, rfl, ho0, hb⟩
    refine ⟨_, rfl, ?_⟩
    have n0_ := Aside0.mk (Kd.R_elder' (bq64) (Kd.R_base ho0) hb)
    have n1_ := Aside0.mk (Kd.R_lower (Kd.R_new' ho0 (Kd.R_lt (bq64))) (below_size (bq31)))
    have n2_ := Aside0.mk (blkB BK387.out hb)
    have n3_ := Aside0.mk (blkB BK388.out hb)
    have n4_ := Aside0.mk (below_step (bq31) hb)
    clear HO391
    clear BK387
    clear BK388
    clear HB
    have HO391 := n0_
    have HO394 := n1_
    have BK387 := n2_
    have BK388 := n3_
    have HB := n4_
    clear n0_ n1_ n2_ n3_ n4_
    (try clear hb)
    (try clear hb2)
    (try clear hk)
    (try clear hi)
    (try clear ho0)
    obtain ⟨Ao9, co9, eo9⟩ := Kd.R_slice HO394.out
    (first | subst eo9 | (injection eo9 with f1_ f2_ f3_; have f4_ := f1_.symm; have f5_ := f3_.symm; clear f1_ f2_ f3_; subst f4_; subst f5_))
    obtain ⟨Ao10, co10, eo10⟩ := Kd.R_slice HO391.out
    (first | subst eo10 | (injection eo10 with f1_ f2_ f3_; have f4_ := f1_.symm; have f5_ := f3_.symm; clear f1_ f2_ f3_; subst f4_; subst f5_))
    refine hK.out _ _ ⟨(blk_cell BK387.out 0).trans rfl, (blk_cell BK387.out 1).trans rfl, (blk_cell BK387.out 2).trans rfl, (blk_cell BK387.out 3).trans rfl, (blk_cell BK387.out 4).trans rfl, (blk_cell BK387.out 5).trans rfl⟩ (fun hHeld => ?_)
    clear hK K
    refine norm_ (a' := ?_) ?_ ?_
    rotate_left
    ·show Act.put _ (some 17) _ = _
     simp only [Act.put, List.setIfInBounds_toArray, List.set_cons_zero, List.set_cons_succ, i64_w, i32_w]
     rfl
    refine pure_ (i := 10) (N := some 18) (v := ?_) (a' := ?_) (tf 11 2) rfl rfl (any_of HT_.out (by kernel_rfl)) (fun _ _ _ h => h) (Or.inl ⟨by rfl, ?_⟩) ?_ ?_
    rotate_left
    ·intro w'
     go_simp
     with_reducible rfl
    rotate_left
    ·simp only [Act.put, List.setIfInBounds_toArray, List.set_cons_zero, List.set_cons_succ, i64_w, i32_w]
     rfl
    refine one_ (i := 11) (N := some 3) (tf 12 1) rfl rfl (one_of HT_.out (by kernel_rfl)) (by decide) (fun K hK => ?_)
    refine box_step ?hg (N := 3) ?hd (cs := #[.string (⟨#[]⟩ : ByteArray), .slice none 0 0, .string (⟨#[]⟩ : ByteArray), .slice none 0 0, .slice none 0 0, .slice none 0 0]) (t := 40) ?hr ?_; (case hd => rfl); (case hg => rfl); (case hr => first | (go_simp; done) | (go_simp; rfl))
    intro gb395 hg w11 hbox hb
    have n0_ := Aside0.mk (Kd.R_below (bq64) hb)
    have n1_ := Aside0.mk (Kd.R_below (by (with_reducible repeat (first | apply Kd.R_alloc | apply Kd.R_drewN | apply Kd.R_drew)); exact HO394.out) hb)
    have n2_ := Aside0.mk (blkB BK387.out hb)
    have n3_ := Aside0.mk (blkB BK388.out hb)
    have n4_ := Aside0.mk (below_step (bq31) hb)
    have n5_ := Aside0.mk (hbox)
    have n6_ := Aside0.mk ((bq9 : w.heap.size ≤ gb395))
    have n7_ := Aside0.mk ((bq9 : w.heap.size ≤ gb395))
    have n8_ := Aside0.mk ((bq84 : gb387 ≠ gb395))
    have n9_ := Aside0.mk ((bq85 : gb395 ≠ gb387))
    have n10_ := Aside0.mk ((bq86 : gb388 ≠ gb395))
    have n11_ := Aside0.mk ((bq87 : gb395 ≠ gb388))
    clear HO391
    clear HO394
    clear BK387
    clear BK388
    clear HB
    have HO391 := n0_
    have HO394 := n1_
    have BK387 := n2_
    have BK388 := n3_
    have HB := n4_
    have BK395 := n5_
    have GW395 := n6_
    have GE395 := n7_
    have NB387_395 := n8_
    have NB395_387 := n9_
    have NB388_395 := n10_
    have NB395_388 := n11_
    clear n0_ n1_ n2_ n3_ n4_ n5_ n6_ n7_ n8_ n9_ n10_ n11_
    clear hb hbox hg
    refine hK.out _ _ ⟨(blk_cell BK387.out 0).trans rfl, (blk_cell BK387.out 1).trans rfl, (blk_cell BK387.out 2).trans rfl, (blk_cell BK387.out 3).trans rfl, (blk_cell BK387.out 4).trans rfl, (blk_cell BK387.out 5).trans rfl⟩ (fun hHeld => ?_)
    clear hK K
    refine norm_ (a' := ?_) ?_ ?_
    rotate_left
    ·show Act.put _ (some 3) _ = _
     simp only [Act.put, List.setIfInBounds_toArray, List.set_cons_zero, List.set_cons_succ, i64_w, i32_w]
     rfl
    exact norm_ (bq70) (hCont (.slice Ao10 t389.length co10, .slice Ao9 t392.length co9, gb395) _ ⟨hHeld, (bq45), (bq46), (bq48), (bq49), (bq50), GW395.out, GE395.out, NB387_395.out, NB395_387.out, NB388_395.out, NB395_388.out, (bq12)⟩)
   ·skip
    refine box_step ?hg (N := 3) ?hd (cs := #[.string (⟨#[]⟩ : ByteArray), .slice none 0 0, .string (⟨#[]⟩ : ByteArray), .slice none 0 0, .slice none 0 0, .slice none 0 0]) (t := 40) ?hr ?_; (case hd => rfl); (case hg => rfl); (case hr => first | (go_simp; done) | (go_simp; rfl))
    intro gb395 hg w8 hbox hb
    have n0_ := Aside0.mk (Kd.R_below (bq64) hb)
    have n1_ := Aside0.mk (blkB BK387.out hb)
    have n2_ := Aside0.mk (blkB BK388.out hb)
    have n3_ := Aside0.mk (below_step (bq31) hb)
    have n4_ := Aside0.mk (hbox)
    have n5_ := Aside0.mk ((bq9 : w.heap.size ≤ gb395))
    have n6_ := Aside0.mk ((bq9 : w.heap.size ≤ gb395))
    have n7_ := Aside0.mk ((bq84 : gb387 ≠ gb395))
    have n8_ := Aside0.mk ((bq85 : gb395 ≠ gb387))
    have n9_ := Aside0.mk ((bq86 : gb388 ≠ gb395))
    have n10_ := Aside0.mk ((bq87 : gb395 ≠ gb388))
    clear HO391
    clear BK387
    clear BK388
    clear HB
    have HO391 := n0_
    have BK387 := n1_
    have BK388 := n2_
    have HB := n3_
    have BK395 := n4_
    have GW395 := n5_
    have GE395 := n6_
    have NB387_395 := n7_
    have NB395_387 := n8_
    have NB388_395 := n9_
    have NB395_388 := n10_
    clear n0_ n1_ n2_ n3_ n4_ n5_ n6_ n7_ n8_ n9_ n10_
    clear hb hbox hg
    refine hK.out _ _ ⟨(blk_cell BK387.out 0).trans rfl, (blk_cell BK387.out 1).trans rfl, (blk_cell BK387.out 2).trans rfl, (blk_cell BK387.out 3).trans rfl, (blk_cell BK387.out 4).trans rfl, (blk_cell BK387.out 5).trans rfl⟩ (fun hHeld => ?_)
    clear hK K
    refine norm_ (a' := ?_) ?_ ?_
    rotate_left
    ·show Act.put _ (some 3) _ = _
     simp only [Act.put, List.setIfInBounds_toArray, List.set_cons_zero, List.set_cons_succ, i64_w, i32_w]
     rfl
    refine one_ (i := 9) (N := some 17) #[true, true, true, true, true, true, true, true, true, true, false, true, false] rfl rfl (one_of HT_.out (by kernel_rfl)) (by decide) (fun K hK => ?_)
    refine goes_ Tryd.func60 (by kernel_rfl) rfl #[.slice A0_3 l0_3.length c0_3] (by rfl) rfl rfl (bq44) ?_
    with_reducible refine (slices_Clone_string_string.calls _ _ l0_3 t392 _ ?side1 ?side2 A3.out).mono ?_
    (case side1 => repeat (first | exact (Kd.C_below HR0_3.out HB.out) | (with_reducible refine Kd.C_alloc ?_ _) | (with_reducible refine Kd.C_drewN ?_ _) | (with_reducible refine Kd.C_drew ?_)))
    (case side2 => exact HC0_3.out)
    rintro e w9 ⟨v393, rfl, ho0, hb⟩
    refine ⟨_, rfl, ?_⟩
    have n0_ := Aside0.mk (Kd.R_elder' (bq64) (Kd.R_base ho0) hb)
    have n1_ := Aside0.mk (Kd.R_lower (Kd.R_new' ho0 (Kd.R_lt (bq64))) (below_size (bq12)))
    have n2_ := Aside0.mk (blkB BK387.out hb)
    have n3_ := Aside0.mk (blkB BK388.out hb)
    have n4_ := Aside0.mk (blkB BK395.out hb)
    have n5_ := Aside0.mk (below_step (bq12) hb)
    clear HO391
    clear BK387
    clear BK388
    clear BK395
    clear HB
    have HO391 := n0_
    have HO394 := n1_
    have BK387 := n2_
    have BK388 := n3_
    have BK395 := n4_
    have HB := n5_
    clear n0_ n1_ n2_ n3_ n4_ n5_
    (try clear hb)
    (try clear hb2)
    (try clear hk)
    (try clear hi)
    (try clear ho0)
    obtain ⟨Ao10, co10, eo10⟩ := Kd.R_slice HO394.out
    (first | subst eo10 | (injection eo10 with f1_ f2_ f3_; have f4_ := f1_.symm; have f5_ := f3_.symm; clear f1_ f2_ f3_; subst f4_; subst f5_))
    obtain ⟨Ao11, co11, eo11⟩ := Kd.R_slice HO391.out
    (first | subst eo11 | (injection eo11 with f1_ f2_ f3_; have f4_ := f1_.symm; have f5_ := f3_.symm; clear f1_ f2_ f3_; subst f4_; subst f5_))
    refine hK.out _ _ ⟨(blk_cell BK387.out 0).trans rfl, (blk_cell BK387.out 1).trans rfl, (blk_cell BK387.out 2).trans rfl, (blk_cell BK387.out 3).trans rfl, (blk_cell BK387.out 4).trans rfl, (blk_cell BK387.out 5).trans rfl⟩ (fun hHeld => ?_)
    clear hK K
    refine norm_ (a' := ?_) ?_ ?_
    rotate_left
    ·show Act.put _ (some 17) _ = _
     simp only [Act.put, List.setIfInBounds_toArray, List.set_cons_zero, List.set_cons_succ, i64_w, i32_w]
     rfl
    refine pure_ (i := 10) (N := some 18) (v := ?_) (a' := ?_) (tf 12 1) rfl rfl (any_of HT_.out (by kernel_rfl)) (fun _ _ _ h => h) (Or.inl ⟨by rfl, ?_⟩) ?_ ?_
    rotate_left
    ·intro w'
     go_simp
     with_reducible rfl
    rotate_left
    ·simp only [Act.put, List.setIfInBounds_toArray, List.set_cons_zero, List.set_cons_succ, i64_w, i32_w]
     rfl
    exact norm_ (bq70) (hCont (.slice Ao11 t389.length co11, .slice Ao10 t392.length co10, gb395) _ ⟨hHeld, (bq45), (bq46), (bq48), (bq49), (bq50), GW395.out, GE395.out, NB387_395.out, NB395_387.out, NB388_395.out, NB395_388.out, (bq12)⟩)
  ·skip
   refine box_step ?hg (N := 3) ?hd (cs := #[.string (⟨#[]⟩ : ByteArray), .slice none 0 0, .string (⟨#[]⟩ : ByteArray), .slice none 0 0, .slice none 0 0, .slice none 0 0]) (t := 40) ?hr ?_; (case hd => rfl); (case hg => rfl); (case hr => first | (go_simp; done) | (go_simp; rfl))
   intro gb395 hg w7 hbox hb
   have n0_ := Aside0.mk (blkB BK387.out hb)
   have n1_ := Aside0.mk (blkB BK388.out hb)
   have n2_ := Aside0.mk (below_step (bq31) hb)
   have n3_ := Aside0.mk (hbox)
   have n4_ := Aside0.mk ((bq9 : w.heap.size ≤ gb395))
   have n5_ := Aside0.mk ((bq9 : w.heap.size ≤ gb395))
   have n6_ := Aside0.mk ((bq84 : gb387 ≠ gb395))
   have n7_ := Aside0.mk ((bq85 : gb395 ≠ gb387))
   have n8_ := Aside0.mk ((bq86 : gb388 ≠ gb395))
   have n9_ := Aside0.mk ((bq87 : gb395 ≠ gb388))
   clear BK387
   clear BK388
   clear HB
   have BK387 := n0_
   have BK388 := n1_
   have HB := n2_
   have BK395 := n3_
   have GW395 := n4_
   have GE395 := n5_
   have NB387_395 := n6_
   have NB395_387 := n7_
   have NB388_395 := n8_
   have NB395_388 := n9_
   clear n0_ n1_ n2_ n3_ n4_ n5_ n6_ n7_ n8_ n9_
   clear hb hbox hg
   refine hK.out _ _ ⟨(blk_cell BK387.out 0).trans rfl, (blk_cell BK387.out 1).trans rfl, (blk_cell BK387.out 2).trans rfl, (blk_cell BK387.out 3).trans rfl, (blk_cell BK387.out 4).trans rfl, (blk_cell BK387.out 5).trans rfl⟩ (fun hHeld => ?_)
   clear hK K
   refine norm_ (a' := ?_) ?_ ?_
   rotate_left
   ·show Act.put _ (some 3) _ = _
    simp only [Act.put, List.setIfInBounds_toArray, List.set_cons_zero, List.set_cons_succ, i64_w, i32_w]
    rfl
   refine one_ (i := 4) (N := some 12) #[true, true, true, true, true, true, true, true, true, false, false, true, false] rfl rfl (one_of HT_.out (by kernel_rfl)) (by decide) (fun K hK => ?_)
   refine goes_ Tryd.func60 (by kernel_rfl) rfl #[.slice A0_1 l0_1.length c0_1] (by rfl) rfl rfl (bq44) ?_
   with_reducible refine (slices_Clone_string_string.calls _ _ l0_1 t389 _ ?side1 ?side2 A2.out).mono ?_
   (case side1 => repeat (first | exact (Kd.C_below HR0_1.out HB.out) | (with_reducible refine Kd.C_alloc ?_ _) | (with_reducible refine Kd.C_drewN ?_ _) | (with_reducible refine Kd.C_drew ?_)))
   (case side2 => exact HC0_1.out)
   rintro e w8 ⟨v390, rfl, ho0, hb⟩
   refine ⟨_, rfl, ?_⟩
   have n0_ := Aside0.mk (Kd.R_lower ho0 (below_size (bq12)))
   have n1_ := Aside0.mk (blkB BK387.out hb)
   have n2_ := Aside0.mk (blkB BK388.out hb)
   have n3_ := Aside0.mk (blkB BK395.out hb)
   have n4_ := Aside0.mk (below_step (bq12) hb)
   clear BK387
   clear BK388
   clear BK395
   clear HB
   have HO391 := n0_
   have BK387 := n1_
   have BK388 := n2_
   have BK395 := n3_
   have HB := n4_
   clear n0_ n1_ n2_ n3_ n4_
   (try clear hb)
   (try clear hb2)
   (try clear hk)
   (try clear hi)
   (try clear ho0)
   refine hK.out _ _ ⟨(blk_cell BK387.out 0).trans rfl, (blk_cell BK387.out 1).trans rfl, (blk_cell BK387.out 2).trans rfl, (blk_cell BK387.out 3).trans rfl, (blk_cell BK387.out 4).trans rfl, (blk_cell BK387.out 5).trans rfl⟩ (fun hHeld => ?_)
   clear hK K
   refine norm_ (a' := ?_) ?_ ?_
   rotate_left
   ·show Act.put _ (some 12) _ = _
    simp only [Act.put, List.setIfInBounds_toArray, List.set_cons_zero, List.set_cons_succ, i64_w, i32_w]
    rfl
   refine one_ (i := 9) (N := some 17) #[true, true, true, true, true, true, true, true, true, true, false, true, false] rfl rfl (one_of HT_.out (by kernel_rfl)) (by decide) (fun K hK => ?_)
   refine goes_ Tryd.func60 (by kernel_rfl) rfl #[.slice A0_3 l0_3.length c0_3] (by rfl) rfl rfl (bq44) ?_
   with_reducible refine (slices_Clone_string_string.calls _ _ l0_3 t392 _ ?side1 ?side2 A3.out).mono ?_
   (case side1 => repeat (first | exact (Kd.C_below HR0_3.out HB.out) | (with_reducible refine Kd.C_alloc ?_ _) | (with_reducible refine Kd.C_drewN ?_ _) | (with_reducible refine Kd.C_drew ?_)))
   (case side2 => exact HC0_3.out)
   rintro e w9 ⟨v393, rfl, ho0, hb⟩
   refine ⟨_, rfl, ?_⟩
   have n0_ := Aside0.mk (Kd.R_elder' (bq64) (Kd.R_base ho0) hb)
   have n1_ := Aside0.mk (Kd.R_lower (Kd.R_new' ho0 (Kd.R_lt (bq64))) (below_size (bq12)))
   have n2_ := Aside0.mk (blkB BK387.out hb)
   have n3_ := Aside0.mk (blkB BK388.out hb)
   have n4_ := Aside0.mk (blkB BK395.out hb)
   have n5_ := Aside0.mk (below_step (bq12) hb)
   clear HO391
   clear BK387
   clear BK388
   clear BK395
   clear HB
   have HO391 := n0_
   have HO394 := n1_
   have BK387 := n2_
   have BK388 := n3_
   have BK395 := n4_
   have HB := n5_
   clear n0_ n1_ n2_ n3_ n4_ n5_
   (try clear hb)
   (try clear hb2)
   (try clear hk)
   (try clear hi)
   (try clear ho0)
   obtain ⟨Ao10, co10, eo10⟩ := Kd.R_slice HO394.out
   (first | subst eo10 | (injection eo10 with f1_ f2_ f3_; have f4_ := f1_.symm; have f5_ := f3_.symm; clear f1_ f2_ f3_; subst f4_; subst f5_))
   obtain ⟨Ao11, co11, eo11⟩ := Kd.R_slice HO391.out
   (first | subst eo11 | (injection eo11 with f1_ f2_ f3_; have f4_ := f1_.symm; have f5_ := f3_.symm; clear f1_ f2_ f3_; subst f4_; subst f5_))
   refine hK.out _ _ ⟨(blk_cell BK387.out 0).trans rfl, (blk_cell BK387.out 1).trans rfl, (blk_cell BK387.out 2).trans rfl, (blk_cell BK387.out 3).trans rfl, (blk_cell BK387.out 4).trans rfl, (blk_cell BK387.out 5).trans rfl⟩ (fun hHeld => ?_)
   clear hK K
   refine norm_ (a' := ?_) ?_ ?_
   rotate_left
   ·show Act.put _ (some 17) _ = _
    simp only [Act.put, List.setIfInBounds_toArray, List.set_cons_zero, List.set_cons_succ, i64_w, i32_w]
    rfl
   refine pure_ (i := 10) (N := some 18) (v := ?_) (a' := ?_) (tf 12 1) rfl rfl (any_of HT_.out (by kernel_rfl)) (fun _ _ _ h => h) (Or.inl ⟨by rfl, ?_⟩) ?_ ?_
   rotate_left
   ·intro w'
    go_simp
    with_reducible rfl
   rotate_left
   ·simp only [Act.put, List.setIfInBounds_toArray, List.set_cons_zero, List.set_cons_succ, i64_w, i32_w]
    rfl
   exact norm_ (bq70) (hCont (.slice Ao11 t389.length co11, .slice Ao10 t392.length co10, gb395) _ ⟨hHeld, (bq45), (bq46), (bq48), (bq49), (bq50), GW395.out, GE395.out, NB387_395.out, NB395_387.out, NB388_395.out, NB395_388.out, (bq12)⟩)
 rintro ⟨v390, v393, gb395⟩ w12 ⟨hS_, h0_, h1_, h2_, h3_, h4_, h5_, h6_, h7_, h8_, h9_, h10_, h11_⟩
 have n0_ : Aside0 (Kd.R Kd.string 9 w12 w.heap.size (fun k_ => some k_ ≠ (v393 : Value).ownBlock) v390 t389) := ⟨h0_⟩
 have n1_ : Aside0 (Kd.R Kd.string 9 w12 w.heap.size (fun k_ => some k_ ≠ (v390 : Value).ownBlock) v393 t392) := ⟨h1_⟩
 have n2_ : Aside0 (w12.heap[gb387]? = some (.cells #[.string a0_0, .slice A0_1 l0_1.length c0_1, .string a0_2, .slice A0_3 l0_3.length c0_3, .slice A0_4 l0_4.length c0_4, .slice A0_5 l0_5.length c0_5] 40 (0, 0))) := ⟨h2_⟩
 have n3_ : Aside0 (w12.heap[gb388]? = some (.cells #[.string (⟨#[]⟩ : ByteArray), .slice none 0 0, .string (⟨#[]⟩ : ByteArray), .slice none 0 0, .slice none 0 0, .slice none 0 0] 40 (0, 0))) := ⟨h3_⟩
 have n4_ : Aside0 (w12.heap[gb395]? = some (.cells #[.string (⟨#[]⟩ : ByteArray), .slice none 0 0, .string (⟨#[]⟩ : ByteArray), .slice none 0 0, .slice none 0 0, .slice none 0 0] 40 (0, 0))) := ⟨h4_⟩
 have n5_ : Aside0 (w.heap.size ≤ gb395) := ⟨h5_⟩
 have n6_ : Aside0 (w.heap.size ≤ gb395) := ⟨h6_⟩
 have n7_ : Aside0 (gb387 ≠ gb395) := ⟨h7_⟩
 have n8_ : Aside0 (gb395 ≠ gb387) := ⟨h8_⟩
 have n9_ : Aside0 (gb388 ≠ gb395) := ⟨h9_⟩
 have n10_ : Aside0 (gb395 ≠ gb388) := ⟨h10_⟩
 have n11_ : Aside0 (Below w.heap.size w w12) := ⟨h11_⟩
 clear BK387
 clear BK388
 clear HB
 clear h0_ h1_ h2_ h3_ h4_ h5_ h6_ h7_ h8_ h9_ h10_ h11_
 have HO391 := n0_
 have HO394 := n1_
 have BK387 := n2_
 have BK388 := n3_
 have BK395 := n4_
 have GW395 := n5_
 have GE395 := n6_
 have NB387_395 := n7_
 have NB395_387 := n8_
 have NB388_395 := n9_
 have NB395_388 := n10_
 have HB := n11_
 clear n0_ n1_ n2_ n3_ n4_ n5_ n6_ n7_ n8_ n9_ n10_ n11_
 have hHeld : w12.cell? ⟨gb387, 0, none⟩ = some (.string a0_0) ∧ w12.cell? ⟨gb387, 1, none⟩ = some (.slice A0_1 l0_1.length c0_1) ∧ w12.cell? ⟨gb387, 2, none⟩ = some (.string a0_2) ∧ w12.cell? ⟨gb387, 3, none⟩ = some (.slice A0_3 l0_3.length c0_3) ∧ w12.cell? ⟨gb387, 4, none⟩ = some (.slice A0_4 l0_4.length c0_4) ∧ w12.cell? ⟨gb387, 5, none⟩ = some (.slice A0_5 l0_5.length c0_5) := hS_
 obtain ⟨Ao13, co13, eo13⟩ := Kd.R_slice HO394.out
 (first | subst eo13 | (injection eo13 with f1_ f2_ f3_; have f4_ := f1_.symm; have f5_ := f3_.symm; clear f1_ f2_ f3_; subst f4_; subst f5_))
 obtain ⟨Ao14, co14, eo14⟩ := Kd.R_slice HO391.out
 (first | subst eo14 | (injection eo14 with f1_ f2_ f3_; have f4_ := f1_.symm; have f5_ := f3_.symm; clear f1_ f2_ f3_; subst f4_; subst f5_))
 refine norm_ (a' := ?_) ?_ ?_
 rotate_left
 ·simp only [putAll, Act.put, List.setIfInBounds_toArray, List.set_cons_zero, List.set_cons_succ]
  rfl
 refine one_ (i := 12) (N := none) (tf 13 0) rfl rfl (one_of HT_.out (by kernel_rfl)) (by decide) (fun K hK => ?_)
 have hs15 : w12.cell? ⟨gb395, 0, none⟩ = some (.string (⟨#[]⟩ : ByteArray)) := (blk_cell BK395.out 0).trans rfl
 have hfs15 := blk_frozen BK395.out 0
 have hns15_0 := NB387_395.out
 have hns15_1 := NB388_395.out
 have hms15_0 := NB395_387.out
 have hms15_1 := NB395_388.out
 have hs16 : w12.cell? ⟨gb395, 1, none⟩ = some (.slice none 0 0) := (blk_cell BK395.out 1).trans rfl
 have hfs16 := blk_frozen BK395.out 1
 have hns16_0 := NB387_395.out
 have hns16_1 := NB388_395.out
 have hms16_0 := NB395_387.out
 have hms16_1 := NB395_388.out
 have hs17 : w12.cell? ⟨gb395, 2, none⟩ = some (.string (⟨#[]⟩ : ByteArray)) := (blk_cell BK395.out 2).trans rfl
 have hfs17 := blk_frozen BK395.out 2
 have hns17_0 := NB387_395.out
 have hns17_1 := NB388_395.out
 have hms17_0 := NB395_387.out
 have hms17_1 := NB395_388.out
 have hs18 : w12.cell? ⟨gb395, 3, none⟩ = some (.slice none 0 0) := (blk_cell BK395.out 3).trans rfl
 have hfs18 := blk_frozen BK395.out 3
 have hns18_0 := NB387_395.out
 have hns18_1 := NB388_395.out
 have hms18_0 := NB395_387.out
 have hms18_1 := NB395_388.out
 have hs19 : w12.cell? ⟨gb395, 4, none⟩ = some (.slice none 0 0) := (blk_cell BK395.out 4).trans rfl
 have hfs19 := blk_frozen BK395.out 4
 have hns19_0 := NB387_395.out
 have hns19_1 := NB388_395.out
 have hms19_0 := NB395_387.out
 have hms19_1 := NB395_388.out
 have hs20 : w12.cell? ⟨gb395, 5, none⟩ = some (.slice none 0 0) := (blk_cell BK395.out 5).trans rfl
 have hfs20 := blk_frozen BK395.out 5
 have hns20_0 := NB387_395.out
 have hns20_1 := NB388_395.out
 have hms20_0 := NB395_387.out
 have hms20_1 := NB395_388.out
 refine skip_ (w1 := ?_) (by rfl) rfl ?_ ?_
 rotate_left
 ·go_simp
  rfl
 refine hK.out _ _ ⟨((cell_far (p := ⟨gb395, _, none⟩) NB387_395.out _).trans (((cell_far (p := ⟨gb395, _, none⟩) NB387_395.out _).trans (((cell_far (p := ⟨gb395, _, none⟩) NB387_395.out _).trans (((cell_far (p := ⟨gb395, _, none⟩) NB387_395.out _).trans (((cell_far (p := ⟨gb395, _, none⟩) NB387_395.out _).trans (((cell_far (p := ⟨gb395, _, none⟩) NB387_395.out _).trans (hHeld.1)))))))))))), ((cell_far (p := ⟨gb395, _, none⟩) NB387_395.out _).trans (((cell_far (p := ⟨gb395, _, none⟩) NB387_395.out _).trans (((cell_far (p := ⟨gb395, _, none⟩) NB387_395.out _).trans (((cell_far (p := ⟨gb395, _, none⟩) NB387_395.out _).trans (((cell_far (p := ⟨gb395, _, none⟩) NB387_395.out _).trans (((cell_far (p := ⟨gb395, _, none⟩) NB387_395.out _).trans (hHeld.2.1)))))))))))), ((cell_far (p := ⟨gb395, _, none⟩) NB387_395.out _).trans (((cell_far (p := ⟨gb395, _, none⟩) NB387_395.out _).trans (((cell_far (p := ⟨gb395, _, none⟩) NB387_395.out _).trans (((cell_far (p := ⟨gb395, _, none⟩) NB387_395.out _).trans (((cell_far (p := ⟨gb395, _, none⟩) NB387_395.out _).trans (((cell_far (p := ⟨gb395, _, none⟩) NB387_395.out _).trans (hHeld.2.2.1)))))))))))), ((cell_far (p := ⟨gb395, _, none⟩) NB387_395.out _).trans (((cell_far (p := ⟨gb395, _, none⟩) NB387_395.out _).trans (((cell_far (p := ⟨gb395, _, none⟩) NB387_395.out _).trans (((cell_far (p := ⟨gb395, _, none⟩) NB387_395.out _).trans (((cell_far (p := ⟨gb395, _, none⟩) NB387_395.out _).trans (((cell_far (p := ⟨gb395, _, none⟩) NB387_395.out _).trans (hHeld.2.2.2.1)))))))))))), ((cell_far (p := ⟨gb395, _, none⟩) NB387_395.out _).trans (((cell_far (p := ⟨gb395, _, none⟩) NB387_395.out _).trans (((cell_far (p := ⟨gb395, _, none⟩) NB387_395.out _).trans (((cell_far (p := ⟨gb395, _, none⟩) NB387_395.out _).trans (((cell_far (p := ⟨gb395, _, none⟩) NB387_395.out _).trans (((cell_far (p := ⟨gb395, _, none⟩) NB387_395.out _).trans (hHeld.2.2.2.2.1)))))))))))), ((cell_far (p := ⟨gb395, _, none⟩) NB387_395.out _).trans (((cell_far (p := ⟨gb395, _, none⟩) NB387_395.out _).trans (((cell_far (p := ⟨gb395, _, none⟩) NB387_395.out _).trans (((cell_far (p := ⟨gb395, _, none⟩) NB387_395.out _).trans (((cell_far (p := ⟨gb395, _, none⟩) NB387_395.out _).trans (((cell_far (p := ⟨gb395, _, none⟩) NB387_395.out _).trans (hHeld.2.2.2.2.2))))))))))))⟩ (fun hHeld => ?_)
 clear hK K
 refine done_ (done_of HT_.out (by kernel_rfl)) ?_
 have hnb21 := NB387_388.out
 have hnc21 := NB388_387.out
 have hnb22 := NB387_395.out
 have hnc22 := NB395_387.out
 obtain ⟨hcz23_0, hcz23_1, hcz23_2, hcz23_3, hcz23_4, hcz23_5, hfz23_0, hfz23_1, hfz23_2, hfz23_3, hfz23_4, hfz23_5⟩ := bk6 BK387.out
 try go_wp2
 go_loopg [22] k (fun kq v22 w' => ∃ (x22_1 : Int) (x396004_1 : List (S47)) (u396004 : Value), v22 = .int .i64 x22_1 ∧ Aside0 (ir_cloneFun.l0 kq l0_4 (l0_4.length : Int) x22_1 a0_0 l0_1 a0_2 l0_3 l0_4 l0_5 a0_0 t389 a0_2 t392 x396004_1 = some (r1, r2, r3, r4, r5, r6)) ∧ Aside0 (kq ≤ k) ∧ Aside0 (Kd.R Kd.string 9 w' w.heap.size (fun k_ => some k_ ≠ ((.slice Ao13 t392.length co13) : Value).ownBlock) (.slice Ao14 t389.length co14) t389) ∧ Aside0 (Kd.R Kd.string 9 w' w.heap.size (fun k_ => some k_ ≠ ((.slice Ao14 t389.length co14) : Value).ownBlock) (.slice Ao13 t392.length co13) t392) ∧ Aside0 (Kd.S k47 47 w' w.heap.size (fun _ => True) u396004 x396004_1) ∧ Aside0 (w'.heap[gb387]? = some (.cells #[.string a0_0, (.slice A0_1 l0_1.length c0_1), .string a0_2, (.slice A0_3 l0_3.length c0_3), (.slice A0_4 l0_4.length c0_4), (.slice A0_5 l0_5.length c0_5)] 40 (0, 0))) ∧ Aside0 (w'.heap[gb388]? = some (.cells #[.string (⟨#[]⟩ : ByteArray), (.slice none 0 0), .string (⟨#[]⟩ : ByteArray), (.slice none 0 0), (.slice none 0 0), (.slice none 0 0)] 40 (0, 0))) ∧ Aside0 (w'.heap[gb395]? = some (.cells #[.string a0_0, (.slice Ao14 t389.length co14), .string a0_2, (.slice Ao13 t392.length co13), u396004, (.slice none 0 0)] 40 (0, 0))) ∧ Aside0 (Below w.heap.size w w'))
 case atStart => exact ⟨(0), (([] : List (S47))), (.slice none 0 0), (bq73), H', ⟨Nat.le_refl _⟩, ⟨by (with_reducible repeat (first | apply Kd.R_alloc | apply Kd.R_drewN | apply Kd.R_drew)); exact Kd.R_mono (Kd.R_far (p := ⟨gb395, 5, none⟩) (Kd.R_far (p := ⟨gb395, 4, none⟩) (Kd.R_far (p := ⟨gb395, 3, none⟩) (Kd.R_far (p := ⟨gb395, 2, none⟩) (Kd.R_far (p := ⟨gb395, 1, none⟩) (Kd.R_far (p := ⟨gb395, 0, none⟩) (Kd.R_types HO391.out BK395.out (by decide)) (fun _ hk => hk.2) (.string a0_0)) (fun _ hk => hk.2) (.slice Ao14 t389.length co14)) (fun _ hk => hk.2) (.string a0_2)) (fun _ hk => hk.2) (.slice Ao13 t392.length co13)) (fun _ hk => hk.2) (.slice none 0 0)) (fun _ hk => hk.2) (.slice none 0 0)) (fun _ hk => hk.1)⟩, ⟨by (with_reducible repeat (first | apply Kd.R_alloc | apply Kd.R_drewN | apply Kd.R_drew)); exact Kd.R_mono (Kd.R_far (p := ⟨gb395, 5, none⟩) (Kd.R_far (p := ⟨gb395, 4, none⟩) (Kd.R_far (p := ⟨gb395, 3, none⟩) (Kd.R_far (p := ⟨gb395, 2, none⟩) (Kd.R_far (p := ⟨gb395, 1, none⟩) (Kd.R_far (p := ⟨gb395, 0, none⟩) (Kd.R_types HO394.out BK395.out (by decide)) (fun _ hk => hk.2) (.string a0_0)) (fun _ hk => hk.2) (.slice Ao14 t389.length co14)) (fun _ hk => hk.2) (.string a0_2)) (fun _ hk => hk.2) (.slice Ao13 t392.length co13)) (fun _ hk => hk.2) (.slice none 0 0)) (fun _ hk => hk.2) (.slice none 0 0)) (fun _ hk => hk.1)⟩, ⟨by first | exact Kd.S_nil _ _ _ _ _ | exact Kd.N_nil _ _ _ _ _ | exact Kd.V_nil _ _ _ _ _ | exact Kd.Q_nil _ _ _ _ _ | exact Kd.R_nil _ _ _ _ _⟩, ⟨by (with_reducible repeat (first | refine blk_drewN ?_ _ | refine blk_drew ?_ | refine blk_alloc ?_ _)); refine blk_far ?_ NB387_395.out _; (with_reducible repeat (first | refine blk_drewN ?_ _ | refine blk_drew ?_ | refine blk_alloc ?_ _)); refine blk_far ?_ NB387_395.out _; (with_reducible repeat (first | refine blk_drewN ?_ _ | refine blk_drew ?_ | refine blk_alloc ?_ _)); refine blk_far ?_ NB387_395.out _; (with_reducible repeat (first | refine blk_drewN ?_ _ | refine blk_drew ?_ | refine blk_alloc ?_ _)); refine blk_far ?_ NB387_395.out _; (with_reducible repeat (first | refine blk_drewN ?_ _ | refine blk_drew ?_ | refine blk_alloc ?_ _)); refine blk_far ?_ NB387_395.out _; (with_reducible repeat (first | refine blk_drewN ?_ _ | refine blk_drew ?_ | refine blk_alloc ?_ _)); refine blk_far ?_ NB387_395.out _; (with_reducible repeat (first | refine blk_drewN ?_ _ | refine blk_drew ?_ | refine blk_alloc ?_ _)); exact BK387.out⟩, ⟨by (with_reducible repeat (first | refine blk_drewN ?_ _ | refine blk_drew ?_ | refine blk_alloc ?_ _)); refine blk_far ?_ NB388_395.out _; (with_reducible repeat (first | refine blk_drewN ?_ _ | refine blk_drew ?_ | refine blk_alloc ?_ _)); refine blk_far ?_ NB388_395.out _; (with_reducible repeat (first | refine blk_drewN ?_ _ | refine blk_drew ?_ | refine blk_alloc ?_ _)); refine blk_far ?_ NB388_395.out _; (with_reducible repeat (first | refine blk_drewN ?_ _ | refine blk_drew ?_ | refine blk_alloc ?_ _)); refine blk_far ?_ NB388_395.out _; (with_reducible repeat (first | refine blk_drewN ?_ _ | refine blk_drew ?_ | refine blk_alloc ?_ _)); refine blk_far ?_ NB388_395.out _; (with_reducible repeat (first | refine blk_drewN ?_ _ | refine blk_drew ?_ | refine blk_alloc ?_ _)); refine blk_far ?_ NB388_395.out _; (with_reducible repeat (first | refine blk_drewN ?_ _ | refine blk_drew ?_ | refine blk_alloc ?_ _)); exact BK388.out⟩, ⟨by (with_reducible repeat (first | refine blk_drewN ?_ _ | refine blk_drew ?_ | refine blk_alloc ?_ _)); refine blk_put (cs := #[.string a0_0, .slice Ao14 t389.length co14, .string a0_2, .slice Ao13 t392.length co13, .slice none 0 0, .slice none 0 0]) ?_ 5 _ rfl; (with_reducible repeat (first | refine blk_drewN ?_ _ | refine blk_drew ?_ | refine blk_alloc ?_ _)); refine blk_put (cs := #[.string a0_0, .slice Ao14 t389.length co14, .string a0_2, .slice Ao13 t392.length co13, .slice none 0 0, .slice none 0 0]) ?_ 4 _ rfl; (with_reducible repeat (first | refine blk_drewN ?_ _ | refine blk_drew ?_ | refine blk_alloc ?_ _)); refine blk_put (cs := #[.string a0_0, .slice Ao14 t389.length co14, .string a0_2, .slice none 0 0, .slice none 0 0, .slice none 0 0]) ?_ 3 _ rfl; (with_reducible repeat (first | refine blk_drewN ?_ _ | refine blk_drew ?_ | refine blk_alloc ?_ _)); refine blk_put (cs := #[.string a0_0, .slice Ao14 t389.length co14, .string (⟨#[]⟩ : ByteArray), .slice none 0 0, .slice none 0 0, .slice none 0 0]) ?_ 2 _ rfl; (with_reducible repeat (first | refine blk_drewN ?_ _ | refine blk_drew ?_ | refine blk_alloc ?_ _)); refine blk_put (cs := #[.string a0_0, .slice none 0 0, .string (⟨#[]⟩ : ByteArray), .slice none 0 0, .slice none 0 0, .slice none 0 0]) ?_ 1 _ rfl; (with_reducible repeat (first | refine blk_drewN ?_ _ | refine blk_drew ?_ | refine blk_alloc ?_ _)); refine blk_put (cs := #[.string (⟨#[]⟩ : ByteArray), .slice none 0 0, .string (⟨#[]⟩ : ByteArray), .slice none 0 0, .slice none 0 0, .slice none 0 0]) ?_ 0 _ rfl; (with_reducible repeat (first | refine blk_drewN ?_ _ | refine blk_drew ?_ | refine blk_alloc ?_ _)); exact BK395.out⟩, ⟨bq12⟩⟩
 case round =>
  clear H'
  try clear c2
  try clear p2
  try clear c4
  try clear c6
  try clear c21
  try clear c22
  try clear hcz23_0
  try clear hcz23_1
  try clear hcz23_2
  try clear hcz23_3
  try clear hcz23_4
  try clear hcz23_5
  try clear hfz23_0
  try clear hfz23_1
  try clear hfz23_2
  try clear hfz23_3
  try clear hfz23_4
  try clear hfz23_5
  obtain ⟨x22_1, x396004_1, u396004, rfl, HA, HK1, HO_396001, HO_396003, HO_396004, BK387, BK388, BK395, HB⟩ := hrel
  cases gk with
  | zero => exact absurd HA.out (by simp [ir_cloneFun.l0])
  | succ k1 =>
   have H := HA.out
   clear HA
   simp only [ir_cloneFun.l0] at H
   by_cases c24 : x22_1 < (l0_4.length : Int)
   ·rw [if_pos c24] at H
    have c24b0 := decide_eq_true c24
    clear c24
    by_cases c25 : 0 ≤ x22_1
    ·rw [if_pos c25] at H
     have c25b0 := decide_eq_true c25
     clear c25
     by_cases c26 : x22_1 < (l0_4.length : Int)
     ·rw [if_pos c26] at H
      have c26b0 := decide_eq_true c26
      clear c26
      replace H := Option.bind_eq_some_iff.mp H
      obtain ⟨t398, A270, H⟩ := H
      (try dsimp only at H)
      have A27 := Aside0.mk A270
      clear A270
      by_cases c28 : x396004_1.length < 1954687338268
      ·rw [if_pos c28] at H
       have LMc28 := Aside0.mk c28
       clear c28
       obtain ⟨y401, hy401⟩ : ∃ y_ : List (S47), y_ = (x396004_1 ++ [(⟨(rd_T47 l0_4 x22_1).f0, (rd_T47 l0_4 x22_1).f1, t398, (rd_T47 l0_4 x22_1).f3, (rd_T47 l0_4 x22_1).f4⟩ : S47)]) := ⟨_, rfl⟩
       replace H : (ir_cloneFun.l0 k1 l0_4 (l0_4.length : Int) (wrap64 (x22_1 + 1)) a0_0 l0_1 a0_2 l0_3 l0_4 l0_5 a0_0 t389 a0_2 t392 y401) = some (r1, r2, r3, r4, r5, r6) := by first | (rw [hy401]; with_reducible exact H) | (have H2_ := (Option.bind_some _ _).symm.trans H; rw [hy401]; with_reducible exact H2_) | (have H2_ := (Option.bind_some _ _).symm.trans H; with_reducible exact H2_) | with_reducible exact H | (rw [hy401]; exact H) | exact H
       have Ny401 := Aside0.mk hy401
       clear hy401
       have H' := Aside0.mk H
       clear H
       have p396 : 0 ≤ (x22_1 : Int) := of_decide_eq_true (bq72)
       have q396 : x22_1 < (l0_4.length : Int) := of_decide_eq_true (bq72)
       obtain ⟨ad396, A396_2, c396_2, e396, hx396_0, hx396_1, hx396_2, hx396_3, hx396_4, hl396_2, hi396_2⟩ := at_T47 HR0_4.out x22_1 p396 q396
       cases e396
       replace hx396_0 := (HB.out.cell (World.block_lt_of_cell? w _ hx396_0)).trans hx396_0
       replace hx396_1 := (HB.out.cell (World.block_lt_of_cell? w _ hx396_1)).trans hx396_1
       replace hx396_2 := (HB.out.cell (World.block_lt_of_cell? w _ hx396_2)).trans hx396_2
       replace hx396_3 := (HB.out.cell (World.block_lt_of_cell? w _ hx396_3)).trans hx396_3
       replace hx396_4 := (HB.out.cell (World.block_lt_of_cell? w _ hx396_4)).trans hx396_4
       have HR396_2 := Aside0.mk hi396_2
       have HC396_2 := Aside0.mk hl396_2
       clear hi396_2 hl396_2
       replace p396 := eq_true p396
       replace q396 := eq_true q396
       go_wp2_with (first | ((with_reducible refine gate_dst (N := 5) rfl ?_); refine box_event ?hg (N := 5) ?hd (cs := #[.int .i64 0, .string (⟨#[]⟩ : ByteArray), .slice none 0 0, .int .i64 0, .string (⟨#[]⟩ : ByteArray)]) (t := 47) ?hr ?_; (case hd => rfl); (case hg => rfl); (case hr => first | (go_simp; done) | (go_simp; rfl)); intro gb397 hg w29 hbox hb; have n0_ := Aside0.mk (Kd.R_below (bq52) hb); have n1_ := Aside0.mk (Kd.R_below (bq53) hb); have n2_ := Aside0.mk (Kd.S_below (Kd.S_elderB (bq54) gb397 (Nat.le_of_eq hg.symm)) hb); have n3_ := Aside0.mk (blkB BK387.out hb); have n4_ := Aside0.mk (blkB BK388.out hb); have n5_ := Aside0.mk (blkB BK395.out hb); have n6_ := Aside0.mk (below_step (bq12) hb); have n7_ := Aside0.mk (hbox); have n8_ := Aside0.mk ((bq2 : w.heap.size ≤ gb397)); have n9_ := Aside0.mk ((bq2 : w.heap.size ≤ gb397)); have n10_ := Aside0.mk ((bq84 : gb387 ≠ gb397)); have n11_ := Aside0.mk ((bq85 : gb397 ≠ gb387)); have n12_ := Aside0.mk ((bq86 : gb388 ≠ gb397)); have n13_ := Aside0.mk ((bq87 : gb397 ≠ gb388)); have n14_ := Aside0.mk ((by rw [hg]; exact Nat.ne_of_lt (blkL BK395.out) : gb395 ≠ gb397)); have n15_ := Aside0.mk ((by rw [hg]; exact Nat.ne_of_gt (blkL BK395.out) : gb397 ≠ gb395)); clear HO_396001; clear HO_396003; clear HO_396004; clear BK387; clear BK388; clear BK395; clear HB; have HO_396001 := n0_; have HO_396003 := n1_; have HO_396004 := n2_; have BK387 := n3_; have BK388 := n4_; have BK395 := n5_; have HB := n6_; have BK397 := n7_; have GW397 := n8_; have GE397 := n9_; have NB387_397 := n10_; have NB397_387 := n11_; have NB388_397 := n12_; have NB397_388 := n13_; have NB395_397 := n14_; have NB397_395 := n15_; clear n0_ n1_ n2_ n3_ n4_ n5_ n6_ n7_ n8_ n9_ n10_ n11_ n12_ n13_ n14_ n15_; clear hb hbox hg; have hnb30 := NB397_387.out; have hnc30 := NB387_397.out; have hnb31 := NB397_388.out; have hnc31 := NB388_397.out; have hnb32 := NB397_395.out; have hnc32 := NB395_397.out; obtain ⟨hcz33_0, hcz33_1, hcz33_2, hcz33_3, hcz33_4, hfz33_0, hfz33_1, hfz33_2, hfz33_3, hfz33_4⟩ := bk5 BK397.out) | ((with_reducible refine gate_callee (f := 61) rfl ?_); refine goesL_ (some 28) rfl rfl Tryd.func61 (by kernel_rfl) rfl #[.slice A396_2 ((rd_T47 l0_4 x22_1).f2).length c396_2] rfl (bq44) ?_; (with_reducible refine (slices_Clone_int_int.calls _ _ ((rd_T47 l0_4 x22_1).f2) t398 _ ?side1 ?side2 A27.out).mono ?_); (case side1 => exact Kd.C_below HR396_2.out (bq4)); (case side2 => exact HC396_2.out); rintro e w34 ⟨v399, rfl, ho0, hb⟩; refine ⟨_, rfl, ?_⟩; have n0_ := Aside0.mk (Kd.R_below (by (with_reducible repeat (first | apply Kd.R_alloc | apply Kd.R_drewN | apply Kd.R_drew)); exact (Kd.R_mono (Kd.R_far (p := ⟨gb397, 4, none⟩) (Kd.R_far (p := ⟨gb397, 3, none⟩) (Kd.R_far (p := ⟨gb397, 2, none⟩) (Kd.R_far (p := ⟨gb397, 1, none⟩) (Kd.R_far (p := ⟨gb397, 0, none⟩) (Kd.R_types HO_396001.out BK397.out (by decide)) (fun _ hk => hk.2) (.int .i64 ((rd_T47 l0_4 x22_1).f0))) (fun _ hk => hk.2) (.string ((rd_T47 l0_4 x22_1).f1))) (fun _ hk => hk.2) (.slice A396_2 ((rd_T47 l0_4 x22_1).f2).length c396_2)) (fun _ hk => hk.2) (.int .i64 ((rd_T47 l0_4 x22_1).f3))) (fun _ hk => hk.2) (.string ((rd_T47 l0_4 x22_1).f4))) (fun _ h_ => h_.1))) hb); have n1_ := Aside0.mk (Kd.R_below (by (with_reducible repeat (first | apply Kd.R_alloc | apply Kd.R_drewN | apply Kd.R_drew)); exact (Kd.R_mono (Kd.R_far (p := ⟨gb397, 4, none⟩) (Kd.R_far (p := ⟨gb397, 3, none⟩) (Kd.R_far (p := ⟨gb397, 2, none⟩) (Kd.R_far (p := ⟨gb397, 1, none⟩) (Kd.R_far (p := ⟨gb397, 0, none⟩) (Kd.R_types HO_396003.out BK397.out (by decide)) (fun _ hk => hk.2) (.int .i64 ((rd_T47 l0_4 x22_1).f0))) (fun _ hk => hk.2) (.string ((rd_T47 l0_4 x22_1).f1))) (fun _ hk => hk.2) (.slice A396_2 ((rd_T47 l0_4 x22_1).f2).length c396_2)) (fun _ hk => hk.2) (.int .i64 ((rd_T47 l0_4 x22_1).f3))) (fun _ hk => hk.2) (.string ((rd_T47 l0_4 x22_1).f4))) (fun _ h_ => h_.1))) hb); have n2_ := Aside0.mk (Kd.S_elder' (by (with_reducible repeat (first | apply Kd.S_alloc | apply Kd.S_drewN | apply Kd.S_drew)); exact (Kd.S_mono (Kd.S_far (p := ⟨gb397, 4, none⟩) (Kd.S_far (p := ⟨gb397, 3, none⟩) (Kd.S_far (p := ⟨gb397, 2, none⟩) (Kd.S_far (p := ⟨gb397, 1, none⟩) (Kd.S_far (p := ⟨gb397, 0, none⟩) (Kd.S_mono HO_396004.out (fun k_ hk => (⟨hk, hk.2⟩ : _ ∧ k_ ≠ gb397))) (fun _ hk => hk.2) (.int .i64 ((rd_T47 l0_4 x22_1).f0))) (fun _ hk => hk.2) (.string ((rd_T47 l0_4 x22_1).f1))) (fun _ hk => hk.2) (.slice A396_2 ((rd_T47 l0_4 x22_1).f2).length c396_2)) (fun _ hk => hk.2) (.int .i64 ((rd_T47 l0_4 x22_1).f3))) (fun _ hk => hk.2) (.string ((rd_T47 l0_4 x22_1).f4))) (fun _ h_ => h_.1))) (Kd.R_base ho0) hb); have n3_ := Aside0.mk (Kd.R_lower ho0 (below_size (bq4))); have n4_ := Aside0.mk (blk_below (g := gb387) (o := .cells #[.string a0_0, .slice A0_1 l0_1.length c0_1, .string a0_2, .slice A0_3 l0_3.length c0_3, .slice (some ad396) l0_4.length c0_4, .slice A0_5 l0_5.length c0_5] 40 (0, 0)) (by (with_reducible repeat (first | refine blk_drewN ?_ _ | refine blk_drew ?_ | refine blk_alloc ?_ _)); refine blk_far ?_ NB387_397.out _; (with_reducible repeat (first | refine blk_drewN ?_ _ | refine blk_drew ?_ | refine blk_alloc ?_ _)); refine blk_far ?_ NB387_397.out _; (with_reducible repeat (first | refine blk_drewN ?_ _ | refine blk_drew ?_ | refine blk_alloc ?_ _)); refine blk_far ?_ NB387_397.out _; (with_reducible repeat (first | refine blk_drewN ?_ _ | refine blk_drew ?_ | refine blk_alloc ?_ _)); refine blk_far ?_ NB387_397.out _; (with_reducible repeat (first | refine blk_drewN ?_ _ | refine blk_drew ?_ | refine blk_alloc ?_ _)); refine blk_far ?_ NB387_397.out _; (with_reducible repeat (first | refine blk_drewN ?_ _ | refine blk_drew ?_ | refine blk_alloc ?_ _)); exact BK387.out) hb); have n5_ := Aside0.mk (blk_below (g := gb388) (o := .cells #[.string (⟨#[]⟩ : ByteArray), .slice none 0 0, .string (⟨#[]⟩ : ByteArray), .slice none 0 0, .slice none 0 0, .slice none 0 0] 40 (0, 0)) (by (with_reducible repeat (first | refine blk_drewN ?_ _ | refine blk_drew ?_ | refine blk_alloc ?_ _)); refine blk_far ?_ NB388_397.out _; (with_reducible repeat (first | refine blk_drewN ?_ _ | refine blk_drew ?_ | refine blk_alloc ?_ _)); refine blk_far ?_ NB388_397.out _; (with_reducible repeat (first | refine blk_drewN ?_ _ | refine blk_drew ?_ | refine blk_alloc ?_ _)); refine blk_far ?_ NB388_397.out _; (with_reducible repeat (first | refine blk_drewN ?_ _ | refine blk_drew ?_ | refine blk_alloc ?_ _)); refine blk_far ?_ NB388_397.out _; (with_reducible repeat (first | refine blk_drewN ?_ _ | refine blk_drew ?_ | refine blk_alloc ?_ _)); refine blk_far ?_ NB388_397.out _; (with_reducible repeat (first | refine blk_drewN ?_ _ | refine blk_drew ?_ | refine blk_alloc ?_ _)); exact BK388.out) hb); have n6_ := Aside0.mk (blk_below (g := gb395) (o := .cells #[.string a0_0, .slice Ao14 t389.length co14, .string a0_2, .slice Ao13 t392.length co13, u396004, .slice none 0 0] 40 (0, 0)) (by (with_reducible repeat (first | refine blk_drewN ?_ _ | refine blk_drew ?_ | refine blk_alloc ?_ _)); refine blk_far ?_ NB395_397.out _; (with_reducible repeat (first | refine blk_drewN ?_ _ | refine blk_drew ?_ | refine blk_alloc ?_ _)); refine blk_far ?_ NB395_397.out _; (with_reducible repeat (first | refine blk_drewN ?_ _ | refine blk_drew ?_ | refine blk_alloc ?_ _)); refine blk_far ?_ NB395_397.out _; (with_reducible repeat (first | refine blk_drewN ?_ _ | refine blk_drew ?_ | refine blk_alloc ?_ _)); refine blk_far ?_ NB395_397.out _; (with_reducible repeat (first | refine blk_drewN ?_ _ | refine blk_drew ?_ | refine blk_alloc ?_ _)); refine blk_far ?_ NB395_397.out _; (with_reducible repeat (first | refine blk_drewN ?_ _ | refine blk_drew ?_ | refine blk_alloc ?_ _)); exact BK395.out) hb); have n7_ := Aside0.mk (blk_below (g := gb397) (o := .cells #[.int .i64 ((rd_T47 l0_4 x22_1).f0), .string ((rd_T47 l0_4 x22_1).f1), .slice A396_2 ((rd_T47 l0_4 x22_1).f2).length c396_2, .int .i64 ((rd_T47 l0_4 x22_1).f3), .string ((rd_T47 l0_4 x22_1).f4)] 47 (0, 0)) (by (with_reducible repeat (first | refine blk_drewN ?_ _ | refine blk_drew ?_ | refine blk_alloc ?_ _)); refine blk_put (cs := #[.int .i64 ((rd_T47 l0_4 x22_1).f0), .string ((rd_T47 l0_4 x22_1).f1), .slice A396_2 ((rd_T47 l0_4 x22_1).f2).length c396_2, .int .i64 ((rd_T47 l0_4 x22_1).f3), .string (⟨#[]⟩ : ByteArray)]) ?_ 4 _ rfl; (with_reducible repeat (first | refine blk_drewN ?_ _ | refine blk_drew ?_ | refine blk_alloc ?_ _)); refine blk_put (cs := #[.int .i64 ((rd_T47 l0_4 x22_1).f0), .string ((rd_T47 l0_4 x22_1).f1), .slice A396_2 ((rd_T47 l0_4 x22_1).f2).length c396_2, .int .i64 0, .string (⟨#[]⟩ : ByteArray)]) ?_ 3 _ rfl; (with_reducible repeat (first | refine blk_drewN ?_ _ | refine blk_drew ?_ | refine blk_alloc ?_ _)); refine blk_put (cs := #[.int .i64 ((rd_T47 l0_4 x22_1).f0), .string ((rd_T47 l0_4 x22_1).f1), .slice none 0 0, .int .i64 0, .string (⟨#[]⟩ : ByteArray)]) ?_ 2 _ rfl; (with_reducible repeat (first | refine blk_drewN ?_ _ | refine blk_drew ?_ | refine blk_alloc ?_ _)); refine blk_put (cs := #[.int .i64 ((rd_T47 l0_4 x22_1).f0), .string (⟨#[]⟩ : ByteArray), .slice none 0 0, .int .i64 0, .string (⟨#[]⟩ : ByteArray)]) ?_ 1 _ rfl; (with_reducible repeat (first | refine blk_drewN ?_ _ | refine blk_drew ?_ | refine blk_alloc ?_ _)); refine blk_put (cs := #[.int .i64 0, .string (⟨#[]⟩ : ByteArray), .slice none 0 0, .int .i64 0, .string (⟨#[]⟩ : ByteArray)]) ?_ 0 _ rfl; (with_reducible repeat (first | refine blk_drewN ?_ _ | refine blk_drew ?_ | refine blk_alloc ?_ _)); exact BK397.out) hb); have n8_ := Aside0.mk (below_step (bq4) hb); clear HO_396001; clear HO_396003; clear HO_396004; clear BK387; clear BK388; clear BK395; clear BK397; clear HB; have HO_396001 := n0_; have HO_396003 := n1_; have HO_396004 := n2_; have HO400 := n3_; have BK387 := n4_; have BK388 := n5_; have BK395 := n6_; have BK397 := n7_; have HB := n8_; clear n0_ n1_ n2_ n3_ n4_ n5_ n6_ n7_ n8_; (try clear hb); (try clear hb2); (try clear hk); (try clear hi); (try clear ho0); obtain ⟨Ao35, co35, eo35⟩ := Kd.R_slice HO400.out; subst eo35; obtain ⟨hcz36_0, hcz36_1, hcz36_2, hcz36_3, hcz36_4, hfz36_0, hfz36_1, hfz36_2, hfz36_3, hfz36_4⟩ := bk5 BK397.out) | ((with_reducible refine gate_store (t := 42) (p := 29) rfl ?_); refine store_event (t := 42) (p := 29) (v := ?vo_w37) (w1 := (w34.setCell ⟨gb397, 2, none⟩ (.slice Ao35 t398.length co35))) ?hg ?ho ?hn ?hr ?_; (case ho => rfl); (case hg => rfl); (case hn => rfl); (case hr => first | (go_simp; done) | (go_simp; rfl)); intro w37 hw; have n0_ : Aside0 (Kd.R Kd.string 9 w37 w.heap.size (fun k_ => some k_ ≠ (.slice Ao13 t392.length co13 : Value).ownBlock) (.slice Ao14 t389.length co14) t389) := ⟨(by rw [hw]; exact (by (with_reducible repeat (first | apply Kd.R_alloc | apply Kd.R_drewN | apply Kd.R_drew)); exact Kd.R_mono (Kd.R_far (p := ⟨gb397, 2, none⟩) (Kd.R_types HO_396001.out BK397.out (by decide)) (fun _ hk => hk.2) (.slice Ao35 t398.length co35)) (fun _ hk => hk.1)))⟩; have n1_ : Aside0 (Kd.R Kd.string 9 w37 w.heap.size (fun k_ => some k_ ≠ (.slice Ao14 t389.length co14 : Value).ownBlock) (.slice Ao13 t392.length co13) t392) := ⟨(by rw [hw]; exact (by (with_reducible repeat (first | apply Kd.R_alloc | apply Kd.R_drewN | apply Kd.R_drew)); exact Kd.R_mono (Kd.R_far (p := ⟨gb397, 2, none⟩) (Kd.R_types HO_396003.out BK397.out (by decide)) (fun _ hk => hk.2) (.slice Ao35 t398.length co35)) (fun _ hk => hk.1)))⟩; have n2_ : Aside0 (Kd.S k47 47 w37 w.heap.size (fun k_ => some k_ ≠ (.slice Ao35 t398.length co35 : Value).ownBlock ∧ k_ ≠ gb397) u396004 x396004_1) := ⟨(by rw [hw]; exact (by (with_reducible repeat (first | apply Kd.S_alloc | apply Kd.S_drewN | apply Kd.S_drew)); exact Kd.S_mono (Kd.S_far (p := ⟨gb397, 2, none⟩) (Kd.S_mono HO_396004.out (fun k_ hk => (⟨hk, hk.1.2⟩ : _ ∧ k_ ≠ gb397))) (fun _ hk => hk.2) (.slice Ao35 t398.length co35)) (fun _ hk => ⟨hk.1.2, hk.1.1.2⟩)))⟩; have n3_ : Aside0 (Kd.R (Kd.int .i64) 3 w37 w.heap.size (fun _ => True) (.slice Ao35 t398.length co35) t398) := ⟨(by rw [hw]; exact (by (with_reducible repeat (first | apply Kd.R_alloc | apply Kd.R_drewN | apply Kd.R_drew)); exact Kd.R_mono (Kd.R_far (p := ⟨gb397, 2, none⟩) (Kd.R_types HO400.out BK397.out (by decide)) (fun _ hk => hk.2) (.slice Ao35 t398.length co35)) (fun _ hk => trivial)))⟩; have n4_ : Aside0 (w37.heap[gb387]? = some (.cells #[.string a0_0, .slice A0_1 l0_1.length c0_1, .string a0_2, .slice A0_3 l0_3.length c0_3, .slice (some ad396) l0_4.length c0_4, .slice A0_5 l0_5.length c0_5] 40 (0, 0))) := ⟨(by rw [hw]; exact (by (with_reducible repeat (first | refine blk_drewN ?_ _ | refine blk_drew ?_ | refine blk_alloc ?_ _)); refine blk_far ?_ NB387_397.out _; (with_reducible repeat (first | refine blk_drewN ?_ _ | refine blk_drew ?_ | refine blk_alloc ?_ _)); exact BK387.out))⟩; have n5_ : Aside0 (w37.heap[gb388]? = some (.cells #[.string (⟨#[]⟩ : ByteArray), .slice none 0 0, .string (⟨#[]⟩ : ByteArray), .slice none 0 0, .slice none 0 0, .slice none 0 0] 40 (0, 0))) := ⟨(by rw [hw]; exact (by (with_reducible repeat (first | refine blk_drewN ?_ _ | refine blk_drew ?_ | refine blk_alloc ?_ _)); refine blk_far ?_ NB388_397.out _; (with_reducible repeat (first | refine blk_drewN ?_ _ | refine blk_drew ?_ | refine blk_alloc ?_ _)); exact BK388.out))⟩; have n6_ : Aside0 (w37.heap[gb395]? = some (.cells #[.string a0_0, .slice Ao14 t389.length co14, .string a0_2, .slice Ao13 t392.length co13, u396004, .slice none 0 0] 40 (0, 0))) := ⟨(by rw [hw]; exact (by (with_reducible repeat (first | refine blk_drewN ?_ _ | refine blk_drew ?_ | refine blk_alloc ?_ _)); refine blk_far ?_ NB395_397.out _; (with_reducible repeat (first | refine blk_drewN ?_ _ | refine blk_drew ?_ | refine blk_alloc ?_ _)); exact BK395.out))⟩; have n7_ : Aside0 (w37.heap[gb397]? = some (.cells #[.int .i64 ((rd_T47 l0_4 x22_1).f0), .string ((rd_T47 l0_4 x22_1).f1), .slice Ao35 t398.length co35, .int .i64 ((rd_T47 l0_4 x22_1).f3), .string ((rd_T47 l0_4 x22_1).f4)] 47 (0, 0))) := ⟨(by rw [hw]; exact (by (with_reducible repeat (first | refine blk_drewN ?_ _ | refine blk_drew ?_ | refine blk_alloc ?_ _)); refine blk_put (cs := #[.int .i64 ((rd_T47 l0_4 x22_1).f0), .string ((rd_T47 l0_4 x22_1).f1), .slice A396_2 ((rd_T47 l0_4 x22_1).f2).length c396_2, .int .i64 ((rd_T47 l0_4 x22_1).f3), .string ((rd_T47 l0_4 x22_1).f4)]) ?_ 2 _ rfl; (with_reducible repeat (first | refine blk_drewN ?_ _ | refine blk_drew ?_ | refine blk_alloc ?_ _)); exact BK397.out))⟩; have n8_ : Aside0 (Below w.heap.size w w37) := ⟨(by rw [hw]; exact (bq4))⟩; clear hw; clear HO_396001; clear HO_396003; clear HO_396004; clear HO400; clear BK387; clear BK388; clear BK395; clear BK397; clear HB; have HO_396001 := n0_; have HO_396003 := n1_; have HO_396004 := n2_; have HO400 := n3_; have BK387 := n4_; have BK388 := n5_; have BK395 := n6_; have BK397 := n7_; have HB := n8_; clear n0_ n1_ n2_ n3_ n4_ n5_ n6_ n7_ n8_; have hnb38 := NB395_387.out; have hnc38 := NB387_395.out; have hnb39 := NB395_388.out; have hnc39 := NB388_395.out; obtain ⟨hcz40_0, hcz40_1, hcz40_2, hcz40_3, hcz40_4, hcz40_5, hfz40_0, hfz40_1, hfz40_2, hfz40_3, hfz40_4, hfz40_5⟩ := bk6 BK395.out; obtain ⟨hcz41_0, hcz41_1, hcz41_2, hcz41_3, hcz41_4, hfz41_0, hfz41_1, hfz41_2, hfz41_3, hfz41_4⟩ := bk5 BK397.out) | ((with_reducible refine gate_builtin (b := .append) (xs := #[.tmp 31, .tmp 33]) rfl ?_); at_builtin; refine Kd.S_append k47 (w0 := w) w.heap.size rfl (.tmp 31) (.tmp 33) 37 47 (.agg #[(.int .i64 0), (.string ⟨#[]⟩), (.slice none 0 0), (.int .i64 0), (.string ⟨#[]⟩)]) 72 rfl Tryd.underlying37 info47 rfl (by decide) (by omega) u396004 x396004_1 (⟨(rd_T47 l0_4 x22_1).f0, (rd_T47 l0_4 x22_1).f1, t398, (rd_T47 l0_4 x22_1).f3, (rd_T47 l0_4 x22_1).f4⟩ : S47) [.int .i64 ((rd_T47 l0_4 x22_1).f0), .string ((rd_T47 l0_4 x22_1).f1), .slice Ao35 t398.length co35, .int .i64 ((rd_T47 l0_4 x22_1).f3), .string ((rd_T47 l0_4 x22_1).f4)] (fun k_ => k_ ≠ gb397) (fun k_ => some k_ = (.slice Ao35 t398.length co35 : Value).ownBlock) rfl rfl ?aP (fun k_ hk_ => ((Kd.R_mono (ok' := fun k_ => ((fun k_ => k_ ≠ gb397)) k_ ∧ some k_ ≠ (u396004 : Value).ownBlock) (Kd.R_types (Kd.R_apart' (HO400.out) (Kd.S_typed HO_396004.out) (by decide)) BK397.out (by decide)) (fun k_ hk => ⟨hk.2, hk.1.2⟩))).1 k_ hk_.symm) ?aF ?aO ?aB ?aS ?aL ?_; (case aP => exact k47_mkM _ _ _ (⟨(rd_T47 l0_4 x22_1).f0, (rd_T47 l0_4 x22_1).f1, t398, (rd_T47 l0_4 x22_1).f3, (rd_T47 l0_4 x22_1).f4⟩ : S47) (Kd.R_mono (Kd.R_tight rfl (Kd.R_mono (ok' := fun k_ => ((fun k_ => k_ ≠ gb397)) k_ ∧ some k_ ≠ (u396004 : Value).ownBlock) (Kd.R_types (Kd.R_apart' (HO400.out) (Kd.S_typed HO_396004.out) (by decide)) BK397.out (by decide)) (fun k_ hk => ⟨hk.2, hk.1.2⟩))) (fun _ h_ => h_))); (case aB => exact (bq4)); (case aF => exact (fun k_ hk => Kd.freshB (g := gb397) (o := .cells #[.int .i64 ((rd_T47 l0_4 x22_1).f0), .string ((rd_T47 l0_4 x22_1).f1), .slice Ao35 t398.length co35, .int .i64 ((rd_T47 l0_4 x22_1).f3), .string ((rd_T47 l0_4 x22_1).f4)] 47 (0, 0)) (by (with_reducible repeat (first | refine blk_drewN ?_ _ | refine blk_drew ?_ | refine blk_alloc ?_ _)); exact BK397.out) k_ hk)); (case aO => exact (by (with_reducible repeat (first | apply Kd.S_alloc | apply Kd.S_drewN | apply Kd.S_drew)); exact Kd.S_mono HO_396004.out (fun k_ hk => ⟨hk.2, fun e_ => hk.1 e_⟩))); (case aS => exact (below_size (bq4))); (case aL => have := LMc28.out; omega); intro v402 w42 ho hb hg hat; rw [← Ny401.out] at ho; have n0_ := Aside0.mk (Kd.R_over' (bq52) (Kd.S_typed (bq54)) (by decide) hg); have n1_ := Aside0.mk (Kd.R_over' (bq53) (Kd.S_typed (bq54)) (by decide) hg); have n2_ := Aside0.mk (blkG BK387.out hg (Kd.S_ne HO_396004.out BK387.out (by decide))); have n3_ := Aside0.mk (blkG BK388.out hg (Kd.S_ne HO_396004.out BK388.out (by decide))); have n4_ := Aside0.mk (blkG BK395.out hg (Kd.S_ne HO_396004.out BK395.out (by decide))); have n5_ := Aside0.mk (blkG BK397.out hg (Kd.S_away HO_396004.out (fun _ hk => hk.2))); have n6_ := Aside0.mk (hb); have n7_ := Aside0.mk (ho); clear HO_396001; clear HO_396003; clear BK387; clear BK388; clear BK395; clear BK397; clear HB; clear HO_396004; clear HO400; have HO_396001 := n0_; have HO_396003 := n1_; have BK387 := n2_; have BK388 := n3_; have BK395 := n4_; have BK397 := n5_; have HB := n6_; have HO403 := n7_; clear n0_ n1_ n2_ n3_ n4_ n5_ n6_ n7_; clear ho hb hg hat; obtain ⟨Ao43, co43, eo43⟩ := Kd.S_slice HO403.out; subst eo43; obtain ⟨hcz44_0, hcz44_1, hcz44_2, hcz44_3, hcz44_4, hcz44_5, hfz44_0, hfz44_1, hfz44_2, hfz44_3, hfz44_4, hfz44_5⟩ := bk6 BK395.out))
       go_roundg k1
       case measure => have := HK1.out; omega
       case rel => exact ⟨(wrap64 (x22_1 + 1)), (y401), (.slice Ao43 y401.length co43), (bq73), H', ⟨by have := HK1.out; omega⟩, ⟨by (with_reducible repeat (first | apply Kd.R_alloc | apply Kd.R_drewN | apply Kd.R_drew)); exact Kd.R_mono (Kd.R_far (p := ⟨gb395, 4, none⟩) (Kd.R_types HO_396001.out BK395.out (by decide)) (fun _ hk => hk.2) (.slice Ao43 y401.length co43)) (fun _ hk => hk.1)⟩, ⟨by (with_reducible repeat (first | apply Kd.R_alloc | apply Kd.R_drewN | apply Kd.R_drew)); exact Kd.R_mono (Kd.R_far (p := ⟨gb395, 4, none⟩) (Kd.R_types HO_396003.out BK395.out (by decide)) (fun _ hk => hk.2) (.slice Ao43 y401.length co43)) (fun _ hk => hk.1)⟩, ⟨by (with_reducible repeat (first | apply Kd.S_alloc | apply Kd.S_drewN | apply Kd.S_drew)); exact Kd.S_mono (Kd.S_far (p := ⟨gb395, 4, none⟩) (Kd.S_types HO403.out BK395.out (by decide)) (fun _ hk => hk.2) (.slice Ao43 y401.length co43)) (fun _ hk => trivial)⟩, ⟨by (with_reducible repeat (first | refine blk_drewN ?_ _ | refine blk_drew ?_ | refine blk_alloc ?_ _)); refine blk_far ?_ NB387_395.out _; (with_reducible repeat (first | refine blk_drewN ?_ _ | refine blk_drew ?_ | refine blk_alloc ?_ _)); exact BK387.out⟩, ⟨by (with_reducible repeat (first | refine blk_drewN ?_ _ | refine blk_drew ?_ | refine blk_alloc ?_ _)); refine blk_far ?_ NB388_395.out _; (with_reducible repeat (first | refine blk_drewN ?_ _ | refine blk_drew ?_ | refine blk_alloc ?_ _)); exact BK388.out⟩, ⟨by (with_reducible repeat (first | refine blk_drewN ?_ _ | refine blk_drew ?_ | refine blk_alloc ?_ _)); refine blk_put (cs := #[.string a0_0, .slice Ao14 t389.length co14, .string a0_2, .slice Ao13 t392.length co13, u396004, .slice none 0 0]) ?_ 4 _ rfl; (with_reducible repeat (first | refine blk_drewN ?_ _ | refine blk_drew ?_ | refine blk_alloc ?_ _)); exact BK395.out⟩, ⟨bq4⟩⟩
      ·rw [if_neg c28] at H
       exact absurd H (by simp)
     ·rw [if_neg c26] at H
      exact absurd H (by simp)
    ·rw [if_neg c25] at H
     exact absurd H (by simp)
   ·rw [if_neg c24] at H
    have c24b0 := decide_eq_false c24
    clear c24
    have H' := Aside0.mk H
    clear H
    have hnb45 := NB387_388.out
    have hnc45 := NB388_387.out
    have hnb46 := NB387_395.out
    have hnc46 := NB395_387.out
    obtain ⟨hcz47_0, hcz47_1, hcz47_2, hcz47_3, hcz47_4, hcz47_5, hfz47_0, hfz47_1, hfz47_2, hfz47_3, hfz47_4, hfz47_5⟩ := bk6 BK387.out
    go_wp2
    go_loopg [40] k1 (fun kq v40 w' => ∃ (x40_2 : Int) (x396005_2 : List (S53)) (u396005 : Value), v40 = .int .i64 x40_2 ∧ Aside0 (ir_cloneFun.l1 kq l0_5 (l0_5.length : Int) x40_2 a0_0 t389 a0_2 t392 x396004_1 x396005_2 = some (r1, r2, r3, r4, r5, r6)) ∧ Aside0 (kq ≤ k1) ∧ Aside0 (Kd.R Kd.string 9 w' w.heap.size (fun k_ => some k_ ≠ ((.slice Ao13 t392.length co13) : Value).ownBlock) (.slice Ao14 t389.length co14) t389) ∧ Aside0 (Kd.R Kd.string 9 w' w.heap.size (fun k_ => some k_ ≠ ((.slice Ao14 t389.length co14) : Value).ownBlock) (.slice Ao13 t392.length co13) t392) ∧ Aside0 (Kd.S k47 47 w' w.heap.size (fun _ => True) u396004 x396004_1) ∧ Aside0 (Kd.S k53 53 w' w.heap.size (fun _ => True) u396005 x396005_2) ∧ Aside0 (w'.heap[gb387]? = some (.cells #[.string a0_0, (.slice A0_1 l0_1.length c0_1), .string a0_2, (.slice A0_3 l0_3.length c0_3), (.slice A0_4 l0_4.length c0_4), (.slice A0_5 l0_5.length c0_5)] 40 (0, 0))) ∧ Aside0 (w'.heap[gb388]? = some (.cells #[.string (⟨#[]⟩ : ByteArray), (.slice none 0 0), .string (⟨#[]⟩ : ByteArray), (.slice none 0 0), (.slice none 0 0), (.slice none 0 0)] 40 (0, 0))) ∧ Aside0 (w'.heap[gb395]? = some (.cells #[.string a0_0, (.slice Ao14 t389.length co14), .string a0_2, (.slice Ao13 t392.length co13), u396004, u396005] 40 (0, 0))) ∧ Aside0 (Below w.heap.size w w'))
    case atStart => exact ⟨(0), (([] : List (S53))), (.slice none 0 0), (bq73), H', ⟨Nat.le_refl _⟩, ⟨bq52⟩, ⟨bq53⟩, ⟨bq54⟩, ⟨by first | exact Kd.S_nil _ _ _ _ _ | exact Kd.N_nil _ _ _ _ _ | exact Kd.V_nil _ _ _ _ _ | exact Kd.Q_nil _ _ _ _ _ | exact Kd.R_nil _ _ _ _ _⟩, ⟨bq48⟩, ⟨bq49⟩, ⟨bq50⟩, ⟨bq12⟩⟩
    case round =>
     clear H'
     try clear c2
     try clear p2
     try clear c3
     try clear p3
     try clear q3
     try clear hx3
     try clear c4
     try clear c6
     try clear p6
     try clear c21
     try clear c22
     try clear c24
     try clear c24b0
     try clear c25
     try clear c25b0
     try clear c26
     try clear c26b0
     try clear c28
     try clear c30
     try clear c31
     try clear c32
     try clear c38
     try clear c39
     try clear p39
     try clear q39
     try clear hx39
     try clear c45
     try clear c46
     try clear hcz23_0
     try clear hcz23_1
     try clear hcz23_2
     try clear hcz23_3
     try clear hcz23_4
     try clear hcz23_5
     try clear hcz33_0
     try clear hcz33_1
     try clear hcz33_2
     try clear hcz33_3
     try clear hcz33_4
     try clear hcz36_0
     try clear hcz36_1
     try clear hcz36_2
     try clear hcz36_3
     try clear hcz36_4
     try clear hcz40_0
     try clear hcz40_1
     try clear hcz40_2
     try clear hcz40_3
     try clear hcz40_4
     try clear hcz40_5
     try clear hcz41_0
     try clear hcz41_1
     try clear hcz41_2
     try clear hcz41_3
     try clear hcz41_4
     try clear hcz44_0
     try clear hcz44_1
     try clear hcz44_2
     try clear hcz44_3
     try clear hcz44_4
     try clear hcz44_5
     try clear hcz47_0
     try clear hcz47_1
     try clear hcz47_2
     try clear hcz47_3
     try clear hcz47_4
     try clear hcz47_5
     try clear hfz23_0
     try clear hfz23_1
     try clear hfz23_2
     try clear hfz23_3
     try clear hfz23_4
     try clear hfz23_5
     try clear hfz33_0
     try clear hfz33_1
     try clear hfz33_2
     try clear hfz33_3
     try clear hfz33_4
     try clear hfz36_0
     try clear hfz36_1
     try clear hfz36_2
     try clear hfz36_3
     try clear hfz36_4
     try clear hfz40_0
     try clear hfz40_1
     try clear hfz40_2
     try clear hfz40_3
     try clear hfz40_4
     try clear hfz40_5
     try clear hfz41_0
     try clear hfz41_1
     try clear hfz41_2
     try clear hfz41_3
     try clear hfz41_4
     try clear hfz44_0
     try clear hfz44_1
     try clear hfz44_2
     try clear hfz44_3
     try clear hfz44_4
     try clear hfz44_5
     try clear hfz47_0
     try clear hfz47_1
     try clear hfz47_2
     try clear hfz47_3
     try clear hfz47_4
     try clear hfz47_5
     try clear hx396_0
     try clear hx396_1
     try clear hx396_2
     try clear hx396_3
     try clear hx396_4
     try clear p2
     try clear p396
     try clear q396
     obtain ⟨x40_2, x396005_2, u396005, rfl, HA, HK2, HO_396001, HO_396003, HO_396004, HO_396005, BK387, BK388, BK395, HB⟩ := hrel
     cases gk with
     | zero => exact absurd HA.out (by simp [ir_cloneFun.l1])
     | succ k2 =>
      have H := HA.out
      clear HA
      simp only [ir_cloneFun.l1] at H
      by_cases c48 : x40_2 < (l0_5.length : Int)
      ·rw [if_pos c48] at H
       have c48b0 := decide_eq_true c48
       clear c48
       by_cases c49 : 0 ≤ x40_2
       ·rw [if_pos c49] at H
        have c49b0 := decide_eq_true c49
        clear c49
        by_cases c50 : x40_2 < (l0_5.length : Int)
        ·rw [if_pos c50] at H
         have c50b0 := decide_eq_true c50
         clear c50
         replace H := Option.bind_eq_some_iff.mp H
         obtain ⟨t406, A510, H⟩ := H
         (try dsimp only at H)
         have A51 := Aside0.mk A510
         clear A510
         by_cases c52 : x396005_2.length < 2513169434916
         ·rw [if_pos c52] at H
          have LMc52 := Aside0.mk c52
          clear c52
          obtain ⟨y409, hy409⟩ : ∃ y_ : List (S53), y_ = (x396005_2 ++ [(⟨t406, (rd_T53 l0_5 x40_2).f1, (rd_T53 l0_5 x40_2).f2, (⟨(rd_T53 l0_5 x40_2).f3.f0, (rd_T53 l0_5 x40_2).f3.f1⟩ : S51)⟩ : S53)]) := ⟨_, rfl⟩
          replace H : (ir_cloneFun.l1 k2 l0_5 (l0_5.length : Int) (wrap64 (x40_2 + 1)) a0_0 t389 a0_2 t392 x396004_1 y409) = some (r1, r2, r3, r4, r5, r6) := by first | (rw [hy409]; with_reducible exact H) | (have H2_ := (Option.bind_some _ _).symm.trans H; rw [hy409]; with_reducible exact H2_) | (have H2_ := (Option.bind_some _ _).symm.trans H; with_reducible exact H2_) | with_reducible exact H | (rw [hy409]; exact H) | exact H
          have Ny409 := Aside0.mk hy409
          clear hy409
          have H' := Aside0.mk H
          clear H
          have p404 : 0 ≤ (x40_2 : Int) := of_decide_eq_true (bq72)
          have q404 : x40_2 < (l0_5.length : Int) := of_decide_eq_true (bq72)
          obtain ⟨ad404, A404_0, c404_0, e404, hx404_0, hx404_1, hx404_2, hx404_3, hx404_4, hl404_0, hi404_0⟩ := at_T53 HR0_5.out x40_2 p404 q404
          cases e404
          replace hx404_0 := (HB.out.cell (World.block_lt_of_cell? w _ hx404_0)).trans hx404_0
          replace hx404_1 := (HB.out.cell (World.block_lt_of_cell? w _ hx404_1)).trans hx404_1
          replace hx404_2 := (HB.out.cell (World.block_lt_of_cell? w _ hx404_2)).trans hx404_2
          replace hx404_3 := (HB.out.cell (World.block_lt_of_cell? w _ hx404_3)).trans hx404_3
          replace hx404_4 := (HB.out.cell (World.block_lt_of_cell? w _ hx404_4)).trans hx404_4
          have HR404_0 := Aside0.mk hi404_0
          have HC404_0 := Aside0.mk hl404_0
          clear hi404_0 hl404_0
          replace p404 := eq_true p404
          replace q404 := eq_true q404
          go_wp2_with (first | ((with_reducible refine gate_dst (N := 7) rfl ?_); refine box_event ?hg (N := 7) ?hd (cs := #[.slice none 0 0, .int .i64 0, .int .i64 0, .int .i64 0, .int .i64 0]) (t := 53) ?hr ?_; (case hd => rfl); (case hg => rfl); (case hr => first | (go_simp; done) | (go_simp; rfl)); intro gb405 hg w53 hbox hb; have n0_ := Aside0.mk (Kd.R_below (bq52) hb); have n1_ := Aside0.mk (Kd.R_below (bq53) hb); have n2_ := Aside0.mk (Kd.S_below (bq54) hb); have n3_ := Aside0.mk (Kd.S_below (Kd.S_elderB (bq55) gb405 (Nat.le_of_eq hg.symm)) hb); have n4_ := Aside0.mk (blkB BK387.out hb); have n5_ := Aside0.mk (blkB BK388.out hb); have n6_ := Aside0.mk (blkB BK395.out hb); have n7_ := Aside0.mk (below_step (bq12) hb); have n8_ := Aside0.mk (hbox); have n9_ := Aside0.mk ((bq2 : w.heap.size ≤ gb405)); have n10_ := Aside0.mk ((bq2 : w.heap.size ≤ gb405)); have n11_ := Aside0.mk ((bq84 : gb387 ≠ gb405)); have n12_ := Aside0.mk ((bq85 : gb405 ≠ gb387)); have n13_ := Aside0.mk ((bq86 : gb388 ≠ gb405)); have n14_ := Aside0.mk ((bq87 : gb405 ≠ gb388)); have n15_ := Aside0.mk ((by rw [hg]; exact Nat.ne_of_lt (blkL BK395.out) : gb395 ≠ gb405)); have n16_ := Aside0.mk ((by rw [hg]; exact Nat.ne_of_gt (blkL BK395.out) : gb405 ≠ gb395)); clear HO_396001; clear HO_396003; clear HO_396004; clear HO_396005; clear BK387; clear BK388; clear BK395; clear HB; have HO_396001 := n0_; have HO_396003 := n1_; have HO_396004 := n2_; have HO_396005 := n3_; have BK387 := n4_; have BK388 := n5_; have BK395 := n6_; have HB := n7_; have BK405 := n8_; have GW405 := n9_; have GE405 := n10_; have NB387_405 := n11_; have NB405_387 := n12_; have NB388_405 := n13_; have NB405_388 := n14_; have NB395_405 := n15_; have NB405_395 := n16_; clear n0_ n1_ n2_ n3_ n4_ n5_ n6_ n7_ n8_ n9_ n10_ n11_ n12_ n13_ n14_ n15_ n16_; clear hb hbox hg; have hnb54 := NB405_387.out; have hnc54 := NB387_405.out; have hnb55 := NB405_388.out; have hnc55 := NB388_405.out; have hnb56 := NB405_395.out; have hnc56 := NB395_405.out; obtain ⟨hcz57_0, hcz57_1, hcz57_2, hcz57_3, hcz57_4, hfz57_0, hfz57_1, hfz57_2, hfz57_3, hfz57_4⟩ := bk5 BK405.out) | ((with_reducible refine gate_callee (f := 61) rfl ?_); refine goesL_ (some 46) rfl rfl Tryd.func61 (by kernel_rfl) rfl #[.slice A404_0 ((rd_T53 l0_5 x40_2).f0).length c404_0] rfl (bq44) ?_; (with_reducible refine (slices_Clone_int_int.calls _ _ ((rd_T53 l0_5 x40_2).f0) t406 _ ?side1 ?side2 A51.out).mono ?_); (case side1 => exact Kd.C_below HR404_0.out (bq5)); (case side2 => exact HC404_0.out); rintro e w58 ⟨v407, rfl, ho0, hb⟩; refine ⟨_, rfl, ?_⟩; have n0_ := Aside0.mk (Kd.R_below (by (with_reducible repeat (first | apply Kd.R_alloc | apply Kd.R_drewN | apply Kd.R_drew)); exact (Kd.R_mono (Kd.R_far (p := ⟨gb405, 4, none⟩) (Kd.R_far (p := ⟨gb405, 3, none⟩) (Kd.R_far (p := ⟨gb405, 2, none⟩) (Kd.R_far (p := ⟨gb405, 1, none⟩) (Kd.R_far (p := ⟨gb405, 0, none⟩) (Kd.R_types HO_396001.out BK405.out (by decide)) (fun _ hk => hk.2) (.slice A404_0 ((rd_T53 l0_5 x40_2).f0).length c404_0)) (fun _ hk => hk.2) (.int .i64 ((rd_T53 l0_5 x40_2).f1))) (fun _ hk => hk.2) (.int .i64 ((rd_T53 l0_5 x40_2).f2))) (fun _ hk => hk.2) (.int .i64 ((rd_T53 l0_5 x40_2).f3.f0))) (fun _ hk => hk.2) (.int .i64 ((rd_T53 l0_5 x40_2).f3.f1))) (fun _ h_ => h_.1))) hb); have n1_ := Aside0.mk (Kd.R_below (by (with_reducible repeat (first | apply Kd.R_alloc | apply Kd.R_drewN | apply Kd.R_drew)); exact (Kd.R_mono (Kd.R_far (p := ⟨gb405, 4, none⟩) (Kd.R_far (p := ⟨gb405, 3, none⟩) (Kd.R_far (p := ⟨gb405, 2, none⟩) (Kd.R_far (p := ⟨gb405, 1, none⟩) (Kd.R_far (p := ⟨gb405, 0, none⟩) (Kd.R_types HO_396003.out BK405.out (by decide)) (fun _ hk => hk.2) (.slice A404_0 ((rd_T53 l0_5 x40_2).f0).length c404_0)) (fun _ hk => hk.2) (.int .i64 ((rd_T53 l0_5 x40_2).f1))) (fun _ hk => hk.2) (.int .i64 ((rd_T53 l0_5 x40_2).f2))) (fun _ hk => hk.2) (.int .i64 ((rd_T53 l0_5 x40_2).f3.f0))) (fun _ hk => hk.2) (.int .i64 ((rd_T53 l0_5 x40_2).f3.f1))) (fun _ h_ => h_.1))) hb); have n2_ := Aside0.mk (Kd.S_elder' (by (with_reducible repeat (first | apply Kd.S_alloc | apply Kd.S_drewN | apply Kd.S_drew)); exact (Kd.S_mono (Kd.S_far (p := ⟨gb405, 4, none⟩) (Kd.S_far (p := ⟨gb405, 3, none⟩) (Kd.S_far (p := ⟨gb405, 2, none⟩) (Kd.S_far (p := ⟨gb405, 1, none⟩) (Kd.S_far (p := ⟨gb405, 0, none⟩) (Kd.S_types HO_396004.out BK405.out (by decide)) (fun _ hk => hk.2) (.slice A404_0 ((rd_T53 l0_5 x40_2).f0).length c404_0)) (fun _ hk => hk.2) (.int .i64 ((rd_T53 l0_5 x40_2).f1))) (fun _ hk => hk.2) (.int .i64 ((rd_T53 l0_5 x40_2).f2))) (fun _ hk => hk.2) (.int .i64 ((rd_T53 l0_5 x40_2).f3.f0))) (fun _ hk => hk.2) (.int .i64 ((rd_T53 l0_5 x40_2).f3.f1))) (fun _ h_ => h_.1))) (Kd.R_base ho0) hb); have n3_ := Aside0.mk (Kd.S_elder' (by (with_reducible repeat (first | apply Kd.S_alloc | apply Kd.S_drewN | apply Kd.S_drew)); exact (Kd.S_mono (Kd.S_far (p := ⟨gb405, 4, none⟩) (Kd.S_far (p := ⟨gb405, 3, none⟩) (Kd.S_far (p := ⟨gb405, 2, none⟩) (Kd.S_far (p := ⟨gb405, 1, none⟩) (Kd.S_far (p := ⟨gb405, 0, none⟩) (Kd.S_mono HO_396005.out (fun k_ hk => (⟨hk, hk.2⟩ : _ ∧ k_ ≠ gb405))) (fun _ hk => hk.2) (.slice A404_0 ((rd_T53 l0_5 x40_2).f0).length c404_0)) (fun _ hk => hk.2) (.int .i64 ((rd_T53 l0_5 x40_2).f1))) (fun _ hk => hk.2) (.int .i64 ((rd_T53 l0_5 x40_2).f2))) (fun _ hk => hk.2) (.int .i64 ((rd_T53 l0_5 x40_2).f3.f0))) (fun _ hk => hk.2) (.int .i64 ((rd_T53 l0_5 x40_2).f3.f1))) (fun _ h_ => h_.1))) (Kd.R_base ho0) hb); have n4_ := Aside0.mk (Kd.R_lower ho0 (below_size (bq5))); have n5_ := Aside0.mk (blk_below (g := gb387) (o := .cells #[.string a0_0, .slice A0_1 l0_1.length c0_1, .string a0_2, .slice A0_3 l0_3.length c0_3, .slice A0_4 l0_4.length c0_4, .slice (some ad404) l0_5.length c0_5] 40 (0, 0)) (by (with_reducible repeat (first | refine blk_drewN ?_ _ | refine blk_drew ?_ | refine blk_alloc ?_ _)); refine blk_far ?_ NB387_405.out _; (with_reducible repeat (first | refine blk_drewN ?_ _ | refine blk_drew ?_ | refine blk_alloc ?_ _)); refine blk_far ?_ NB387_405.out _; (with_reducible repeat (first | refine blk_drewN ?_ _ | refine blk_drew ?_ | refine blk_alloc ?_ _)); refine blk_far ?_ NB387_405.out _; (with_reducible repeat (first | refine blk_drewN ?_ _ | refine blk_drew ?_ | refine blk_alloc ?_ _)); refine blk_far ?_ NB387_405.out _; (with_reducible repeat (first | refine blk_drewN ?_ _ | refine blk_drew ?_ | refine blk_alloc ?_ _)); refine blk_far ?_ NB387_405.out _; (with_reducible repeat (first | refine blk_drewN ?_ _ | refine blk_drew ?_ | refine blk_alloc ?_ _)); exact BK387.out) hb); have n6_ := Aside0.mk (blk_below (g := gb388) (o := .cells #[.string (⟨#[]⟩ : ByteArray), .slice none 0 0, .string (⟨#[]⟩ : ByteArray), .slice none 0 0, .slice none 0 0, .slice none 0 0] 40 (0, 0)) (by (with_reducible repeat (first | refine blk_drewN ?_ _ | refine blk_drew ?_ | refine blk_alloc ?_ _)); refine blk_far ?_ NB388_405.out _; (with_reducible repeat (first | refine blk_drewN ?_ _ | refine blk_drew ?_ | refine blk_alloc ?_ _)); refine blk_far ?_ NB388_405.out _; (with_reducible repeat (first | refine blk_drewN ?_ _ | refine blk_drew ?_ | refine blk_alloc ?_ _)); refine blk_far ?_ NB388_405.out _; (with_reducible repeat (first | refine blk_drewN ?_ _ | refine blk_drew ?_ | refine blk_alloc ?_ _)); refine blk_far ?_ NB388_405.out _; (with_reducible repeat (first | refine blk_drewN ?_ _ | refine blk_drew ?_ | refine blk_alloc ?_ _)); refine blk_far ?_ NB388_405.out _; (with_reducible repeat (first | refine blk_drewN ?_ _ | refine blk_drew ?_ | refine blk_alloc ?_ _)); exact BK388.out) hb); have n7_ := Aside0.mk (blk_below (g := gb395) (o := .cells #[.string a0_0, .slice Ao14 t389.length co14, .string a0_2, .slice Ao13 t392.length co13, u396004, u396005] 40 (0, 0)) (by (with_reducible repeat (first | refine blk_drewN ?_ _ | refine blk_drew ?_ | refine blk_alloc ?_ _)); refine blk_far ?_ NB395_405.out _; (with_reducible repeat (first | refine blk_drewN ?_ _ | refine blk_drew ?_ | refine blk_alloc ?_ _)); refine blk_far ?_ NB395_405.out _; (with_reducible repeat (first | refine blk_drewN ?_ _ | refine blk_drew ?_ | refine blk_alloc ?_ _)); refine blk_far ?_ NB395_405.out _; (with_reducible repeat (first | refine blk_drewN ?_ _ | refine blk_drew ?_ | refine blk_alloc ?_ _)); refine blk_far ?_ NB395_405.out _; (with_reducible repeat (first | refine blk_drewN ?_ _ | refine blk_drew ?_ | refine blk_alloc ?_ _)); refine blk_far ?_ NB395_405.out _; (with_reducible repeat (first | refine blk_drewN ?_ _ | refine blk_drew ?_ | refine blk_alloc ?_ _)); exact BK395.out) hb); have n8_ := Aside0.mk (blk_below (g := gb405) (o := .cells #[.slice A404_0 ((rd_T53 l0_5 x40_2).f0).length c404_0, .int .i64 ((rd_T53 l0_5 x40_2).f1), .int .i64 ((rd_T53 l0_5 x40_2).f2), .int .i64 ((rd_T53 l0_5 x40_2).f3.f0), .int .i64 ((rd_T53 l0_5 x40_2).f3.f1)] 53 (0, 0)) (by (with_reducible repeat (first | refine blk_drewN ?_ _ | refine blk_drew ?_ | refine blk_alloc ?_ _)); refine blk_put (cs := #[.slice A404_0 ((rd_T53 l0_5 x40_2).f0).length c404_0, .int .i64 ((rd_T53 l0_5 x40_2).f1), .int .i64 ((rd_T53 l0_5 x40_2).f2), .int .i64 ((rd_T53 l0_5 x40_2).f3.f0), .int .i64 0]) ?_ 4 _ rfl; (with_reducible repeat (first | refine blk_drewN ?_ _ | refine blk_drew ?_ | refine blk_alloc ?_ _)); refine blk_put (cs := #[.slice A404_0 ((rd_T53 l0_5 x40_2).f0).length c404_0, .int .i64 ((rd_T53 l0_5 x40_2).f1), .int .i64 ((rd_T53 l0_5 x40_2).f2), .int .i64 0, .int .i64 0]) ?_ 3 _ rfl; (with_reducible repeat (first | refine blk_drewN ?_ _ | refine blk_drew ?_ | refine blk_alloc ?_ _)); refine blk_put (cs := #[.slice A404_0 ((rd_T53 l0_5 x40_2).f0).length c404_0, .int .i64 ((rd_T53 l0_5 x40_2).f1), .int .i64 0, .int .i64 0, .int .i64 0]) ?_ 2 _ rfl; (with_reducible repeat (first | refine blk_drewN ?_ _ | refine blk_drew ?_ | refine blk_alloc ?_ _)); refine blk_put (cs := #[.slice A404_0 ((rd_T53 l0_5 x40_2).f0).length c404_0, .int .i64 0, .int .i64 0, .int .i64 0, .int .i64 0]) ?_ 1 _ rfl; (with_reducible repeat (first | refine blk_drewN ?_ _ | refine blk_drew ?_ | refine blk_alloc ?_ _)); refine blk_put (cs := #[.slice none 0 0, .int .i64 0, .int .i64 0, .int .i64 0, .int .i64 0]) ?_ 0 _ rfl; (with_reducible repeat (first | refine blk_drewN ?_ _ | refine blk_drew ?_ | refine blk_alloc ?_ _)); exact BK405.out) hb); have n9_ := Aside0.mk (below_step (bq5) hb); clear HO_396001; clear HO_396003; clear HO_396004; clear HO_396005; clear BK387; clear BK388; clear BK395; clear BK405; clear HB; have HO_396001 := n0_; have HO_396003 := n1_; have HO_396004 := n2_; have HO_396005 := n3_; have HO408 := n4_; have BK387 := n5_; have BK388 := n6_; have BK395 := n7_; have BK405 := n8_; have HB := n9_; clear n0_ n1_ n2_ n3_ n4_ n5_ n6_ n7_ n8_ n9_; (try clear hb); (try clear hb2); (try clear hk); (try clear hi); (try clear ho0); obtain ⟨Ao59, co59, eo59⟩ := Kd.R_slice HO408.out; subst eo59; obtain ⟨hcz60_0, hcz60_1, hcz60_2, hcz60_3, hcz60_4, hfz60_0, hfz60_1, hfz60_2, hfz60_3, hfz60_4⟩ := bk5 BK405.out) | ((with_reducible refine gate_store (t := 42) (p := 47) rfl ?_); refine store_event (t := 42) (p := 47) (v := ?vo_w61) (w1 := (w58.setCell ⟨gb405, 0, none⟩ (.slice Ao59 t406.length co59))) ?hg ?ho ?hn ?hr ?_; (case ho => rfl); (case hg => rfl); (case hn => rfl); (case hr => first | (go_simp; done) | (go_simp; rfl)); intro w61 hw; have n0_ : Aside0 (Kd.R Kd.string 9 w61 w.heap.size (fun k_ => some k_ ≠ (.slice Ao13 t392.length co13 : Value).ownBlock) (.slice Ao14 t389.length co14) t389) := ⟨(by rw [hw]; exact (by (with_reducible repeat (first | apply Kd.R_alloc | apply Kd.R_drewN | apply Kd.R_drew)); exact Kd.R_mono (Kd.R_far (p := ⟨gb405, 0, none⟩) (Kd.R_types HO_396001.out BK405.out (by decide)) (fun _ hk => hk.2) (.slice Ao59 t406.length co59)) (fun _ hk => hk.1)))⟩; have n1_ : Aside0 (Kd.R Kd.string 9 w61 w.heap.size (fun k_ => some k_ ≠ (.slice Ao14 t389.length co14 : Value).ownBlock) (.slice Ao13 t392.length co13) t392) := ⟨(by rw [hw]; exact (by (with_reducible repeat (first | apply Kd.R_alloc | apply Kd.R_drewN | apply Kd.R_drew)); exact Kd.R_mono (Kd.R_far (p := ⟨gb405, 0, none⟩) (Kd.R_types HO_396003.out BK405.out (by decide)) (fun _ hk => hk.2) (.slice Ao59 t406.length co59)) (fun _ hk => hk.1)))⟩; have n2_ : Aside0 (Kd.S k47 47 w61 w.heap.size (fun k_ => some k_ ≠ (.slice Ao59 t406.length co59 : Value).ownBlock) u396004 x396004_1) := ⟨(by rw [hw]; exact (by (with_reducible repeat (first | apply Kd.S_alloc | apply Kd.S_drewN | apply Kd.S_drew)); exact Kd.S_mono (Kd.S_far (p := ⟨gb405, 0, none⟩) (Kd.S_types HO_396004.out BK405.out (by decide)) (fun _ hk => hk.2) (.slice Ao59 t406.length co59)) (fun _ hk => hk.1.2)))⟩; have n3_ : Aside0 (Kd.S k53 53 w61 w.heap.size (fun k_ => some k_ ≠ (.slice Ao59 t406.length co59 : Value).ownBlock ∧ k_ ≠ gb405) u396005 x396005_2) := ⟨(by rw [hw]; exact (by (with_reducible repeat (first | apply Kd.S_alloc | apply Kd.S_drewN | apply Kd.S_drew)); exact Kd.S_mono (Kd.S_far (p := ⟨gb405, 0, none⟩) (Kd.S_mono HO_396005.out (fun k_ hk => (⟨hk, hk.1.2⟩ : _ ∧ k_ ≠ gb405))) (fun _ hk => hk.2) (.slice Ao59 t406.length co59)) (fun _ hk => ⟨hk.1.2, hk.1.1.2⟩)))⟩; have n4_ : Aside0 (Kd.R (Kd.int .i64) 3 w61 w.heap.size (fun _ => True) (.slice Ao59 t406.length co59) t406) := ⟨(by rw [hw]; exact (by (with_reducible repeat (first | apply Kd.R_alloc | apply Kd.R_drewN | apply Kd.R_drew)); exact Kd.R_mono (Kd.R_far (p := ⟨gb405, 0, none⟩) (Kd.R_types HO408.out BK405.out (by decide)) (fun _ hk => hk.2) (.slice Ao59 t406.length co59)) (fun _ hk => trivial)))⟩; have n5_ : Aside0 (w61.heap[gb387]? = some (.cells #[.string a0_0, .slice A0_1 l0_1.length c0_1, .string a0_2, .slice A0_3 l0_3.length c0_3, .slice A0_4 l0_4.length c0_4, .slice (some ad404) l0_5.length c0_5] 40 (0, 0))) := ⟨(by rw [hw]; exact (by (with_reducible repeat (first | refine blk_drewN ?_ _ | refine blk_drew ?_ | refine blk_alloc ?_ _)); refine blk_far ?_ NB387_405.out _; (with_reducible repeat (first | refine blk_drewN ?_ _ | refine blk_drew ?_ | refine blk_alloc ?_ _)); exact BK387.out))⟩; have n6_ : Aside0 (w61.heap[gb388]? = some (.cells #[.string (⟨#[]⟩ : ByteArray), .slice none 0 0, .string (⟨#[]⟩ : ByteArray), .slice none 0 0, .slice none 0 0, .slice none 0 0] 40 (0, 0))) := ⟨(by rw [hw]; exact (by (with_reducible repeat (first | refine blk_drewN ?_ _ | refine blk_drew ?_ | refine blk_alloc ?_ _)); refine blk_far ?_ NB388_405.out _; (with_reducible repeat (first | refine blk_drewN ?_ _ | refine blk_drew ?_ | refine blk_alloc ?_ _)); exact BK388.out))⟩; have n7_ : Aside0 (w61.heap[gb395]? = some (.cells #[.string a0_0, .slice Ao14 t389.length co14, .string a0_2, .slice Ao13 t392.length co13, u396004, u396005] 40 (0, 0))) := ⟨(by rw [hw]; exact (by (with_reducible repeat (first | refine blk_drewN ?_ _ | refine blk_drew ?_ | refine blk_alloc ?_ _)); refine blk_far ?_ NB395_405.out _; (with_reducible repeat (first | refine blk_drewN ?_ _ | refine blk_drew ?_ | refine blk_alloc ?_ _)); exact BK395.out))⟩; have n8_ : Aside0 (w61.heap[gb405]? = some (.cells #[.slice Ao59 t406.length co59, .int .i64 ((rd_T53 l0_5 x40_2).f1), .int .i64 ((rd_T53 l0_5 x40_2).f2), .int .i64 ((rd_T53 l0_5 x40_2).f3.f0), .int .i64 ((rd_T53 l0_5 x40_2).f3.f1)] 53 (0, 0))) := ⟨(by rw [hw]; exact (by (with_reducible repeat (first | refine blk_drewN ?_ _ | refine blk_drew ?_ | refine blk_alloc ?_ _)); refine blk_put (cs := #[.slice A404_0 ((rd_T53 l0_5 x40_2).f0).length c404_0, .int .i64 ((rd_T53 l0_5 x40_2).f1), .int .i64 ((rd_T53 l0_5 x40_2).f2), .int .i64 ((rd_T53 l0_5 x40_2).f3.f0), .int .i64 ((rd_T53 l0_5 x40_2).f3.f1)]) ?_ 0 _ rfl; (with_reducible repeat (first | refine blk_drewN ?_ _ | refine blk_drew ?_ | refine blk_alloc ?_ _)); exact BK405.out))⟩; have n9_ : Aside0 (Below w.heap.size w w61) := ⟨(by rw [hw]; exact (bq5))⟩; clear hw; clear HO_396001; clear HO_396003; clear HO_396004; clear HO_396005; clear HO408; clear BK387; clear BK388; clear BK395; clear BK405; clear HB; have HO_396001 := n0_; have HO_396003 := n1_; have HO_396004 := n2_; have HO_396005 := n3_; have HO408 := n4_; have BK387 := n5_; have BK388 := n6_; have BK395 := n7_; have BK405 := n8_; have HB := n9_; clear n0_ n1_ n2_ n3_ n4_ n5_ n6_ n7_ n8_ n9_; have hnb62 := NB395_387.out; have hnc62 := NB387_395.out; have hnb63 := NB395_388.out; have hnc63 := NB388_395.out; obtain ⟨hcz64_0, hcz64_1, hcz64_2, hcz64_3, hcz64_4, hcz64_5, hfz64_0, hfz64_1, hfz64_2, hfz64_3, hfz64_4, hfz64_5⟩ := bk6 BK395.out; obtain ⟨hcz65_0, hcz65_1, hcz65_2, hcz65_3, hcz65_4, hfz65_0, hfz65_1, hfz65_2, hfz65_3, hfz65_4⟩ := bk5 BK405.out) | ((with_reducible refine gate_builtin (b := .append) (xs := #[.tmp 49, .tmp 51]) rfl ?_); at_builtin; refine Kd.S_append k53 (w0 := w) w.heap.size rfl (.tmp 49) (.tmp 51) 38 53 (.agg #[(.slice none 0 0), (.int .i64 0), (.int .i64 0), (.int .i64 0), (.int .i64 0)]) 56 rfl Tryd.underlying38 info53 rfl (by decide) (by omega) u396005 x396005_2 (⟨t406, (rd_T53 l0_5 x40_2).f1, (rd_T53 l0_5 x40_2).f2, (⟨(rd_T53 l0_5 x40_2).f3.f0, (rd_T53 l0_5 x40_2).f3.f1⟩ : S51)⟩ : S53) [.slice Ao59 t406.length co59, .int .i64 ((rd_T53 l0_5 x40_2).f1), .int .i64 ((rd_T53 l0_5 x40_2).f2), .int .i64 ((rd_T53 l0_5 x40_2).f3.f0), .int .i64 ((rd_T53 l0_5 x40_2).f3.f1)] (fun k_ => k_ ≠ gb405) (fun k_ => some k_ = (.slice Ao59 t406.length co59 : Value).ownBlock) rfl rfl ?aP (fun k_ hk_ => ((Kd.R_mono (ok' := fun k_ => ((fun k_ => k_ ≠ gb405)) k_ ∧ some k_ ≠ (u396005 : Value).ownBlock) (Kd.R_types (Kd.R_apart' (HO408.out) (Kd.S_typed HO_396005.out) (by decide)) BK405.out (by decide)) (fun k_ hk => ⟨hk.2, hk.1.2⟩))).1 k_ hk_.symm) ?aF ?aO ?aB ?aS ?aL ?_; (case aP => exact k53_mkM _ _ _ (⟨t406, (rd_T53 l0_5 x40_2).f1, (rd_T53 l0_5 x40_2).f2, (⟨(rd_T53 l0_5 x40_2).f3.f0, (rd_T53 l0_5 x40_2).f3.f1⟩ : S51)⟩ : S53) (Kd.R_mono (Kd.R_tight rfl (Kd.R_mono (ok' := fun k_ => ((fun k_ => k_ ≠ gb405)) k_ ∧ some k_ ≠ (u396005 : Value).ownBlock) (Kd.R_types (Kd.R_apart' (HO408.out) (Kd.S_typed HO_396005.out) (by decide)) BK405.out (by decide)) (fun k_ hk => ⟨hk.2, hk.1.2⟩))) (fun _ h_ => h_))); (case aB => exact (bq5)); (case aF => exact (fun k_ hk => Kd.freshB (g := gb405) (o := .cells #[.slice Ao59 t406.length co59, .int .i64 ((rd_T53 l0_5 x40_2).f1), .int .i64 ((rd_T53 l0_5 x40_2).f2), .int .i64 ((rd_T53 l0_5 x40_2).f3.f0), .int .i64 ((rd_T53 l0_5 x40_2).f3.f1)] 53 (0, 0)) (by (with_reducible repeat (first | refine blk_drewN ?_ _ | refine blk_drew ?_ | refine blk_alloc ?_ _)); exact BK405.out) k_ hk)); (case aO => exact (by (with_reducible repeat (first | apply Kd.S_alloc | apply Kd.S_drewN | apply Kd.S_drew)); exact Kd.S_mono HO_396005.out (fun k_ hk => ⟨hk.2, fun e_ => hk.1 e_⟩))); (case aS => exact (below_size (bq5))); (case aL => have := LMc52.out; omega); intro v410 w66 ho hb hg hat; rw [← Ny409.out] at ho; have n0_ := Aside0.mk (Kd.R_over' (bq52) (Kd.S_typed (bq55)) (by decide) hg); have n1_ := Aside0.mk (Kd.R_over' (bq53) (Kd.S_typed (bq55)) (by decide) hg); have n2_ := Aside0.mk (Kd.S_over' (bq54) (Kd.S_typed (bq55)) (by decide) hg); have n3_ := Aside0.mk (blkG BK387.out hg (Kd.S_ne HO_396005.out BK387.out (by decide))); have n4_ := Aside0.mk (blkG BK388.out hg (Kd.S_ne HO_396005.out BK388.out (by decide))); have n5_ := Aside0.mk (blkG BK395.out hg (Kd.S_ne HO_396005.out BK395.out (by decide))); have n6_ := Aside0.mk (blkG BK405.out hg (Kd.S_away HO_396005.out (fun _ hk => hk.2))); have n7_ := Aside0.mk (hb); have n8_ := Aside0.mk (ho); clear HO_396001; clear HO_396003; clear HO_396004; clear BK387; clear BK388; clear BK395; clear BK405; clear HB; clear HO_396005; clear HO408; have HO_396001 := n0_; have HO_396003 := n1_; have HO_396004 := n2_; have BK387 := n3_; have BK388 := n4_; have BK395 := n5_; have BK405 := n6_; have HB := n7_; have HO411 := n8_; clear n0_ n1_ n2_ n3_ n4_ n5_ n6_ n7_ n8_; clear ho hb hg hat; obtain ⟨Ao67, co67, eo67⟩ := Kd.S_slice HO411.out; subst eo67; obtain ⟨hcz68_0, hcz68_1, hcz68_2, hcz68_3, hcz68_4, hcz68_5, hfz68_0, hfz68_1, hfz68_2, hfz68_3, hfz68_4, hfz68_5⟩ := bk6 BK395.out))
          go_roundg k2
          case measure => have := HK1.out; have := HK2.out; omega
          case rel => exact ⟨(wrap64 (x40_2 + 1)), (y409), (.slice Ao67 y409.length co67), (bq73), H', ⟨by have := HK1.out; have := HK2.out; omega⟩, ⟨by (with_reducible repeat (first | apply Kd.R_alloc | apply Kd.R_drewN | apply Kd.R_drew)); exact Kd.R_mono (Kd.R_far (p := ⟨gb395, 5, none⟩) (Kd.R_types HO_396001.out BK395.out (by decide)) (fun _ hk => hk.2) (.slice Ao67 y409.length co67)) (fun _ hk => hk.1)⟩, ⟨by (with_reducible repeat (first | apply Kd.R_alloc | apply Kd.R_drewN | apply Kd.R_drew)); exact Kd.R_mono (Kd.R_far (p := ⟨gb395, 5, none⟩) (Kd.R_types HO_396003.out BK395.out (by decide)) (fun _ hk => hk.2) (.slice Ao67 y409.length co67)) (fun _ hk => hk.1)⟩, ⟨by (with_reducible repeat (first | apply Kd.S_alloc | apply Kd.S_drewN | apply Kd.S_drew)); exact Kd.S_mono (Kd.S_far (p := ⟨gb395, 5, none⟩) (Kd.S_types HO_396004.out BK395.out (by decide)) (fun _ hk => hk.2) (.slice Ao67 y409.length co67)) (fun _ hk => trivial)⟩, ⟨by (with_reducible repeat (first | apply Kd.S_alloc | apply Kd.S_drewN | apply Kd.S_drew)); exact Kd.S_mono (Kd.S_far (p := ⟨gb395, 5, none⟩) (Kd.S_types HO411.out BK395.out (by decide)) (fun _ hk => hk.2) (.slice Ao67 y409.length co67)) (fun _ hk => trivial)⟩, ⟨by (with_reducible repeat (first | refine blk_drewN ?_ _ | refine blk_drew ?_ | refine blk_alloc ?_ _)); refine blk_far ?_ NB387_395.out _; (with_reducible repeat (first | refine blk_drewN ?_ _ | refine blk_drew ?_ | refine blk_alloc ?_ _)); exact BK387.out⟩, ⟨by (with_reducible repeat (first | refine blk_drewN ?_ _ | refine blk_drew ?_ | refine blk_alloc ?_ _)); refine blk_far ?_ NB388_395.out _; (with_reducible repeat (first | refine blk_drewN ?_ _ | refine blk_drew ?_ | refine blk_alloc ?_ _)); exact BK388.out⟩, ⟨by (with_reducible repeat (first | refine blk_drewN ?_ _ | refine blk_drew ?_ | refine blk_alloc ?_ _)); refine blk_put (cs := #[.string a0_0, .slice Ao14 t389.length co14, .string a0_2, .slice Ao13 t392.length co13, u396004, u396005]) ?_ 5 _ rfl; (with_reducible repeat (first | refine blk_drewN ?_ _ | refine blk_drew ?_ | refine blk_alloc ?_ _)); exact BK395.out⟩, ⟨bq5⟩⟩
         ·rw [if_neg c52] at H
          exact absurd H (by simp)
        ·rw [if_neg c50] at H
         exact absurd H (by simp)
       ·rw [if_neg c49] at H
        exact absurd H (by simp)
      ·rw [if_neg c48] at H
       have c48b0 := decide_eq_false c48
       clear c48
       simp only [Option.some.injEq, Prod.mk.injEq] at H
       obtain ⟨rfl, rfl, rfl, rfl, rfl, rfl⟩ := H
       have hnb69 := NB395_387.out
       have hnc69 := NB387_395.out
       have hnb70 := NB395_388.out
       have hnc70 := NB388_395.out
       obtain ⟨hcz71_0, hcz71_1, hcz71_2, hcz71_3, hcz71_4, hcz71_5, hfz71_0, hfz71_1, hfz71_2, hfz71_3, hfz71_4, hfz71_5⟩ := bk6 BK395.out
       have hnb72 := NB388_387.out
       have hnc72 := NB387_388.out
       obtain ⟨hcz73_0, hcz73_1, hcz73_2, hcz73_3, hcz73_4, hcz73_5, hfz73_0, hfz73_1, hfz73_2, hfz73_3, hfz73_4, hfz73_5⟩ := bk6 BK388.out
       obtain ⟨Ao74, co74, eo74⟩ := Kd.S_slice HO_396004.out
       subst eo74
       obtain ⟨Ao75, co75, eo75⟩ := Kd.S_slice HO_396005.out
       subst eo75
       go_wp2
       refine bodyPost_ret (results_cell_row rfl _ _ gb388 40 #[.string a0_0, .slice Ao14 t389.length co14, .string a0_2, .slice Ao13 t392.length co13, .slice Ao74 x396004_1.length co74, .slice Ao75 x396005_2.length co75] (0, 0) _ rfl (by (with_reducible repeat (first | refine blk_drewN ?_ _ | refine blk_drew ?_ | refine blk_alloc ?_ _)); refine blk_put (cs := #[.string a0_0, .slice Ao14 t389.length co14, .string a0_2, .slice Ao13 t392.length co13, .slice Ao74 x396004_1.length co74, .slice none 0 0]) ?_ 5 _ rfl; (with_reducible repeat (first | refine blk_drewN ?_ _ | refine blk_drew ?_ | refine blk_alloc ?_ _)); refine blk_put (cs := #[.string a0_0, .slice Ao14 t389.length co14, .string a0_2, .slice Ao13 t392.length co13, .slice none 0 0, .slice none 0 0]) ?_ 4 _ rfl; (with_reducible repeat (first | refine blk_drewN ?_ _ | refine blk_drew ?_ | refine blk_alloc ?_ _)); refine blk_put (cs := #[.string a0_0, .slice Ao14 t389.length co14, .string a0_2, .slice none 0 0, .slice none 0 0, .slice none 0 0]) ?_ 3 _ rfl; (with_reducible repeat (first | refine blk_drewN ?_ _ | refine blk_drew ?_ | refine blk_alloc ?_ _)); refine blk_put (cs := #[.string a0_0, .slice Ao14 t389.length co14, .string (⟨#[]⟩ : ByteArray), .slice none 0 0, .slice none 0 0, .slice none 0 0]) ?_ 2 _ rfl; (with_reducible repeat (first | refine blk_drewN ?_ _ | refine blk_drew ?_ | refine blk_alloc ?_ _)); refine blk_put (cs := #[.string a0_0, .slice none 0 0, .string (⟨#[]⟩ : ByteArray), .slice none 0 0, .slice none 0 0, .slice none 0 0]) ?_ 1 _ rfl; (with_reducible repeat (first | refine blk_drewN ?_ _ | refine blk_drew ?_ | refine blk_alloc ?_ _)); refine blk_put (cs := #[.string (⟨#[]⟩ : ByteArray), .slice none 0 0, .string (⟨#[]⟩ : ByteArray), .slice none 0 0, .slice none 0 0, .slice none 0 0]) ?_ 0 _ rfl; (with_reducible repeat (first | refine blk_drewN ?_ _ | refine blk_drew ?_ | refine blk_alloc ?_ _)); exact BK388.out) Tryd.underlying40 rfl (by kernel_rfl)) rfl ?_
       exact ⟨_, _, _, _, by first | rfl | (simp [errW_none, errW_some] <;> rfl) | (simp [*, errW_none, errW_some] <;> rfl), by (with_reducible repeat (first | apply Kd.R_alloc | apply Kd.R_drewN | apply Kd.R_drew)); exact Kd.R_mono (Kd.R_far (p := ⟨gb388, 5, none⟩) (Kd.R_far (p := ⟨gb388, 4, none⟩) (Kd.R_far (p := ⟨gb388, 3, none⟩) (Kd.R_far (p := ⟨gb388, 2, none⟩) (Kd.R_far (p := ⟨gb388, 1, none⟩) (Kd.R_far (p := ⟨gb388, 0, none⟩) (Kd.R_types HO_396001.out BK388.out (by decide)) (fun _ hk => hk.2) (.string a0_0)) (fun _ hk => hk.2) (.slice Ao14 t389.length co14)) (fun _ hk => hk.2) (.string a0_2)) (fun _ hk => hk.2) (.slice Ao13 t392.length co13)) (fun _ hk => hk.2) (.slice Ao74 x396004_1.length co74)) (fun _ hk => hk.2) (.slice Ao75 x396005_2.length co75)) (fun _ hk => hk.1), by (with_reducible repeat (first | apply Kd.R_alloc | apply Kd.R_drewN | apply Kd.R_drew)); exact Kd.R_mono (Kd.R_far (p := ⟨gb388, 5, none⟩) (Kd.R_far (p := ⟨gb388, 4, none⟩) (Kd.R_far (p := ⟨gb388, 3, none⟩) (Kd.R_far (p := ⟨gb388, 2, none⟩) (Kd.R_far (p := ⟨gb388, 1, none⟩) (Kd.R_far (p := ⟨gb388, 0, none⟩) (Kd.R_types HO_396003.out BK388.out (by decide)) (fun _ hk => hk.2) (.string a0_0)) (fun _ hk => hk.2) (.slice Ao14 t389.length co14)) (fun _ hk => hk.2) (.string a0_2)) (fun _ hk => hk.2) (.slice Ao13 t392.length co13)) (fun _ hk => hk.2) (.slice Ao74 x396004_1.length co74)) (fun _ hk => hk.2) (.slice Ao75 x396005_2.length co75)) (fun _ hk => hk.1), by (with_reducible repeat (first | apply Kd.S_alloc | apply Kd.S_drewN | apply Kd.S_drew)); exact Kd.S_mono (Kd.S_far (p := ⟨gb388, 5, none⟩) (Kd.S_far (p := ⟨gb388, 4, none⟩) (Kd.S_far (p := ⟨gb388, 3, none⟩) (Kd.S_far (p := ⟨gb388, 2, none⟩) (Kd.S_far (p := ⟨gb388, 1, none⟩) (Kd.S_far (p := ⟨gb388, 0, none⟩) (Kd.S_types HO_396004.out BK388.out (by decide)) (fun _ hk => hk.2) (.string a0_0)) (fun _ hk => hk.2) (.slice Ao14 t389.length co14)) (fun _ hk => hk.2) (.string a0_2)) (fun _ hk => hk.2) (.slice Ao13 t392.length co13)) (fun _ hk => hk.2) (.slice Ao74 x396004_1.length co74)) (fun _ hk => hk.2) (.slice Ao75 x396005_2.length co75)) (fun _ hk => trivial), by (with_reducible repeat (first | apply Kd.S_alloc | apply Kd.S_drewN | apply Kd.S_drew)); exact Kd.S_mono (Kd.S_far (p := ⟨gb388, 5, none⟩) (Kd.S_far (p := ⟨gb388, 4, none⟩) (Kd.S_far (p := ⟨gb388, 3, none⟩) (Kd.S_far (p := ⟨gb388, 2, none⟩) (Kd.S_far (p := ⟨gb388, 1, none⟩) (Kd.S_far (p := ⟨gb388, 0, none⟩) (Kd.S_types HO_396005.out BK388.out (by decide)) (fun _ hk => hk.2) (.string a0_0)) (fun _ hk => hk.2) (.slice Ao14 t389.length co14)) (fun _ hk => hk.2) (.string a0_2)) (fun _ hk => hk.2) (.slice Ao13 t392.length co13)) (fun _ hk => hk.2) (.slice Ao74 x396004_1.length co74)) (fun _ hk => hk.2) (.slice Ao75 x396005_2.length co75)) (fun _ hk => trivial), bq12⟩

end Go.Proofs.YtkiiojgaaoaipaaDoor.Q

