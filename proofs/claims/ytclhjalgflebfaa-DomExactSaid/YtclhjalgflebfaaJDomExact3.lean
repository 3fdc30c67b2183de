/- What the row of DomExact rests on, part 3: contracts of the functions that it reaches, and the plain law. -/
import Derived.Test.YtclhjalgflebfaaJDomExact2
namespace Go.Proofs.Ytclhjalgflebfaa.Q
open Go.RowKit Go.Proofs.YtclhjalgflebfaaW.PrintWords Go.Proofs.YtclhjalgflebfaaW.PrintLast Go.Proofs.YtclhjalgflebfaaW.PrintMore
attribute [local go_sem] max2_int min2_int max_two min_two max_three min_three max_four min_four   -- for this text's walks alone
set_option linter.unusedVariables false
set_option linter.unusedSimpArgs false

/-! ### truantlaw10_DomExact: function 10 -/
mutual
noncomputable def truantlaw10_DomExact.l0 : Nat → Int → Int → List Int → List Int → List (List Int) → Int → Int → ByteArray → List ByteArray → ByteArray → List ByteArray → List (S58) → List (S40) → Option (Bool)
 | 0, _, _, _, _, _, _, _, _, _, _, _, _, _ => none
 | k + 1, x1, x2, x7, x8, x9, x10, x11, x370000, x370001, x370002, x370003, x370004, x370005 => if x11 < (x8.length : Int) then (if 0 ≤ x11 then (if x11 < (x7.length : Int) then (if (rd x7 x11) = (rd x8 x11) then (truantlaw10_DomExact.l1 k x1 x2 x7 x8 x9 x10 x11 0 x370000 x370001 x370002 x370003 x370004 x370005) else (none)) else (none)) else (none)) else (if x1 ≥ 0 then (if x1 < (x8.length : Int) then (if x2 ≥ 0 then (if x10 = 0 then ((dom_Is.f x370000 x370001 x370002 x370003 x370004 x370005 x1 x2).bind fun t390 => (if x2 < (x8.length : Int) then ((truantref10_Is.f x370000 x370001 x370002 x370003 x370004 x370005).bind fun t391 => (if 0 ≤ x1 then (if x1 < (t391.length : Int) then (if 0 ≤ x2 then (if x2 < ((rd_L7 t391 x1).length : Int) then (some (t390 == (rdOf false (rd_L7 t391 x1) x2))) else (none)) else (none)) else (none)) else (none))) else (some (t390 == false)))) else (none)) else (if x10 = 0 then ((dom_Is.f x370000 x370001 x370002 x370003 x370004 x370005 x1 x2).bind fun t396 => (some (t396 == false))) else (none))) else (if x10 = 0 then ((dom_Is.f x370000 x370001 x370002 x370003 x370004 x370005 x1 x2).bind fun t397 => (some (t397 == false))) else (none))) else (if x10 = 0 then ((dom_Is.f x370000 x370001 x370002 x370003 x370004 x370005 x1 x2).bind fun t398 => (some (t398 == false))) else (none)))
noncomputable def truantlaw10_DomExact.l1 : Nat → Int → Int → List Int → List Int → List (List Int) → Int → Int → Int → ByteArray → List ByteArray → ByteArray → List ByteArray → List (S58) → List (S40) → Option (Bool)
 | 0, _, _, _, _, _, _, _, _, _, _, _, _, _, _ => none
 | k + 1, x1, x2, x7, x8, x9, x10, x11, x12, x370000, x370001, x370002, x370003, x370004, x370005 => if 0 ≤ x11 then (if x11 < (x9.length : Int) then (if x12 < ((rd_L2 x9 x11).length : Int) then (if 0 ≤ x12 then (if (rd (rd_L2 x9 x11) x12) < 0 then (none) else (if (rd (rd_L2 x9 x11) x12) ≥ (x8.length : Int) then (none) else (if 0 ≤ (rd (rd_L2 x9 x11) x12) then (if (rd (rd_L2 x9 x11) x12) < (x8.length : Int) then (if (rd x8 (rd (rd_L2 x9 x11) x12)) = x11 then (if x12 > 0 then (if 0 ≤ (wrap64 (x12 - 1)) then (if (wrap64 (x12 - 1)) < ((rd_L2 x9 x11).length : Int) then (if (rd (rd_L2 x9 x11) (wrap64 (x12 - 1))) ≥ (rd (rd_L2 x9 x11) x12) then (none) else (truantlaw10_DomExact.l1 k x1 x2 x7 x8 x9 (wrap64 (x10 + 1)) x11 (wrap64 (x12 + 1)) x370000 x370001 x370002 x370003 x370004 x370005)) else (none)) else (none)) else (truantlaw10_DomExact.l1 k x1 x2 x7 x8 x9 (wrap64 (x10 + 1)) x11 (wrap64 (x12 + 1)) x370000 x370001 x370002 x370003 x370004 x370005)) else (none)) else (none)) else (none)))) else (none)) else (if x11 < (x8.length : Int) then (if (rd x8 x11) ≥ 0 then (truantlaw10_DomExact.l0 k x1 x2 x7 x8 x9 (wrap64 (x10 - 1)) (wrap64 (x11 + 1)) x370000 x370001 x370002 x370003 x370004 x370005) else (truantlaw10_DomExact.l0 k x1 x2 x7 x8 x9 x10 (wrap64 (x11 + 1)) x370000 x370001 x370002 x370003 x370004 x370005)) else (none))) else (none)) else (none)
end
noncomputable def truantlaw10_DomExact.f (k : Nat) (a0_0 : ByteArray) (l0_1 : List ByteArray) (a0_2 : ByteArray) (l0_3 : List ByteArray) (l0_4 : List (S58)) (l0_5 : List (S40)) (a1 : Int) (a2 : Int) : Option (Bool) := (truantlaw10_awake.f k).bind fun t370 => (if t370 = true then ((truantlaw10_wide.f a0_0 l0_1 a0_2 l0_3 l0_4 l0_5).bind fun t371 => (if t371 = true then (some true) else ((dom_Nearest.f a0_0 l0_1 a0_2 l0_3 l0_4 l0_5).bind fun t372 => ((truantref10_Nearest.f k a0_0 l0_1 a0_2 l0_3 l0_4 l0_5).bind fun t375 => ((dom_Under.f k a0_0 l0_1 a0_2 l0_3 l0_4 l0_5).bind fun t378 => (if (t372.length : Int) = (t375.length : Int) then (if (t378.length : Int) = (t375.length : Int) then (truantlaw10_DomExact.l0 k a1 a2 t372 t375 t378 0 0 a0_0 l0_1 a0_2 l0_3 l0_4 l0_5) else (none)) else (none))))))) else (none))
theorem truantlaw10_DomExact.mono_l : ∀ k, (∀ y0 y1 y2 y3 y4 y5 y6 y7 y8 y9 y10 y11 y12, LeO (truantlaw10_DomExact.l0 k y0 y1 y2 y3 y4 y5 y6 y7 y8 y9 y10 y11 y12) (truantlaw10_DomExact.l0 (k + 1) y0 y1 y2 y3 y4 y5 y6 y7 y8 y9 y10 y11 y12)) ∧ (∀ y0 y1 y2 y3 y4 y5 y6 y7 y8 y9 y10 y11 y12 y13, LeO (truantlaw10_DomExact.l1 k y0 y1 y2 y3 y4 y5 y6 y7 y8 y9 y10 y11 y12 y13) (truantlaw10_DomExact.l1 (k + 1) y0 y1 y2 y3 y4 y5 y6 y7 y8 y9 y10 y11 y12 y13))
 | 0 => ⟨fun _ _ _ _ _ _ _ _ _ _ _ _ _ r h => by simp [truantlaw10_DomExact.l0] at h, fun _ _ _ _ _ _ _ _ _ _ _ _ _ _ r h => by simp [truantlaw10_DomExact.l1] at h⟩
 | k + 1 => by
  obtain ⟨ih0, ih1⟩ := truantlaw10_DomExact.mono_l k
  refine ⟨?_, ?_⟩
  ·intro y0 y1 y2 y3 y4 y5 y6 y7 y8 y9 y10 y11 y12
   unfold truantlaw10_DomExact.l0
   repeat' first
   | (with_reducible exact ih0 _ _ _ _ _ _ _ _ _ _ _ _ _)
   | (with_reducible exact ih1 _ _ _ _ _ _ _ _ _ _ _ _ _ _)
   | (with_reducible exact dom_Under.mono _ _ _ _ _ _ _)
   | (with_reducible exact truantlaw10_awake.mono _)
   | (with_reducible exact truantref10_Nearest.mono _ _ _ _ _ _ _)
   | (with_reducible exact LeO.refl _)
   | (with_reducible exact LeO.none _)
   | (with_reducible refine LeO.ite ?_ ?_)
   | (with_reducible refine LeO.bind ?_ (fun _ => ?_))
   | exact ih0 _ _ _ _ _ _ _ _ _ _ _ _ _
   | exact ih1 _ _ _ _ _ _ _ _ _ _ _ _ _ _
   | exact dom_Under.mono _ _ _ _ _ _ _
   | exact truantlaw10_awake.mono _
   | exact truantref10_Nearest.mono _ _ _ _ _ _ _
   | exact LeO.none _
   | refine LeO.ite ?_ ?_
   | refine LeO.bind ?_ (fun _ => ?_)
  ·intro y0 y1 y2 y3 y4 y5 y6 y7 y8 y9 y10 y11 y12 y13
   unfold truantlaw10_DomExact.l1
   repeat' first
   | (with_reducible exact ih0 _ _ _ _ _ _ _ _ _ _ _ _ _)
   | (with_reducible exact ih1 _ _ _ _ _ _ _ _ _ _ _ _ _ _)
   | (with_reducible exact dom_Under.mono _ _ _ _ _ _ _)
   | (with_reducible exact truantlaw10_awake.mono _)
   | (with_reducible exact truantref10_Nearest.mono _ _ _ _ _ _ _)
   | (with_reducible exact LeO.refl _)
   | (with_reducible exact LeO.none _)
   | (with_reducible refine LeO.ite ?_ ?_)
   | (with_reducible refine LeO.bind ?_ (fun _ => ?_))
   | exact ih0 _ _ _ _ _ _ _ _ _ _ _ _ _
   | exact ih1 _ _ _ _ _ _ _ _ _ _ _ _ _ _
   | exact dom_Under.mono _ _ _ _ _ _ _
   | exact truantlaw10_awake.mono _
   | exact truantref10_Nearest.mono _ _ _ _ _ _ _
   | exact LeO.none _
   | refine LeO.ite ?_ ?_
   | refine LeO.bind ?_ (fun _ => ?_)
theorem truantlaw10_DomExact.mono : ∀ a0 a1 a2 a3 a4 a5 a6 a7 k, LeO (truantlaw10_DomExact.f k a0 a1 a2 a3 a4 a5 a6 a7) (truantlaw10_DomExact.f (k + 1) a0 a1 a2 a3 a4 a5 a6 a7) := by
 intro a0 a1 a2 a3 a4 a5 a6 a7 k
 obtain ⟨ih0, ih1⟩ := truantlaw10_DomExact.mono_l k
 unfold truantlaw10_DomExact.f
 repeat' first
   | (with_reducible exact ih0 _ _ _ _ _ _ _ _ _ _ _ _ _)
   | (with_reducible exact ih1 _ _ _ _ _ _ _ _ _ _ _ _ _ _)
   | (with_reducible exact dom_Under.mono _ _ _ _ _ _ _)
   | (with_reducible exact truantlaw10_awake.mono _)
   | (with_reducible exact truantref10_Nearest.mono _ _ _ _ _ _ _)
   | (with_reducible exact LeO.refl _)
   | (with_reducible exact LeO.none _)
   | (with_reducible refine LeO.ite ?_ ?_)
   | (with_reducible refine LeO.bind ?_ (fun _ => ?_))
   | exact ih0 _ _ _ _ _ _ _ _ _ _ _ _ _
   | exact ih1 _ _ _ _ _ _ _ _ _ _ _ _ _ _
   | exact dom_Under.mono _ _ _ _ _ _ _
   | exact truantlaw10_awake.mono _
   | exact truantref10_Nearest.mono _ _ _ _ _ _ _
   | exact LeO.none _
   | refine LeO.ite ?_ ?_
   | refine LeO.bind ?_ (fun _ => ?_)
set_option maxHeartbeats 8000000 in
set_option maxRecDepth 100000 in
theorem truantlaw10_DomExact.calls (k : Nat) (a0_0 : ByteArray) (A0_1 : Option Addr) (c0_1 : Nat) (l0_1 : List ByteArray) (a0_2 : ByteArray) (A0_3 : Option Addr) (c0_3 : Nat) (l0_3 : List ByteArray) (A0_4 : Option Addr) (c0_4 : Nat) (l0_4 : List (S58)) (A0_5 : Option Addr) (c0_5 : Nat) (l0_5 : List (S40)) (a1 : Int) (a2 : Int) (r : Bool) (w : World) (hr0_1 : Kd.C Kd.string w A0_1 l0_1.length l0_1) (hc0_1 : l0_1.length ≤ c0_1) (hr0_3 : Kd.C Kd.string w A0_3 l0_3.length l0_3) (hc0_3 : l0_3.length ≤ c0_3) (hr0_4 : Kd.C k58 w A0_4 l0_4.length l0_4) (hc0_4 : l0_4.length ≤ c0_4) (hr0_5 : Kd.C k40 w A0_5 l0_5.length l0_5) (hc0_5 : l0_5.length ≤ c0_5) (h : truantlaw10_DomExact.f k a0_0 l0_1 a0_2 l0_3 l0_4 l0_5 a1 a2 = some r) :
  Calls Try.prog 10 #[.agg #[.string a0_0, .slice A0_1 l0_1.length c0_1, .string a0_2, .slice A0_3 l0_3.length c0_3, .slice A0_4 l0_4.length c0_4, .slice A0_5 l0_5.length c0_5], .int .i64 a1, .int .i64 a2] w fun e w' => e = .returned (.bool r) ∧ Below w.heap.size w w' := by
 have hu26 := Try.underlying26
 have HR0_1 := Aside0.mk hr0_1
 have HC0_1 := Aside0.mk hc0_1
 clear hr0_1 hc0_1
 have HR0_3 := Aside0.mk hr0_3
 have HC0_3 := Aside0.mk hc0_3
 clear hr0_3 hc0_3
 have HR0_4 := Aside0.mk hr0_4
 have HC0_4 := Aside0.mk hc0_4
 clear hr0_4 hc0_4
 have HR0_5 := Aside0.mk hr0_5
 have HC0_5 := Aside0.mk hc0_5
 clear hr0_5 hc0_5
 have HB := Aside0.mk (Below.refl w.heap.size w)
 have H : ((truantlaw10_awake.f k).bind fun t370 => (if t370 = true then ((truantlaw10_wide.f a0_0 l0_1 a0_2 l0_3 l0_4 l0_5).bind fun t371 => (if t371 = true then (some true) else ((dom_Nearest.f a0_0 l0_1 a0_2 l0_3 l0_4 l0_5).bind fun t372 => ((truantref10_Nearest.f k a0_0 l0_1 a0_2 l0_3 l0_4 l0_5).bind fun t375 => ((dom_Under.f k a0_0 l0_1 a0_2 l0_3 l0_4 l0_5).bind fun t378 => (if (t372.length : Int) = (t375.length : Int) then (if (t378.length : Int) = (t375.length : Int) then (truantlaw10_DomExact.l0 k a1 a2 t372 t375 t378 0 0 a0_0 l0_1 a0_2 l0_3 l0_4 l0_5) else (none)) else (none))))))) else (none))) = some r := h
 clear h
 replace H := Option.bind_eq_some_iff.mp H
 obtain ⟨t370, A40, H⟩ := H
 replace H : (if t370 = true then ((truantlaw10_wide.f a0_0 l0_1 a0_2 l0_3 l0_4 l0_5).bind fun t371 => (if t371 = true then (some true) else ((dom_Nearest.f a0_0 l0_1 a0_2 l0_3 l0_4 l0_5).bind fun t372 => ((truantref10_Nearest.f k a0_0 l0_1 a0_2 l0_3 l0_4 l0_5).bind fun t375 => ((dom_Under.f k a0_0 l0_1 a0_2 l0_3 l0_4 l0_5).bind fun t378 => (if (t372.length : Int) = (t375.length : Int) then (if (t378.length : Int) = (t375.length : Int) then (truantlaw10_DomExact.l0 k a1 a2 t372 t375 t378 0 0 a0_0 l0_1 a0_2 l0_3 l0_4 l0_5) else (none)) else (none))))))) else (none)) = some r := H
 have A4 := Aside0.mk A40
 clear A40
 by_cases c5 : t370 = true
 ·subst c5
  have H1 : ((truantlaw10_wide.f a0_0 l0_1 a0_2 l0_3 l0_4 l0_5).bind fun t371 => (if t371 = true then (some true) else ((dom_Nearest.f a0_0 l0_1 a0_2 l0_3 l0_4 l0_5).bind fun t372 => ((truantref10_Nearest.f k a0_0 l0_1 a0_2 l0_3 l0_4 l0_5).bind fun t375 => ((dom_Under.f k a0_0 l0_1 a0_2 l0_3 l0_4 l0_5).bind fun t378 => (if (t372.length : Int) = (t375.length : Int) then (if (t378.length : Int) = (t375.length : Int) then (truantlaw10_DomExact.l0 k a1 a2 t372 t375 t378 0 0 a0_0 l0_1 a0_2 l0_3 l0_4 l0_5) else (none)) else (none))))))) = some r := by rw [if_pos rfl] at H; exact H
  clear H
  have H := H1
  clear H1
  replace H := Option.bind_eq_some_iff.mp H
  obtain ⟨t371, A60, H⟩ := H
  replace H : (if t371 = true then (some true) else ((dom_Nearest.f a0_0 l0_1 a0_2 l0_3 l0_4 l0_5).bind fun t372 => ((truantref10_Nearest.f k a0_0 l0_1 a0_2 l0_3 l0_4 l0_5).bind fun t375 => ((dom_Under.f k a0_0 l0_1 a0_2 l0_3 l0_4 l0_5).bind fun t378 => (if (t372.length : Int) = (t375.length : Int) then (if (t378.length : Int) = (t375.length : Int) then (truantlaw10_DomExact.l0 k a1 a2 t372 t375 t378 0 0 a0_0 l0_1 a0_2 l0_3 l0_4 l0_5) else (none)) else (none)))))) = some r := H
  have A6 := Aside0.mk A60
  clear A60
  by_cases c7 : t371 = true
  ·subst c7
   have H1 : (some true) = some r := by rw [if_pos rfl] at H; exact H
   clear H
   have H := H1
   clear H1
   obtain rfl := Option.some.inj H
   go_enter Try.func10, Try.ntmps10
   go_wp2_with (first | ((with_reducible refine gate_dst (N := 3) rfl ?_); (try (refine gate_guard (by rfl) ?_; dsimp only)); refine box_event ?hg (N := 3) ?hd (cs := #[.string a0_0, .slice A0_1 l0_1.length c0_1, .string a0_2, .slice A0_3 l0_3.length c0_3, .slice A0_4 l0_4.length c0_4, .slice A0_5 l0_5.length c0_5]) (t := 26) ?hr ?_; (case hd => rfl); (case hg => rfl); (case hr => first | (go_simp; done) | (go_simp; rfl)); intro gb369 hg w8 hbox hb; have n0_ := Aside0.mk (below_step (by repeat (first | (with_reducible first | exact HB.out | apply below_alloc | apply pw_below_drewN | apply below_drew1) | exact HB.out)) hb); have n1_ := Aside0.mk (hbox); have n2_ := Aside0.mk ((by rw [hg]; exact (below_size (by repeat (first | (with_reducible first | exact HB.out | apply below_alloc | apply pw_below_drewN | apply below_drew1) | exact HB.out))) : w.heap.size ≤ gb369)); have n3_ := Aside0.mk ((by rw [hg]; exact (below_size (by repeat (first | (with_reducible first | exact HB.out | apply below_alloc | apply pw_below_drewN | apply below_drew1) | exact HB.out))) : w.heap.size ≤ gb369)); clear HB; have HB := n0_; have BK369 := n1_; have GW369 := n2_; have GE369 := n3_; clear n0_ n1_ n2_ n3_; clear hb hbox hg) | (go_at_call 38; (with_reducible refine (truantlaw10_awake.calls k  true _ A4.out).mono ?_); rintro e w9 ⟨rfl, hb⟩; have n0_ := Aside0.mk (blk_below (g := gb369) (o := .cells #[.string a0_0, .slice A0_1 l0_1.length c0_1, .string a0_2, .slice A0_3 l0_3.length c0_3, .slice A0_4 l0_4.length c0_4, .slice A0_5 l0_5.length c0_5] 26 (0, 0)) (by (with_reducible repeat (first | refine blk_drewN ?_ _ | refine blk_drew ?_ | refine blk_alloc ?_ _)); exact BK369.out) hb); have n1_ := Aside0.mk (below_step (by repeat (first | (with_reducible first | exact HB.out | apply below_alloc | apply pw_below_drewN | apply below_drew1 | refine below_set ?_ GE369.out) | exact HB.out)) hb); clear BK369; clear HB; have BK369 := n0_; have HB := n1_; clear n0_ n1_; (try clear hb); (try clear hb2); (try clear hk); (try clear hi); have hcz10_0 : w9.cell? ⟨gb369, 0, none⟩ = some (.string a0_0) := (blk_cell BK369.out 0).trans rfl; have hcz10_1 : w9.cell? ⟨gb369, 1, none⟩ = some (.slice A0_1 l0_1.length c0_1) := (blk_cell BK369.out 1).trans rfl; have hcz10_2 : w9.cell? ⟨gb369, 2, none⟩ = some (.string a0_2) := (blk_cell BK369.out 2).trans rfl; have hcz10_3 : w9.cell? ⟨gb369, 3, none⟩ = some (.slice A0_3 l0_3.length c0_3) := (blk_cell BK369.out 3).trans rfl; have hcz10_4 : w9.cell? ⟨gb369, 4, none⟩ = some (.slice A0_4 l0_4.length c0_4) := (blk_cell BK369.out 4).trans rfl; have hcz10_5 : w9.cell? ⟨gb369, 5, none⟩ = some (.slice A0_5 l0_5.length c0_5) := (blk_cell BK369.out 5).trans rfl; have hfz10_0 := blk_frozen BK369.out 0; have hfz10_1 := blk_frozen BK369.out 1; have hfz10_2 := blk_frozen BK369.out 2; have hfz10_3 := blk_frozen BK369.out 3; have hfz10_4 := blk_frozen BK369.out 4; have hfz10_5 := blk_frozen BK369.out 5) | (go_at_call 39; (with_reducible refine (truantlaw10_wide.calls a0_0 _ _ l0_1 a0_2 _ _ l0_3 _ _ l0_4 _ _ l0_5 true _ ?side1 ?side2 ?side3 ?side4 ?side5 ?side6 ?side7 ?side8 A6.out).mono ?_); (case side1 => repeat (first | exact (Kd.C_below HR0_1.out HB.out) | (with_reducible refine Kd.C_alloc ?_ _) | (with_reducible refine Kd.C_drewN ?_ _) | (with_reducible refine Kd.C_drew ?_))); (case side2 => exact HC0_1.out); (case side3 => repeat (first | exact (Kd.C_below HR0_3.out HB.out) | (with_reducible refine Kd.C_alloc ?_ _) | (with_reducible refine Kd.C_drewN ?_ _) | (with_reducible refine Kd.C_drew ?_))); (case side4 => exact HC0_3.out); (case side5 => repeat (first | exact (Kd.C_below HR0_4.out HB.out) | (with_reducible refine Kd.C_alloc ?_ _) | (with_reducible refine Kd.C_drewN ?_ _) | (with_reducible refine Kd.C_drew ?_))); (case side6 => exact HC0_4.out); (case side7 => repeat (first | exact (Kd.C_below HR0_5.out HB.out) | (with_reducible refine Kd.C_alloc ?_ _) | (with_reducible refine Kd.C_drewN ?_ _) | (with_reducible refine Kd.C_drew ?_))); (case side8 => exact HC0_5.out); rintro e w11 ⟨rfl, hb⟩; have n0_ := Aside0.mk (blk_below (g := gb369) (o := .cells #[.string a0_0, .slice A0_1 l0_1.length c0_1, .string a0_2, .slice A0_3 l0_3.length c0_3, .slice A0_4 l0_4.length c0_4, .slice A0_5 l0_5.length c0_5] 26 (0, 0)) (by (with_reducible repeat (first | refine blk_drewN ?_ _ | refine blk_drew ?_ | refine blk_alloc ?_ _)); exact BK369.out) hb); have n1_ := Aside0.mk (below_step (by repeat (first | (with_reducible first | exact HB.out | apply below_alloc | apply pw_below_drewN | apply below_drew1 | refine below_set ?_ GE369.out) | exact HB.out)) hb); clear BK369; clear HB; have BK369 := n0_; have HB := n1_; clear n0_ n1_; (try clear hb); (try clear hb2); (try clear hk); (try clear hi)))
   repeat (go_quiet (first | ((with_reducible refine gate_dst (N := 3) rfl ?_); (try (refine gate_guard (by rfl) ?_; dsimp only)); refine box_event ?hg (N := 3) ?hd (cs := #[.string a0_0, .slice A0_1 l0_1.length c0_1, .string a0_2, .slice A0_3 l0_3.length c0_3, .slice A0_4 l0_4.length c0_4, .slice A0_5 l0_5.length c0_5]) (t := 26) ?hr ?_; (case hd => rfl); (case hg => rfl); (case hr => first | (go_simp; done) | (go_simp; rfl)); intro gb369 hg w8 hbox hb; have n0_ := Aside0.mk (below_step (by repeat (first | (with_reducible first | exact HB.out | apply below_alloc | apply pw_below_drewN | apply below_drew1) | exact HB.out)) hb); have n1_ := Aside0.mk (hbox); have n2_ := Aside0.mk ((by rw [hg]; exact (below_size (by repeat (first | (with_reducible first | exact HB.out | apply below_alloc | apply pw_below_drewN | apply below_drew1) | exact HB.out))) : w.heap.size ≤ gb369)); have n3_ := Aside0.mk ((by rw [hg]; exact (below_size (by repeat (first | (with_reducible first | exact HB.out | apply below_alloc | apply pw_below_drewN | apply below_drew1) | exact HB.out))) : w.heap.size ≤ gb369)); clear HB; have HB := n0_; have BK369 := n1_; have GW369 := n2_; have GE369 := n3_; clear n0_ n1_ n2_ n3_; clear hb hbox hg) | (go_at_call 38; (with_reducible refine (truantlaw10_awake.calls k  true _ A4.out).mono ?_); rintro e w9 ⟨rfl, hb⟩; have n0_ := Aside0.mk (blk_below (g := gb369) (o := .cells #[.string a0_0, .slice A0_1 l0_1.length c0_1, .string a0_2, .slice A0_3 l0_3.length c0_3, .slice A0_4 l0_4.length c0_4, .slice A0_5 l0_5.length c0_5] 26 (0, 0)) (by (with_reducible repeat (first | refine blk_drewN ?_ _ | refine blk_drew ?_ | refine blk_alloc ?_ _)); exact BK369.out) hb); have n1_ := Aside0.mk (below_step (by repeat (first | (with_reducible first | exact HB.out | apply below_alloc | apply pw_below_drewN | apply below_drew1 | refine below_set ?_ GE369.out) | exact HB.out)) hb); clear BK369; clear HB; have BK369 := n0_; have HB := n1_; clear n0_ n1_; (try clear hb); (try clear hb2); (try clear hk); (try clear hi); have hcz10_0 : w9.cell? ⟨gb369, 0, none⟩ = some (.string a0_0) := (blk_cell BK369.out 0).trans rfl; have hcz10_1 : w9.cell? ⟨gb369, 1, none⟩ = some (.slice A0_1 l0_1.length c0_1) := (blk_cell BK369.out 1).trans rfl; have hcz10_2 : w9.cell? ⟨gb369, 2, none⟩ = some (.string a0_2) := (blk_cell BK369.out 2).trans rfl; have hcz10_3 : w9.cell? ⟨gb369, 3, none⟩ = some (.slice A0_3 l0_3.length c0_3) := (blk_cell BK369.out 3).trans rfl; have hcz10_4 : w9.cell? ⟨gb369, 4, none⟩ = some (.slice A0_4 l0_4.length c0_4) := (blk_cell BK369.out 4).trans rfl; have hcz10_5 : w9.cell? ⟨gb369, 5, none⟩ = some (.slice A0_5 l0_5.length c0_5) := (blk_cell BK369.out 5).trans rfl; have hfz10_0 := blk_frozen BK369.out 0; have hfz10_1 := blk_frozen BK369.out 1; have hfz10_2 := blk_frozen BK369.out 2; have hfz10_3 := blk_frozen BK369.out 3; have hfz10_4 := blk_frozen BK369.out 4; have hfz10_5 := blk_frozen BK369.out 5) | (go_at_call 39; (with_reducible refine (truantlaw10_wide.calls a0_0 _ _ l0_1 a0_2 _ _ l0_3 _ _ l0_4 _ _ l0_5 true _ ?side1 ?side2 ?side3 ?side4 ?side5 ?side6 ?side7 ?side8 A6.out).mono ?_); (case side1 => repeat (first | exact (Kd.C_below HR0_1.out HB.out) | (with_reducible refine Kd.C_alloc ?_ _) | (with_reducible refine Kd.C_drewN ?_ _) | (with_reducible refine Kd.C_drew ?_))); (case side2 => exact HC0_1.out); (case side3 => repeat (first | exact (Kd.C_below HR0_3.out HB.out) | (with_reducible refine Kd.C_alloc ?_ _) | (with_reducible refine Kd.C_drewN ?_ _) | (with_reducible refine Kd.C_drew ?_))); (case side4 => exact HC0_3.out); (case side5 => repeat (first | exact (Kd.C_below HR0_4.out HB.out) | (with_reducible refine Kd.C_alloc ?_ _) | (with_reducible refine Kd.C_drewN ?_ _) | (with_reducible refine Kd.C_drew ?_))); (case side6 => exact HC0_4.out); (case side7 => repeat (first | exact (Kd.C_below HR0_5.out HB.out) | (with_reducible refine Kd.C_alloc ?_ _) | (with_reducible refine Kd.C_drewN ?_ _) | (with_reducible refine Kd.C_drew ?_))); (case side8 => exact HC0_5.out); rintro e w11 ⟨rfl, hb⟩; have n0_ := Aside0.mk (blk_below (g := gb369) (o := .cells #[.string a0_0, .slice A0_1 l0_1.length c0_1, .string a0_2, .slice A0_3 l0_3.length c0_3, .slice A0_4 l0_4.length c0_4, .slice A0_5 l0_5.length c0_5] 26 (0, 0)) (by (with_reducible repeat (first | refine blk_drewN ?_ _ | refine blk_drew ?_ | refine blk_alloc ?_ _)); exact BK369.out) hb); have n1_ := Aside0.mk (below_step (by repeat (first | (with_reducible first | exact HB.out | apply below_alloc | apply pw_below_drewN | apply below_drew1 | refine below_set ?_ GE369.out) | exact HB.out)) hb); clear BK369; clear HB; have BK369 := n0_; have HB := n1_; clear n0_ n1_; (try clear hb); (try clear hb2); (try clear hk); (try clear hi))); try go_wp2_with (first | ((with_reducible refine gate_dst (N := 3) rfl ?_); (try (refine gate_guard (by rfl) ?_; dsimp only)); refine box_event ?hg (N := 3) ?hd (cs := #[.string a0_0, .slice A0_1 l0_1.length c0_1, .string a0_2, .slice A0_3 l0_3.length c0_3, .slice A0_4 l0_4.length c0_4, .slice A0_5 l0_5.length c0_5]) (t := 26) ?hr ?_; (case hd => rfl); (case hg => rfl); (case hr => first | (go_simp; done) | (go_simp; rfl)); intro gb369 hg w8 hbox hb; have n0_ := Aside0.mk (below_step (by repeat (first | (with_reducible first | exact HB.out | apply below_alloc | apply pw_below_drewN | apply below_drew1) | exact HB.out)) hb); have n1_ := Aside0.mk (hbox); have n2_ := Aside0.mk ((by rw [hg]; exact (below_size (by repeat (first | (with_reducible first | exact HB.out | apply below_alloc | apply pw_below_drewN | apply below_drew1) | exact HB.out))) : w.heap.size ≤ gb369)); have n3_ := Aside0.mk ((by rw [hg]; exact (below_size (by repeat (first | (with_reducible first | exact HB.out | apply below_alloc | apply pw_below_drewN | apply below_drew1) | exact HB.out))) : w.heap.size ≤ gb369)); clear HB; have HB := n0_; have BK369 := n1_; have GW369 := n2_; have GE369 := n3_; clear n0_ n1_ n2_ n3_; clear hb hbox hg) | (go_at_call 38; (with_reducible refine (truantlaw10_awake.calls k  true _ A4.out).mono ?_); rintro e w9 ⟨rfl, hb⟩; have n0_ := Aside0.mk (blk_below (g := gb369) (o := .cells #[.string a0_0, .slice A0_1 l0_1.length c0_1, .string a0_2, .slice A0_3 l0_3.length c0_3, .slice A0_4 l0_4.length c0_4, .slice A0_5 l0_5.length c0_5] 26 (0, 0)) (by (with_reducible repeat (first | refine blk_drewN ?_ _ | refine blk_drew ?_ | refine blk_alloc ?_ _)); exact BK369.out) hb); have n1_ := Aside0.mk (below_step (by repeat (first | (with_reducible first | exact HB.out | apply below_alloc | apply pw_below_drewN | apply below_drew1 | refine below_set ?_ GE369.out) | exact HB.out)) hb); clear BK369; clear HB; have BK369 := n0_; have HB := n1_; clear n0_ n1_; (try clear hb); (try clear hb2); (try clear hk); (try clear hi); have hcz10_0 : w9.cell? ⟨gb369, 0, none⟩ = some (.string a0_0) := (blk_cell BK369.out 0).trans rfl; have hcz10_1 : w9.cell? ⟨gb369, 1, none⟩ = some (.slice A0_1 l0_1.length c0_1) := (blk_cell BK369.out 1).trans rfl; have hcz10_2 : w9.cell? ⟨gb369, 2, none⟩ = some (.string a0_2) := (blk_cell BK369.out 2).trans rfl; have hcz10_3 : w9.cell? ⟨gb369, 3, none⟩ = some (.slice A0_3 l0_3.length c0_3) := (blk_cell BK369.out 3).trans rfl; have hcz10_4 : w9.cell? ⟨gb369, 4, none⟩ = some (.slice A0_4 l0_4.length c0_4) := (blk_cell BK369.out 4).trans rfl; have hcz10_5 : w9.cell? ⟨gb369, 5, none⟩ = some (.slice A0_5 l0_5.length c0_5) := (blk_cell BK369.out 5).trans rfl; have hfz10_0 := blk_frozen BK369.out 0; have hfz10_1 := blk_frozen BK369.out 1; have hfz10_2 := blk_frozen BK369.out 2; have hfz10_3 := blk_frozen BK369.out 3; have hfz10_4 := blk_frozen BK369.out 4; have hfz10_5 := blk_frozen BK369.out 5) | (go_at_call 39; (with_reducible refine (truantlaw10_wide.calls a0_0 _ _ l0_1 a0_2 _ _ l0_3 _ _ l0_4 _ _ l0_5 true _ ?side1 ?side2 ?side3 ?side4 ?side5 ?side6 ?side7 ?side8 A6.out).mono ?_); (case side1 => repeat (first | exact (Kd.C_below HR0_1.out HB.out) | (with_reducible refine Kd.C_alloc ?_ _) | (with_reducible refine Kd.C_drewN ?_ _) | (with_reducible refine Kd.C_drew ?_))); (case side2 => exact HC0_1.out); (case side3 => repeat (first | exact (Kd.C_below HR0_3.out HB.out) | (with_reducible refine Kd.C_alloc ?_ _) | (with_reducible refine Kd.C_drewN ?_ _) | (with_reducible refine Kd.C_drew ?_))); (case side4 => exact HC0_3.out); (case side5 => repeat (first | exact (Kd.C_below HR0_4.out HB.out) | (with_reducible refine Kd.C_alloc ?_ _) | (with_reducible refine Kd.C_drewN ?_ _) | (with_reducible refine Kd.C_drew ?_))); (case side6 => exact HC0_4.out); (case side7 => repeat (first | exact (Kd.C_below HR0_5.out HB.out) | (with_reducible refine Kd.C_alloc ?_ _) | (with_reducible refine Kd.C_drewN ?_ _) | (with_reducible refine Kd.C_drew ?_))); (case side8 => exact HC0_5.out); rintro e w11 ⟨rfl, hb⟩; have n0_ := Aside0.mk (blk_below (g := gb369) (o := .cells #[.string a0_0, .slice A0_1 l0_1.length c0_1, .string a0_2, .slice A0_3 l0_3.length c0_3, .slice A0_4 l0_4.length c0_4, .slice A0_5 l0_5.length c0_5] 26 (0, 0)) (by (with_reducible repeat (first | refine blk_drewN ?_ _ | refine blk_drew ?_ | refine blk_alloc ?_ _)); exact BK369.out) hb); have n1_ := Aside0.mk (below_step (by repeat (first | (with_reducible first | exact HB.out | apply below_alloc | apply pw_below_drewN | apply below_drew1 | refine below_set ?_ GE369.out) | exact HB.out)) hb); clear BK369; clear HB; have BK369 := n0_; have HB := n1_; clear n0_ n1_; (try clear hb); (try clear hb2); (try clear hk); (try clear hi))))
   go_ret
   exact ⟨by first | rfl | (simp [errW_none, errW_some] <;> rfl) | (simp [*, errW_none, errW_some] <;> rfl), by repeat (first | (with_reducible first | exact HB.out | apply below_alloc | apply pw_below_drewN | apply below_drew1 | refine below_set ?_ GE369.out) | exact HB.out)⟩
  ·replace c7 := Bool.eq_false_iff.mpr c7
   subst c7
   have H1 : ((dom_Nearest.f a0_0 l0_1 a0_2 l0_3 l0_4 l0_5).bind fun t372 => ((truantref10_Nearest.f k a0_0 l0_1 a0_2 l0_3 l0_4 l0_5).bind fun t375 => ((dom_Under.f k a0_0 l0_1 a0_2 l0_3 l0_4 l0_5).bind fun t378 => (if (t372.length : Int) = (t375.length : Int) then (if (t378.length : Int) = (t375.length : Int) then (truantlaw10_DomExact.l0 k a1 a2 t372 t375 t378 0 0 a0_0 l0_1 a0_2 l0_3 l0_4 l0_5) else (none)) else (none))))) = some r := by rw [if_neg (show ¬ (false = true) by decide)] at H; exact H
   clear H
   have H := H1
   clear H1
   replace H := Option.bind_eq_some_iff.mp H
   obtain ⟨t372, A120, H⟩ := H
   replace H : ((truantref10_Nearest.f k a0_0 l0_1 a0_2 l0_3 l0_4 l0_5).bind fun t375 => ((dom_Under.f k a0_0 l0_1 a0_2 l0_3 l0_4 l0_5).bind fun t378 => (if (t372.length : Int) = (t375.length : Int) then (if (t378.length : Int) = (t375.length : Int) then (truantlaw10_DomExact.l0 k a1 a2 t372 t375 t378 0 0 a0_0 l0_1 a0_2 l0_3 l0_4 l0_5) else (none)) else (none)))) = some r := H
   have A12 := Aside0.mk A120
   clear A120
   replace H := Option.bind_eq_some_iff.mp H
   obtain ⟨t375, A130, H⟩ := H
   replace H : ((dom_Under.f k a0_0 l0_1 a0_2 l0_3 l0_4 l0_5).bind fun t378 => (if (t372.length : Int) = (t375.length : Int) then (if (t378.length : Int) = (t375.length : Int) then (truantlaw10_DomExact.l0 k a1 a2 t372 t375 t378 0 0 a0_0 l0_1 a0_2 l0_3 l0_4 l0_5) else (none)) else (none))) = some r := H
   have A13 := Aside0.mk A130
   clear A130
   replace H := Option.bind_eq_some_iff.mp H
   obtain ⟨t378, A140, H⟩ := H
   replace H : (if (t372.length : Int) = (t375.length : Int) then (if (t378.length : Int) = (t375.length : Int) then (truantlaw10_DomExact.l0 k a1 a2 t372 t375 t378 0 0 a0_0 l0_1 a0_2 l0_3 l0_4 l0_5) else (none)) else (none)) = some r := H
   have A14 := Aside0.mk A140
   clear A140
   by_cases c15 : (t372.length : Int) = (t375.length : Int)
   ·rw [if_pos c15] at H
    have c15b0 : ((t372.length : Int) == (t375.length : Int)) = true := beq_iff_eq.mpr c15
    have c15b1 : ((t372.length : Int) != (t375.length : Int)) = false := bne_eq_false_iff_eq.mpr c15
    have c15b2 : (t372.length == t375.length) = true := by first | simpa using c15 | (simp at c15 ⊢; omega)
    clear c15
    by_cases c16 : (t378.length : Int) = (t375.length : Int)
    ·rw [if_pos c16] at H
     have c16b0 : ((t378.length : Int) == (t375.length : Int)) = true := beq_iff_eq.mpr c16
     have c16b1 : ((t378.length : Int) != (t375.length : Int)) = false := bne_eq_false_iff_eq.mpr c16
     have c16b2 : (t378.length == t375.length) = true := by first | simpa using c16 | (simp at c16 ⊢; omega)
     clear c16
     have H' := Aside0.mk H
     clear H
     go_enter Try.func10, Try.ntmps10
     go_wp2_with (first | ((with_reducible refine gate_dst (N := 3) rfl ?_); (try (refine gate_guard (by rfl) ?_; dsimp only)); refine box_event ?hg (N := 3) ?hd (cs := #[.string a0_0, .slice A0_1 l0_1.length c0_1, .string a0_2, .slice A0_3 l0_3.length c0_3, .slice A0_4 l0_4.length c0_4, .slice A0_5 l0_5.length c0_5]) (t := 26) ?hr ?_; (case hd => rfl); (case hg => rfl); (case hr => first | (go_simp; done) | (go_simp; rfl)); intro gb369 hg w17 hbox hb; have n0_ := Aside0.mk (below_step (by repeat (first | (with_reducible first | exact HB.out | apply below_alloc | apply pw_below_drewN | apply below_drew1) | exact HB.out)) hb); have n1_ := Aside0.mk (hbox); have n2_ := Aside0.mk ((by rw [hg]; exact (below_size (by repeat (first | (with_reducible first | exact HB.out | apply below_alloc | apply pw_below_drewN | apply below_drew1) | exact HB.out))) : w.heap.size ≤ gb369)); have n3_ := Aside0.mk ((by rw [hg]; exact (below_size (by repeat (first | (with_reducible first | exact HB.out | apply below_alloc | apply pw_below_drewN | apply below_drew1) | exact HB.out))) : w.heap.size ≤ gb369)); clear HB; have HB := n0_; have BK369 := n1_; have GW369 := n2_; have GE369 := n3_; clear n0_ n1_ n2_ n3_; clear hb hbox hg) | (go_at_call 38; (with_reducible refine (truantlaw10_awake.calls k  true _ A4.out).mono ?_); rintro e w18 ⟨rfl, hb⟩; have n0_ := Aside0.mk (blk_below (g := gb369) (o := .cells #[.string a0_0, .slice A0_1 l0_1.length c0_1, .string a0_2, .slice A0_3 l0_3.length c0_3, .slice A0_4 l0_4.length c0_4, .slice A0_5 l0_5.length c0_5] 26 (0, 0)) (by (with_reducible repeat (first | refine blk_drewN ?_ _ | refine blk_drew ?_ | refine blk_alloc ?_ _)); exact BK369.out) hb); have n1_ := Aside0.mk (below_step (by repeat (first | (with_reducible first | exact HB.out | apply below_alloc | apply pw_below_drewN | apply below_drew1 | refine below_set ?_ GE369.out) | exact HB.out)) hb); clear BK369; clear HB; have BK369 := n0_; have HB := n1_; clear n0_ n1_; (try clear hb); (try clear hb2); (try clear hk); (try clear hi); have hcz19_0 : w18.cell? ⟨gb369, 0, none⟩ = some (.string a0_0) := (blk_cell BK369.out 0).trans rfl; have hcz19_1 : w18.cell? ⟨gb369, 1, none⟩ = some (.slice A0_1 l0_1.length c0_1) := (blk_cell BK369.out 1).trans rfl; have hcz19_2 : w18.cell? ⟨gb369, 2, none⟩ = some (.string a0_2) := (blk_cell BK369.out 2).trans rfl; have hcz19_3 : w18.cell? ⟨gb369, 3, none⟩ = some (.slice A0_3 l0_3.length c0_3) := (blk_cell BK369.out 3).trans rfl; have hcz19_4 : w18.cell? ⟨gb369, 4, none⟩ = some (.slice A0_4 l0_4.length c0_4) := (blk_cell BK369.out 4).trans rfl; have hcz19_5 : w18.cell? ⟨gb369, 5, none⟩ = some (.slice A0_5 l0_5.length c0_5) := (blk_cell BK369.out 5).trans rfl; have hfz19_0 := blk_frozen BK369.out 0; have hfz19_1 := blk_frozen BK369.out 1; have hfz19_2 := blk_frozen BK369.out 2; have hfz19_3 := blk_frozen BK369.out 3; have hfz19_4 := blk_frozen BK369.out 4; have hfz19_5 := blk_frozen BK369.out 5) | (go_at_call 39; (with_reducible refine (truantlaw10_wide.calls a0_0 _ _ l0_1 a0_2 _ _ l0_3 _ _ l0_4 _ _ l0_5 false _ ?side1 ?side2 ?side3 ?side4 ?side5 ?side6 ?side7 ?side8 A6.out).mono ?_); (case side1 => repeat (first | exact (Kd.C_below HR0_1.out HB.out) | (with_reducible refine Kd.C_alloc ?_ _) | (with_reducible refine Kd.C_drewN ?_ _) | (with_reducible refine Kd.C_drew ?_))); (case side2 => exact HC0_1.out); (case side3 => repeat (first | exact (Kd.C_below HR0_3.out HB.out) | (with_reducible refine Kd.C_alloc ?_ _) | (with_reducible refine Kd.C_drewN ?_ _) | (with_reducible refine Kd.C_drew ?_))); (case side4 => exact HC0_3.out); (case side5 => repeat (first | exact (Kd.C_below HR0_4.out HB.out) | (with_reducible refine Kd.C_alloc ?_ _) | (with_reducible refine Kd.C_drewN ?_ _) | (with_reducible refine Kd.C_drew ?_))); (case side6 => exact HC0_4.out); (case side7 => repeat (first | exact (Kd.C_below HR0_5.out HB.out) | (with_reducible refine Kd.C_alloc ?_ _) | (with_reducible refine Kd.C_drewN ?_ _) | (with_reducible refine Kd.C_drew ?_))); (case side8 => exact HC0_5.out); rintro e w20 ⟨rfl, hb⟩; have n0_ := Aside0.mk (blk_below (g := gb369) (o := .cells #[.string a0_0, .slice A0_1 l0_1.length c0_1, .string a0_2, .slice A0_3 l0_3.length c0_3, .slice A0_4 l0_4.length c0_4, .slice A0_5 l0_5.length c0_5] 26 (0, 0)) (by (with_reducible repeat (first | refine blk_drewN ?_ _ | refine blk_drew ?_ | refine blk_alloc ?_ _)); exact BK369.out) hb); have n1_ := Aside0.mk (below_step (by repeat (first | (with_reducible first | exact HB.out | apply below_alloc | apply pw_below_drewN | apply below_drew1 | refine below_set ?_ GE369.out) | exact HB.out)) hb); clear BK369; clear HB; have BK369 := n0_; have HB := n1_; clear n0_ n1_; (try clear hb); (try clear hb2); (try clear hk); (try clear hi); have hcz21_0 : w20.cell? ⟨gb369, 0, none⟩ = some (.string a0_0) := (blk_cell BK369.out 0).trans rfl; have hcz21_1 : w20.cell? ⟨gb369, 1, none⟩ = some (.slice A0_1 l0_1.length c0_1) := (blk_cell BK369.out 1).trans rfl; have hcz21_2 : w20.cell? ⟨gb369, 2, none⟩ = some (.string a0_2) := (blk_cell BK369.out 2).trans rfl; have hcz21_3 : w20.cell? ⟨gb369, 3, none⟩ = some (.slice A0_3 l0_3.length c0_3) := (blk_cell BK369.out 3).trans rfl; have hcz21_4 : w20.cell? ⟨gb369, 4, none⟩ = some (.slice A0_4 l0_4.length c0_4) := (blk_cell BK369.out 4).trans rfl; have hcz21_5 : w20.cell? ⟨gb369, 5, none⟩ = some (.slice A0_5 l0_5.length c0_5) := (blk_cell BK369.out 5).trans rfl; have hfz21_0 := blk_frozen BK369.out 0; have hfz21_1 := blk_frozen BK369.out 1; have hfz21_2 := blk_frozen BK369.out 2; have hfz21_3 := blk_frozen BK369.out 3; have hfz21_4 := blk_frozen BK369.out 4; have hfz21_5 := blk_frozen BK369.out 5) | (go_at_call 40; (with_reducible refine (dom_Nearest.calls a0_0 _ _ l0_1 a0_2 _ _ l0_3 _ _ l0_4 _ _ l0_5 t372 _ ?side1 ?side2 ?side3 ?side4 ?side5 ?side6 ?side7 ?side8 A12.out).mono ?_); (case side1 => repeat (first | exact (Kd.C_below HR0_1.out HB.out) | (with_reducible refine Kd.C_alloc ?_ _) | (with_reducible refine Kd.C_drewN ?_ _) | (with_reducible refine Kd.C_drew ?_))); (case side2 => exact HC0_1.out); (case side3 => repeat (first | exact (Kd.C_below HR0_3.out HB.out) | (with_reducible refine Kd.C_alloc ?_ _) | (with_reducible refine Kd.C_drewN ?_ _) | (with_reducible refine Kd.C_drew ?_))); (case side4 => exact HC0_3.out); (case side5 => repeat (first | exact (Kd.C_below HR0_4.out HB.out) | (with_reducible refine Kd.C_alloc ?_ _) | (with_reducible refine Kd.C_drewN ?_ _) | (with_reducible refine Kd.C_drew ?_))); (case side6 => exact HC0_4.out); (case side7 => repeat (first | exact (Kd.C_below HR0_5.out HB.out) | (with_reducible refine Kd.C_alloc ?_ _) | (with_reducible refine Kd.C_drewN ?_ _) | (with_reducible refine Kd.C_drew ?_))); (case side8 => exact HC0_5.out); rintro e w22 ⟨v373, rfl, ho0, hb⟩; have n0_ := Aside0.mk (Kd.R_lower ho0 (below_size (by repeat (first | (with_reducible first | exact HB.out | apply below_alloc | apply pw_below_drewN | apply below_drew1 | refine below_set ?_ GE369.out) | exact HB.out)))); have n1_ := Aside0.mk (blk_below (g := gb369) (o := .cells #[.string a0_0, .slice A0_1 l0_1.length c0_1, .string a0_2, .slice A0_3 l0_3.length c0_3, .slice A0_4 l0_4.length c0_4, .slice A0_5 l0_5.length c0_5] 26 (0, 0)) (by (with_reducible repeat (first | refine blk_drewN ?_ _ | refine blk_drew ?_ | refine blk_alloc ?_ _)); exact BK369.out) hb); have n2_ := Aside0.mk (below_step (by repeat (first | (with_reducible first | exact HB.out | apply below_alloc | apply pw_below_drewN | apply below_drew1 | refine below_set ?_ GE369.out) | exact HB.out)) hb); clear BK369; clear HB; have HO374 := n0_; have BK369 := n1_; have HB := n2_; clear n0_ n1_ n2_; (try clear hb); (try clear hb2); (try clear hk); (try clear hi); (try clear ho0); have hcz23_0 : w22.cell? ⟨gb369, 0, none⟩ = some (.string a0_0) := (blk_cell BK369.out 0).trans rfl; have hcz23_1 : w22.cell? ⟨gb369, 1, none⟩ = some (.slice A0_1 l0_1.length c0_1) := (blk_cell BK369.out 1).trans rfl; have hcz23_2 : w22.cell? ⟨gb369, 2, none⟩ = some (.string a0_2) := (blk_cell BK369.out 2).trans rfl; have hcz23_3 : w22.cell? ⟨gb369, 3, none⟩ = some (.slice A0_3 l0_3.length c0_3) := (blk_cell BK369.out 3).trans rfl; have hcz23_4 : w22.cell? ⟨gb369, 4, none⟩ = some (.slice A0_4 l0_4.length c0_4) := (blk_cell BK369.out 4).trans rfl; have hcz23_5 : w22.cell? ⟨gb369, 5, none⟩ = some (.slice A0_5 l0_5.length c0_5) := (blk_cell BK369.out 5).trans rfl; have hfz23_0 := blk_frozen BK369.out 0; have hfz23_1 := blk_frozen BK369.out 1; have hfz23_2 := blk_frozen BK369.out 2; have hfz23_3 := blk_frozen BK369.out 3; have hfz23_4 := blk_frozen BK369.out 4; have hfz23_5 := blk_frozen BK369.out 5) | (go_at_call 41; (with_reducible refine (truantref10_Nearest.calls k a0_0 _ _ l0_1 a0_2 _ _ l0_3 _ _ l0_4 _ _ l0_5 t375 _ ?side1 ?side2 ?side3 ?side4 ?side5 ?side6 ?side7 ?side8 A13.out).mono ?_); (case side1 => repeat (first | exact (Kd.C_below HR0_1.out HB.out) | (with_reducible refine Kd.C_alloc ?_ _) | (with_reducible refine Kd.C_drewN ?_ _) | (with_reducible refine Kd.C_drew ?_))); (case side2 => exact HC0_1.out); (case side3 => repeat (first | exact (Kd.C_below HR0_3.out HB.out) | (with_reducible refine Kd.C_alloc ?_ _) | (with_reducible refine Kd.C_drewN ?_ _) | (with_reducible refine Kd.C_drew ?_))); (case side4 => exact HC0_3.out); (case side5 => repeat (first | exact (Kd.C_below HR0_4.out HB.out) | (with_reducible refine Kd.C_alloc ?_ _) | (with_reducible refine Kd.C_drewN ?_ _) | (with_reducible refine Kd.C_drew ?_))); (case side6 => exact HC0_4.out); (case side7 => repeat (first | exact (Kd.C_below HR0_5.out HB.out) | (with_reducible refine Kd.C_alloc ?_ _) | (with_reducible refine Kd.C_drewN ?_ _) | (with_reducible refine Kd.C_drew ?_))); (case side8 => exact HC0_5.out); rintro e w24 ⟨v376, rfl, ho0, hb⟩; have n0_ := Aside0.mk (Kd.R_elder' (by (with_reducible repeat (first | apply Kd.R_alloc | apply Kd.R_drewN | apply Kd.R_drew)); exact HO374.out) (Kd.R_base ho0) hb); have n1_ := Aside0.mk (Kd.R_lower (Kd.R_new' ho0 (Kd.R_lt (by (with_reducible repeat (first | apply Kd.R_alloc | apply Kd.R_drewN | apply Kd.R_drew)); exact HO374.out))) (below_size (by repeat (first | (with_reducible first | exact HB.out | apply below_alloc | apply pw_below_drewN | apply below_drew1 | refine below_set ?_ GE369.out) | exact HB.out)))); have n2_ := Aside0.mk (blk_below (g := gb369) (o := .cells #[.string a0_0, .slice A0_1 l0_1.length c0_1, .string a0_2, .slice A0_3 l0_3.length c0_3, .slice A0_4 l0_4.length c0_4, .slice A0_5 l0_5.length c0_5] 26 (0, 0)) (by (with_reducible repeat (first | refine blk_drewN ?_ _ | refine blk_drew ?_ | refine blk_alloc ?_ _)); exact BK369.out) hb); have n3_ := Aside0.mk (below_step (by repeat (first | (with_reducible first | exact HB.out | apply below_alloc | apply pw_below_drewN | apply below_drew1 | refine below_set ?_ GE369.out) | exact HB.out)) hb); clear HO374; clear BK369; clear HB; have HO374 := n0_; have HO377 := n1_; have BK369 := n2_; have HB := n3_; clear n0_ n1_ n2_ n3_; (try clear hb); (try clear hb2); (try clear hk); (try clear hi); (try clear ho0); have hcz25_0 : w24.cell? ⟨gb369, 0, none⟩ = some (.string a0_0) := (blk_cell BK369.out 0).trans rfl; have hcz25_1 : w24.cell? ⟨gb369, 1, none⟩ = some (.slice A0_1 l0_1.length c0_1) := (blk_cell BK369.out 1).trans rfl; have hcz25_2 : w24.cell? ⟨gb369, 2, none⟩ = some (.string a0_2) := (blk_cell BK369.out 2).trans rfl; have hcz25_3 : w24.cell? ⟨gb369, 3, none⟩ = some (.slice A0_3 l0_3.length c0_3) := (blk_cell BK369.out 3).trans rfl; have hcz25_4 : w24.cell? ⟨gb369, 4, none⟩ = some (.slice A0_4 l0_4.length c0_4) := (blk_cell BK369.out 4).trans rfl; have hcz25_5 : w24.cell? ⟨gb369, 5, none⟩ = some (.slice A0_5 l0_5.length c0_5) := (blk_cell BK369.out 5).trans rfl; have hfz25_0 := blk_frozen BK369.out 0; have hfz25_1 := blk_frozen BK369.out 1; have hfz25_2 := blk_frozen BK369.out 2; have hfz25_3 := blk_frozen BK369.out 3; have hfz25_4 := blk_frozen BK369.out 4; have hfz25_5 := blk_frozen BK369.out 5) | (go_at_call 42; (with_reducible refine (dom_Under.calls k a0_0 _ _ l0_1 a0_2 _ _ l0_3 _ _ l0_4 _ _ l0_5 t378 _ ?side1 ?side2 ?side3 ?side4 ?side5 ?side6 ?side7 ?side8 A14.out).mono ?_); (case side1 => repeat (first | exact (Kd.C_below HR0_1.out HB.out) | (with_reducible refine Kd.C_alloc ?_ _) | (with_reducible refine Kd.C_drewN ?_ _) | (with_reducible refine Kd.C_drew ?_))); (case side2 => exact HC0_1.out); (case side3 => repeat (first | exact (Kd.C_below HR0_3.out HB.out) | (with_reducible refine Kd.C_alloc ?_ _) | (with_reducible refine Kd.C_drewN ?_ _) | (with_reducible refine Kd.C_drew ?_))); (case side4 => exact HC0_3.out); (case side5 => repeat (first | exact (Kd.C_below HR0_4.out HB.out) | (with_reducible refine Kd.C_alloc ?_ _) | (with_reducible refine Kd.C_drewN ?_ _) | (with_reducible refine Kd.C_drew ?_))); (case side6 => exact HC0_4.out); (case side7 => repeat (first | exact (Kd.C_below HR0_5.out HB.out) | (with_reducible refine Kd.C_alloc ?_ _) | (with_reducible refine Kd.C_drewN ?_ _) | (with_reducible refine Kd.C_drew ?_))); (case side8 => exact HC0_5.out); rintro e w26 ⟨v379, rfl, ho0, hb⟩; have n0_ := Aside0.mk (Kd.R_below (by (with_reducible repeat (first | apply Kd.R_alloc | apply Kd.R_drewN | apply Kd.R_drew)); exact HO374.out) hb); have n1_ := Aside0.mk (Kd.R_below (by (with_reducible repeat (first | apply Kd.R_alloc | apply Kd.R_drewN | apply Kd.R_drew)); exact HO377.out) hb); have n2_ := Aside0.mk (Kd.S_lower (Kd.S_new' (Kd.S_new' ho0 (Kd.R_lt (by (with_reducible repeat (first | apply Kd.R_alloc | apply Kd.R_drewN | apply Kd.R_drew)); exact HO374.out))) (Kd.R_lt (by (with_reducible repeat (first | apply Kd.R_alloc | apply Kd.R_drewN | apply Kd.R_drew)); exact HO377.out))) (below_size (by repeat (first | (with_reducible first | exact HB.out | apply below_alloc | apply pw_below_drewN | apply below_drew1 | refine below_set ?_ GE369.out) | exact HB.out)))); have n3_ := Aside0.mk (blk_below (g := gb369) (o := .cells #[.string a0_0, .slice A0_1 l0_1.length c0_1, .string a0_2, .slice A0_3 l0_3.length c0_3, .slice A0_4 l0_4.length c0_4, .slice A0_5 l0_5.length c0_5] 26 (0, 0)) (by (with_reducible repeat (first | refine blk_drewN ?_ _ | refine blk_drew ?_ | refine blk_alloc ?_ _)); exact BK369.out) hb); have n4_ := Aside0.mk (below_step (by repeat (first | (with_reducible first | exact HB.out | apply below_alloc | apply pw_below_drewN | apply below_drew1 | refine below_set ?_ GE369.out) | exact HB.out)) hb); clear HO374; clear HO377; clear BK369; clear HB; have HO374 := n0_; have HO377 := n1_; have HO380 := n2_; have BK369 := n3_; have HB := n4_; clear n0_ n1_ n2_ n3_ n4_; (try clear hb); (try clear hb2); (try clear hk); (try clear hi); (try clear ho0); obtain ⟨Ao27, co27, eo27⟩ := Kd.R_slice HO374.out; subst eo27; obtain ⟨Ao28, co28, eo28⟩ := Kd.R_slice HO377.out; subst eo28; obtain ⟨Ao29, co29, eo29⟩ := Kd.S_slice HO380.out; subst eo29))
     repeat (go_quiet (first | ((with_reducible refine gate_dst (N := 3) rfl ?_); (try (refine gate_guard (by rfl) ?_; dsimp only)); refine box_event ?hg (N := 3) ?hd (cs := #[.string a0_0, .slice A0_1 l0_1.length c0_1, .string a0_2, .slice A0_3 l0_3.length c0_3, .slice A0_4 l0_4.length c0_4, .slice A0_5 l0_5.length c0_5]) (t := 26) ?hr ?_; (case hd => rfl); (case hg => rfl); (case hr => first | (go_simp; done) | (go_simp; rfl)); intro gb369 hg w17 hbox hb; have n0_ := Aside0.mk (below_step (by repeat (first | (with_reducible first | exact HB.out | apply below_alloc | apply pw_below_drewN | apply below_drew1) | exact HB.out)) hb); have n1_ := Aside0.mk (hbox); have n2_ := Aside0.mk ((by rw [hg]; exact (below_size (by repeat (first | (with_reducible first | exact HB.out | apply below_alloc | apply pw_below_drewN | apply below_drew1) | exact HB.out))) : w.heap.size ≤ gb369)); have n3_ := Aside0.mk ((by rw [hg]; exact (below_size (by repeat (first | (with_reducible first | exact HB.out | apply below_alloc | apply pw_below_drewN | apply below_drew1) | exact HB.out))) : w.heap.size ≤ gb369)); clear HB; have HB := n0_; have BK369 := n1_; have GW369 := n2_; have GE369 := n3_; clear n0_ n1_ n2_ n3_; clear hb hbox hg) | (go_at_call 38; (with_reducible refine (truantlaw10_awake.calls k  true _ A4.out).mono ?_); rintro e w18 ⟨rfl, hb⟩; have n0_ := Aside0.mk (blk_below (g := gb369) (o := .cells #[.string a0_0, .slice A0_1 l0_1.length c0_1, .string a0_2, .slice A0_3 l0_3.length c0_3, .slice A0_4 l0_4.length c0_4, .slice A0_5 l0_5.length c0_5] 26 (0, 0)) (by (with_reducible repeat (first | refine blk_drewN ?_ _ | refine blk_drew ?_ | refine blk_alloc ?_ _)); exact BK369.out) hb); have n1_ := Aside0.mk (below_step (by repeat (first | (with_reducible first | exact HB.out | apply below_alloc | apply pw_below_drewN | apply below_drew1 | refine below_set ?_ GE369.out) | exact HB.out)) hb); clear BK369; clear HB; have BK369 := n0_; have HB := n1_; clear n0_ n1_; (try clear hb); (try clear hb2); (try clear hk); (try clear hi); have hcz19_0 : w18.cell? ⟨gb369, 0, none⟩ = some (.string a0_0) := (blk_cell BK369.out 0).trans rfl; have hcz19_1 : w18.cell? ⟨gb369, 1, none⟩ = some (.slice A0_1 l0_1.length c0_1) := (blk_cell BK369.out 1).trans rfl; have hcz19_2 : w18.cell? ⟨gb369, 2, none⟩ = some (.string a0_2) := (blk_cell BK369.out 2).trans rfl; have hcz19_3 : w18.cell? ⟨gb369, 3, none⟩ = some (.slice A0_3 l0_3.length c0_3) := (blk_cell BK369.out 3).trans rfl; have hcz19_4 : w18.cell? ⟨gb369, 4, none⟩ = some (.slice A0_4 l0_4.length c0_4) := (blk_cell BK369.out 4).trans rfl; have hcz19_5 : w18.cell? ⟨gb369, 5, none⟩ = some (.slice A0_5 l0_5.length c0_5) := (blk_cell BK369.out 5).trans rfl; have hfz19_0 := blk_frozen BK369.out 0; have hfz19_1 := blk_frozen BK369.out 1; have hfz19_2 := blk_frozen BK369.out 2; have hfz19_3 := blk_frozen BK369.out 3; have hfz19_4 := blk_frozen BK369.out 4; have hfz19_5 := blk_frozen BK369.out 5) | (go_at_call 39; (with_reducible refine (truantlaw10_wide.calls a0_0 _ _ l0_1 a0_2 _ _ l0_3 _ _ l0_4 _ _ l0_5 false _ ?side1 ?side2 ?side3 ?side4 ?side5 ?side6 ?side7 ?side8 A6.out).mono ?_); (case side1 => repeat (first | exact (Kd.C_below HR0_1.out HB.out) | (with_reducible refine Kd.C_alloc ?_ _) | (with_reducible refine Kd.C_drewN ?_ _) | (with_reducible refine Kd.C_drew ?_))); (case side2 => exact HC0_1.out); (case side3 => repeat (first | exact (Kd.C_below HR0_3.out HB.out) | (with_reducible refine Kd.C_alloc ?_ _) | (with_reducible refine Kd.C_drewN ?_ _) | (with_reducible refine Kd.C_drew ?_))); (case side4 => exact HC0_3.out); (case side5 => repeat (first | exact (Kd.C_below HR0_4.out HB.out) | (with_reducible refine Kd.C_alloc ?_ _) | (with_reducible refine Kd.C_drewN ?_ _) | (with_reducible refine Kd.C_drew ?_))); (case side6 => exact HC0_4.out); (case side7 => repeat (first | exact (Kd.C_below HR0_5.out HB.out) | (with_reducible refine Kd.C_alloc ?_ _) | (with_reducible refine Kd.C_drewN ?_ _) | (with_reducible refine Kd.C_drew ?_))); (case side8 => exact HC0_5.out); rintro e w20 ⟨rfl, hb⟩; have n0_ := Aside0.mk (blk_below (g := gb369) (o := .cells #[.string a0_0, .slice A0_1 l0_1.length c0_1, .string a0_2, .slice A0_3 l0_3.length c0_3, .slice A0_4 l0_4.length c0_4, .slice A0_5 l0_5.length c0_5] 26 (0, 0)) (by (with_reducible repeat (first | refine blk_drewN ?_ _ | refine blk_drew ?_ | refine blk_alloc ?_ _)); exact BK369.out) hb); have n1_ := Aside0.mk (below_step (by repeat (first | (with_reducible first | exact HB.out | apply below_alloc | apply pw_below_drewN | apply below_drew1 | refine below_set ?_ GE369.out) | exact HB.out)) hb); clear BK369; clear HB; have BK369 := n0_; have HB := n1_; clear n0_ n1_; (try clear hb); (try clear hb2); (try clear hk); (try clear hi); have hcz21_0 : w20.cell? ⟨gb369, 0, none⟩ = some (.string a0_0) := (blk_cell BK369.out 0).trans rfl; have hcz21_1 : w20.cell? ⟨gb369, 1, none⟩ = some (.slice A0_1 l0_1.length c0_1) := (blk_cell BK369.out 1).trans rfl; have hcz21_2 : w20.cell? ⟨gb369, 2, none⟩ = some (.string a0_2) := (blk_cell BK369.out 2).trans rfl; have hcz21_3 : w20.cell? ⟨gb369, 3, none⟩ = some (.slice A0_3 l0_3.length c0_3) := (blk_cell BK369.out 3).trans rfl; have hcz21_4 : w20.cell? ⟨gb369, 4, none⟩ = some (.slice A0_4 l0_4.length c0_4) := (blk_cell BK369.out 4).trans rfl; have hcz21_5 : w20.cell? ⟨gb369, 5, none⟩ = some (.slice A0_5 l0_5.length c0_5) := (blk_cell BK369.out 5).trans rfl; have hfz21_0 := blk_frozen BK369.out 0; have hfz21_1 := blk_frozen BK369.out 1; have hfz21_2 := blk_frozen BK369.out 2; have hfz21_3 := blk_frozen BK369.out 3; have hfz21_4 := blk_frozen BK369.out 4; have hfz21_5 := blk_frozen BK369.out 5) | (go_at_call 40; (with_reducible refine (dom_Nearest.calls a0_0 _ _ l0_1 a0_2 _ _ l0_3 _ _ l0_4 _ _ l0_5 t372 _ ?side1 ?side2 ?side3 ?side4 ?side5 ?side6 ?side7 ?side8 A12.out).mono ?_); (case side1 => repeat (first | exact (Kd.C_below HR0_1.out HB.out) | (with_reducible refine Kd.C_alloc ?_ _) | (with_reducible refine Kd.C_drewN ?_ _) | (with_reducible refine Kd.C_drew ?_))); (case side2 => exact HC0_1.out); (case side3 => repeat (first | exact (Kd.C_below HR0_3.out HB.out) | (with_reducible refine Kd.C_alloc ?_ _) | (with_reducible refine Kd.C_drewN ?_ _) | (with_reducible refine Kd.C_drew ?_))); (case side4 => exact HC0_3.out); (case side5 => repeat (first | exact (Kd.C_below HR0_4.out HB.out) | (with_reducible refine Kd.C_alloc ?_ _) | (with_reducible refine Kd.C_drewN ?_ _) | (with_reducible refine Kd.C_drew ?_))); (case side6 => exact HC0_4.out); (case side7 => repeat (first | exact (Kd.C_below HR0_5.out HB.out) | (with_reducible refine Kd.C_alloc ?_ _) | (with_reducible refine Kd.C_drewN ?_ _) | (with_reducible refine Kd.C_drew ?_))); (case side8 => exact HC0_5.out); rintro e w22 ⟨v373, rfl, ho0, hb⟩; have n0_ := Aside0.mk (Kd.R_lower ho0 (below_size (by repeat (first | (with_reducible first | exact HB.out | apply below_alloc | apply pw_below_drewN | apply below_drew1 | refine below_set ?_ GE369.out) | exact HB.out)))); have n1_ := Aside0.mk (blk_below (g := gb369) (o := .cells #[.string a0_0, .slice A0_1 l0_1.length c0_1, .string a0_2, .slice A0_3 l0_3.length c0_3, .slice A0_4 l0_4.length c0_4, .slice A0_5 l0_5.length c0_5] 26 (0, 0)) (by (with_reducible repeat (first | refine blk_drewN ?_ _ | refine blk_drew ?_ | refine blk_alloc ?_ _)); exact BK369.out) hb); have n2_ := Aside0.mk (below_step (by repeat (first | (with_reducible first | exact HB.out | apply below_alloc | apply pw_below_drewN | apply below_drew1 | refine below_set ?_ GE369.out) | exact HB.out)) hb); clear BK369; clear HB; have HO374 := n0_; have BK369 := n1_; have HB := n2_; clear n0_ n1_ n2_; (try clear hb); (try clear hb2); (try clear hk); (try clear hi); (try clear ho0); have hcz23_0 : w22.cell? ⟨gb369, 0, none⟩ = some (.string a0_0) := (blk_cell BK369.out 0).trans rfl; have hcz23_1 : w22.cell? ⟨gb369, 1, none⟩ = some (.slice A0_1 l0_1.length c0_1) := (blk_cell BK369.out 1).trans rfl; have hcz23_2 : w22.cell? ⟨gb369, 2, none⟩ = some (.string a0_2) := (blk_cell BK369.out 2).trans rfl; have hcz23_3 : w22.cell? ⟨gb369, 3, none⟩ = some (.slice A0_3 l0_3.length c0_3) := (blk_cell BK369.out 3).trans rfl; have hcz23_4 : w22.cell? ⟨gb369, 4, none⟩ = some (.slice A0_4 l0_4.length c0_4) := (blk_cell BK369.out 4).trans rfl; have hcz23_5 : w22.cell? ⟨gb369, 5, none⟩ = some (.slice A0_5 l0_5.length c0_5) := (blk_cell BK369.out 5).trans rfl; have hfz23_0 := blk_frozen BK369.out 0; have hfz23_1 := blk_frozen BK369.out 1; have hfz23_2 := blk_frozen BK369.out 2; have hfz23_3 := blk_frozen BK369.out 3; have hfz23_4 := blk_frozen BK369.out 4; have hfz23_5 := blk_frozen BK369.out 5) | (go_at_call 41; (with_reducible refine (truantref10_Nearest.calls k a0_0 _ _ l0_1 a0_2 _ _ l0_3 _ _ l0_4 _ _ l0_5 t375 _ ?side1 ?side2 ?side3 ?side4 ?side5 ?side6 ?side7 ?side8 A13.out).mono ?_); (case side1 => repeat (first | exact (Kd.C_below HR0_1.out HB.out) | (with_reducible refine Kd.C_alloc ?_ _) | (with_reducible refine Kd.C_drewN ?_ _) | (with_reducible refine Kd.C_drew ?_))); (case side2 => exact HC0_1.out); (case side3 => repeat (first | exact (Kd.C_below HR0_3.out HB.out) | (with_reducible refine Kd.C_alloc ?_ _) | (with_reducible refine Kd.C_drewN ?_ _) | (with_reducible refine Kd.C_drew ?_))); (case side4 => exact HC0_3.out); (case side5 => repeat (first | exact (Kd.C_below HR0_4.out HB.out) | (with_reducible refine Kd.C_alloc ?_ _) | (with_reducible refine Kd.C_drewN ?_ _) | (with_reducible refine Kd.C_drew ?_))); (case side6 => exact HC0_4.out); (case side7 => repeat (first | exact (Kd.C_below HR0_5.out HB.out) | (with_reducible refine Kd.C_alloc ?_ _) | (with_reducible refine Kd.C_drewN ?_ _) | (with_reducible refine Kd.C_drew ?_))); (case side8 => exact HC0_5.out); rintro e w24 ⟨v376, rfl, ho0, hb⟩; have n0_ := Aside0.mk (Kd.R_elder' (by (with_reducible repeat (first | apply Kd.R_alloc | apply Kd.R_drewN | apply Kd.R_drew)); exact HO374.out) (Kd.R_base ho0) hb); have n1_ := Aside0.mk (Kd.R_lower (Kd.R_new' ho0 (Kd.R_lt (by (with_reducible repeat (first | apply Kd.R_alloc | apply Kd.R_drewN | apply Kd.R_drew)); exact HO374.out))) (below_size (by repeat (first | (with_reducible first | exact HB.out | apply below_alloc | apply pw_below_drewN | apply below_drew1 | refine below_set ?_ GE369.out) | exact HB.out)))); have n2_ := Aside0.mk (blk_below (g := gb369) (o := .cells #[.string a0_0, .slice A0_1 l0_1.length c0_1, .string a0_2, .slice A0_3 l0_3.length c0_3, .slice A0_4 l0_4.length c0_4, .slice A0_5 l0_5.length c0_5] 26 (0, 0)) (by (with_reducible repeat (first | refine blk_drewN ?_ _ | refine blk_drew ?_ | refine blk_alloc ?_ _)); exact BK369.out) hb); have n3_ := Aside0.mk (below_step (by repeat (first | (with_reducible first | exact HB.out | apply below_alloc | apply pw_below_drewN | apply below_drew1 | refine below_set ?_ GE369.out) | exact HB.out)) hb); clear HO374; clear BK369; clear HB; have HO374 := n0_; have HO377 := n1_; have BK369 := n2_; have HB := n3_; clear n0_ n1_ n2_ n3_; (try clear hb); (try clear hb2); (try clear hk); (try clear hi); (try clear ho0); have hcz25_0 : w24.cell? ⟨gb369, 0, none⟩ = some (.string a0_0) := (blk_cell BK369.out 0).trans rfl; have hcz25_1 : w24.cell? ⟨gb369, 1, none⟩ = some (.slice A0_1 l0_1.length c0_1) := (blk_cell BK369.out 1).trans rfl; have hcz25_2 : w24.cell? ⟨gb369, 2, none⟩ = some (.string a0_2) := (blk_cell BK369.out 2).trans rfl; have hcz25_3 : w24.cell? ⟨gb369, 3, none⟩ = some (.slice A0_3 l0_3.length c0_3) := (blk_cell BK369.out 3).trans rfl; have hcz25_4 : w24.cell? ⟨gb369, 4, none⟩ = some (.slice A0_4 l0_4.length c0_4) := (blk_cell BK369.out 4).trans rfl; have hcz25_5 : w24.cell? ⟨gb369, 5, none⟩ = some (.slice A0_5 l0_5.length c0_5) := (blk_cell BK369.out 5).trans rfl; have hfz25_0 := blk_frozen BK369.out 0; have hfz25_1 := blk_frozen BK369.out 1; have hfz25_2 := blk_frozen BK369.out 2; have hfz25_3 := blk_frozen BK369.out 3; have hfz25_4 := blk_frozen BK369.out 4; have hfz25_5 := blk_frozen BK369.out 5) | (go_at_call 42; (with_reducible refine (dom_Under.calls k a0_0 _ _ l0_1 a0_2 _ _ l0_3 _ _ l0_4 _ _ l0_5 t378 _ ?side1 ?side2 ?side3 ?side4 ?side5 ?side6 ?side7 ?side8 A14.out).mono ?_); (case side1 => repeat (first | exact (Kd.C_below HR0_1.out HB.out) | (with_reducible refine Kd.C_alloc ?_ _) | (with_reducible refine Kd.C_drewN ?_ _) | (with_reducible refine Kd.C_drew ?_))); (case side2 => exact HC0_1.out); (case side3 => repeat (first | exact (Kd.C_below HR0_3.out HB.out) | (with_reducible refine Kd.C_alloc ?_ _) | (with_reducible refine Kd.C_drewN ?_ _) | (with_reducible refine Kd.C_drew ?_))); (case side4 => exact HC0_3.out); (case side5 => repeat (first | exact (Kd.C_below HR0_4.out HB.out) | (with_reducible refine Kd.C_alloc ?_ _) | (with_reducible refine Kd.C_drewN ?_ _) | (with_reducible refine Kd.C_drew ?_))); (case side6 => exact HC0_4.out); (case side7 => repeat (first | exact (Kd.C_below HR0_5.out HB.out) | (with_reducible refine Kd.C_alloc ?_ _) | (with_reducible refine Kd.C_drewN ?_ _) | (with_reducible refine Kd.C_drew ?_))); (case side8 => exact HC0_5.out); rintro e w26 ⟨v379, rfl, ho0, hb⟩; have n0_ := Aside0.mk (Kd.R_below (by (with_reducible repeat (first | apply Kd.R_alloc | apply Kd.R_drewN | apply Kd.R_drew)); exact HO374.out) hb); have n1_ := Aside0.mk (Kd.R_below (by (with_reducible repeat (first | apply Kd.R_alloc | apply Kd.R_drewN | apply Kd.R_drew)); exact HO377.out) hb); have n2_ := Aside0.mk (Kd.S_lower (Kd.S_new' (Kd.S_new' ho0 (Kd.R_lt (by (with_reducible repeat (first | apply Kd.R_alloc | apply Kd.R_drewN | apply Kd.R_drew)); exact HO374.out))) (Kd.R_lt (by (with_reducible repeat (first | apply Kd.R_alloc | apply Kd.R_drewN | apply Kd.R_drew)); exact HO377.out))) (below_size (by repeat (first | (with_reducible first | exact HB.out | apply below_alloc | apply pw_below_drewN | apply below_drew1 | refine below_set ?_ GE369.out) | exact HB.out)))); have n3_ := Aside0.mk (blk_below (g := gb369) (o := .cells #[.string a0_0, .slice A0_1 l0_1.length c0_1, .string a0_2, .slice A0_3 l0_3.length c0_3, .slice A0_4 l0_4.length c0_4, .slice A0_5 l0_5.length c0_5] 26 (0, 0)) (by (with_reducible repeat (first | refine blk_drewN ?_ _ | refine blk_drew ?_ | refine blk_alloc ?_ _)); exact BK369.out) hb); have n4_ := Aside0.mk (below_step (by repeat (first | (with_reducible first | exact HB.out | apply below_alloc | apply pw_below_drewN | apply below_drew1 | refine below_set ?_ GE369.out) | exact HB.out)) hb); clear HO374; clear HO377; clear BK369; clear HB; have HO374 := n0_; have HO377 := n1_; have HO380 := n2_; have BK369 := n3_; have HB := n4_; clear n0_ n1_ n2_ n3_ n4_; (try clear hb); (try clear hb2); (try clear hk); (try clear hi); (try clear ho0); obtain ⟨Ao27, co27, eo27⟩ := Kd.R_slice HO374.out; subst eo27; obtain ⟨Ao28, co28, eo28⟩ := Kd.R_slice HO377.out; subst eo28; obtain ⟨Ao29, co29, eo29⟩ := Kd.S_slice HO380.out; subst eo29)); try go_wp2_with (first | ((with_reducible refine gate_dst (N := 3) rfl ?_); (try (refine gate_guard (by rfl) ?_; dsimp only)); refine box_event ?hg (N := 3) ?hd (cs := #[.string a0_0, .slice A0_1 l0_1.length c0_1, .string a0_2, .slice A0_3 l0_3.length c0_3, .slice A0_4 l0_4.length c0_4, .slice A0_5 l0_5.length c0_5]) (t := 26) ?hr ?_; (case hd => rfl); (case hg => rfl); (case hr => first | (go_simp; done) | (go_simp; rfl)); intro gb369 hg w17 hbox hb; have n0_ := Aside0.mk (below_step (by repeat (first | (with_reducible first | exact HB.out | apply below_alloc | apply pw_below_drewN | apply below_drew1) | exact HB.out)) hb); have n1_ := Aside0.mk (hbox); have n2_ := Aside0.mk ((by rw [hg]; exact (below_size (by repeat (first | (with_reducible first | exact HB.out | apply below_alloc | apply pw_below_drewN | apply below_drew1) | exact HB.out))) : w.heap.size ≤ gb369)); have n3_ := Aside0.mk ((by rw [hg]; exact (below_size (by repeat (first | (with_reducible first | exact HB.out | apply below_alloc | apply pw_below_drewN | apply below_drew1) | exact HB.out))) : w.heap.size ≤ gb369)); clear HB; have HB := n0_; have BK369 := n1_; have GW369 := n2_; have GE369 := n3_; clear n0_ n1_ n2_ n3_; clear hb hbox hg) | (go_at_call 38; (with_reducible refine (truantlaw10_awake.calls k  true _ A4.out).mono ?_); rintro e w18 ⟨rfl, hb⟩; have n0_ := Aside0.mk (blk_below (g := gb369) (o := .cells #[.string a0_0, .slice A0_1 l0_1.length c0_1, .string a0_2, .slice A0_3 l0_3.length c0_3, .slice A0_4 l0_4.length c0_4, .slice A0_5 l0_5.length c0_5] 26 (0, 0)) (by (with_reducible repeat (first | refine blk_drewN ?_ _ | refine blk_drew ?_ | refine blk_alloc ?_ _)); exact BK369.out) hb); have n1_ := Aside0.mk (below_step (by repeat (first | (with_reducible first | exact HB.out | apply below_alloc | apply pw_below_drewN | apply below_drew1 | refine below_set ?_ GE369.out) | exact HB.out)) hb); clear BK369; clear HB; have BK369 := n0_; have HB := n1_; clear n0_ n1_; (try clear hb); (try clear hb2); (try clear hk); (try clear hi); have hcz19_0 : w18.cell? ⟨gb369, 0, none⟩ = some (.string a0_0) := (blk_cell BK369.out 0).trans rfl; have hcz19_1 : w18.cell? ⟨gb369, 1, none⟩ = some (.slice A0_1 l0_1.length c0_1) := (blk_cell BK369.out 1).trans rfl; have hcz19_2 : w18.cell? ⟨gb369, 2, none⟩ = some (.string a0_2) := (blk_cell BK369.out 2).trans rfl; have hcz19_3 : w18.cell? ⟨gb369, 3, none⟩ = some (.slice A0_3 l0_3.length c0_3) := (blk_cell BK369.out 3).trans rfl; have hcz19_4 : w18.cell? ⟨gb369, 4, none⟩ = some (.slice A0_4 l0_4.length c0_4) := (blk_cell BK369.out 4).trans rfl; have hcz19_5 : w18.cell? ⟨gb369, 5, none⟩ = some (.slice A0_5 l0_5.length c0_5) := (blk_cell BK369.out 5).trans rfl; have hfz19_0 := blk_frozen BK369.out 0; have hfz19_1 := blk_frozen BK369.out 1; have hfz19_2 := blk_frozen BK369.out 2; have hfz19_3 := blk_frozen BK369.out 3; have hfz19_4 := blk_frozen BK369.out 4; have hfz19_5 := blk_frozen BK369.out 5) | (go_at_call 39; (with_reducible refine (truantlaw10_wide.calls a0_0 _ _ l0_1 a0_2 _ _ l0_3 _ _ l0_4 _ _ l0_5 false _ ?side1 ?side2 ?side3 ?side4 ?side5 ?side6 ?side7 ?side8 A6.out).mono ?_); (case side1 => repeat (first | exact (Kd.C_below HR0_1.out HB.out) | (with_reducible refine Kd.C_alloc ?_ _) | (with_reducible refine Kd.C_drewN ?_ _) | (with_reducible refine Kd.C_drew ?_))); (case side2 => exact HC0_1.out); (case side3 => repeat (first | exact (Kd.C_below HR0_3.out HB.out) | (with_reducible refine Kd.C_alloc ?_ _) | (with_reducible refine Kd.C_drewN ?_ _) | (with_reducible refine Kd.C_drew ?_))); (case side4 => exact HC0_3.out); (case side5 => repeat (first | exact (Kd.C_below HR0_4.out HB.out) | (with_reducible refine Kd.C_alloc ?_ _) | (with_reducible refine Kd.C_drewN ?_ _) | (with_reducible refine Kd.C_drew ?_))); (case side6 => exact HC0_4.out); (case side7 => repeat (first | exact (Kd.C_below HR0_5.out HB.out) | (with_reducible refine Kd.C_alloc ?_ _) | (with_reducible refine Kd.C_drewN ?_ _) | (with_reducible refine Kd.C_drew ?_))); (case side8 => exact HC0_5.out); rintro e w20 ⟨rfl, hb⟩; have n0_ := Aside0.mk (blk_below (g := gb369) (o := .cells #[.string a0_0, .slice A0_1 l0_1.length c0_1, .string a0_2, .slice A0_3 l0_3.length c0_3, .slice A0_4 l0_4.length c0_4, .slice A0_5 l0_5.length c0_5] 26 (0, 0)) (by (with_reducible repeat (first | refine blk_drewN ?_ _ | refine blk_drew ?_ | refine blk_alloc ?_ _)); exact BK369.out) hb); have n1_ := Aside0.mk (below_step (by repeat (first | (with_reducible first | exact HB.out | apply below_alloc | apply pw_below_drewN | apply below_drew1 | refine below_set ?_ GE369.out) | exact HB.out)) hb); clear BK369; clear HB; have BK369 := n0_; have HB := n1_; clear n0_ n1_; (try clear hb); (try clear hb2); (try clear hk); (try clear hi); have hcz21_0 : w20.cell? ⟨gb369, 0, none⟩ = some (.string a0_0) := (blk_cell BK369.out 0).trans rfl; have hcz21_1 : w20.cell? ⟨gb369, 1, none⟩ = some (.slice A0_1 l0_1.length c0_1) := (blk_cell BK369.out 1).trans rfl; have hcz21_2 : w20.cell? ⟨gb369, 2, none⟩ = some (.string a0_2) := (blk_cell BK369.out 2).trans rfl; have hcz21_3 : w20.cell? ⟨gb369, 3, none⟩ = some (.slice A0_3 l0_3.length c0_3) := (blk_cell BK369.out 3).trans rfl; have hcz21_4 : w20.cell? ⟨gb369, 4, none⟩ = some (.slice A0_4 l0_4.length c0_4) := (blk_cell BK369.out 4).trans rfl; have hcz21_5 : w20.cell? ⟨gb369, 5, none⟩ = some (.slice A0_5 l0_5.length c0_5) := (blk_cell BK369.out 5).trans rfl; have hfz21_0 := blk_frozen BK369.out 0; have hfz21_1 := blk_frozen BK369.out 1; have hfz21_2 := blk_frozen BK369.out 2; have hfz21_3 := blk_frozen BK369.out 3; have hfz21_4 := blk_frozen BK369.out 4; have hfz21_5 := blk_frozen BK369.out 5) | (go_at_call 40; (with_reducible refine (dom_Nearest.calls a0_0 _ _ l0_1 a0_2 _ _ l0_3 _ _ l0_4 _ _ l0_5 t372 _ ?side1 ?side2 ?side3 ?side4 ?side5 ?side6 ?side7 ?side8 A12.out).mono ?_); (case side1 => repeat (first | exact (Kd.C_below HR0_1.out HB.out) | (with_reducible refine Kd.C_alloc ?_ _) | (with_reducible refine Kd.C_drewN ?_ _) | (with_reducible refine Kd.C_drew ?_))); (case side2 => exact HC0_1.out); (case side3 => repeat (first | exact (Kd.C_below HR0_3.out HB.out) | (with_reducible refine Kd.C_alloc ?_ _) | (with_reducible refine Kd.C_drewN ?_ _) | (with_reducible refine Kd.C_drew ?_))); (case side4 => exact HC0_3.out); (case side5 => repeat (first | exact (Kd.C_below HR0_4.out HB.out) | (with_reducible refine Kd.C_alloc ?_ _) | (with_reducible refine Kd.C_drewN ?_ _) | (with_reducible refine Kd.C_drew ?_))); (case side6 => exact HC0_4.out); (case side7 => repeat (first | exact (Kd.C_below HR0_5.out HB.out) | (with_reducible refine Kd.C_alloc ?_ _) | (with_reducible refine Kd.C_drewN ?_ _) | (with_reducible refine Kd.C_drew ?_))); (case side8 => exact HC0_5.out); rintro e w22 ⟨v373, rfl, ho0, hb⟩; have n0_ := Aside0.mk (Kd.R_lower ho0 (below_size (by repeat (first | (with_reducible first | exact HB.out | apply below_alloc | apply pw_below_drewN | apply below_drew1 | refine below_set ?_ GE369.out) | exact HB.out)))); have n1_ := Aside0.mk (blk_below (g := gb369) (o := .cells #[.string a0_0, .slice A0_1 l0_1.length c0_1, .string a0_2, .slice A0_3 l0_3.length c0_3, .slice A0_4 l0_4.length c0_4, .slice A0_5 l0_5.length c0_5] 26 (0, 0)) (by (with_reducible repeat (first | refine blk_drewN ?_ _ | refine blk_drew ?_ | refine blk_alloc ?_ _)); exact BK369.out) hb); have n2_ := Aside0.mk (below_step (by repeat (first | (with_reducible first | exact HB.out | apply below_alloc | apply pw_below_drewN | apply below_drew1 | refine below_set ?_ GE369.out) | exact HB.out)) hb); clear BK369; clear HB; have HO374 := n0_; have BK369 := n1_; have HB := n2_; clear n0_ n1_ n2_; (try clear hb); (try clear hb2); (try clear hk); (try clear hi); (try clear ho0); have hcz23_0 : w22.cell? ⟨gb369, 0, none⟩ = some (.string a0_0) := (blk_cell BK369.out 0).trans rfl; have hcz23_1 : w22.cell? ⟨gb369, 1, none⟩ = some (.slice A0_1 l0_1.length c0_1) := (blk_cell BK369.out 1).trans rfl; have hcz23_2 : w22.cell? ⟨gb369, 2, none⟩ = some (.string a0_2) := (blk_cell BK369.out 2).trans rfl; have hcz23_3 : w22.cell? ⟨gb369, 3, none⟩ = some (.slice A0_3 l0_3.length c0_3) := (blk_cell BK369.out 3).trans rfl; have hcz23_4 : w22.cell? ⟨gb369, 4, none⟩ = some (.slice A0_4 l0_4.length c0_4) := (blk_cell BK369.out 4).trans rfl; have hcz23_5 : w22.cell? ⟨gb369, 5, none⟩ = some (.slice A0_5 l0_5.length c0_5) := (blk_cell BK369.out 5).trans rfl; have hfz23_0 := blk_frozen BK369.out 0; have hfz23_1 := blk_frozen BK369.out 1; have hfz23_2 := blk_frozen BK369.out 2; have hfz23_3 := blk_frozen BK369.out 3; have hfz23_4 := blk_frozen BK369.out 4; have hfz23_5 := blk_frozen BK369.out 5) | (go_at_call 41; (with_reducible refine (truantref10_Nearest.calls k a0_0 _ _ l0_1 a0_2 _ _ l0_3 _ _ l0_4 _ _ l0_5 t375 _ ?side1 ?side2 ?side3 ?side4 ?side5 ?side6 ?side7 ?side8 A13.out).mono ?_); (case side1 => repeat (first | exact (Kd.C_below HR0_1.out HB.out) | (with_reducible refine Kd.C_alloc ?_ _) | (with_reducible refine Kd.C_drewN ?_ _) | (with_reducible refine Kd.C_drew ?_))); (case side2 => exact HC0_1.out); (case side3 => repeat (first | exact (Kd.C_below HR0_3.out HB.out) | (with_reducible refine Kd.C_alloc ?_ _) | (with_reducible refine Kd.C_drewN ?_ _) | (with_reducible refine Kd.C_drew ?_))); (case side4 => exact HC0_3.out); (case side5 => repeat (first | exact (Kd.C_below HR0_4.out HB.out) | (with_reducible refine Kd.C_alloc ?_ _) | (with_reducible refine Kd.C_drewN ?_ _) | (with_reducible refine Kd.C_drew ?_))); (case side6 => exact HC0_4.out); (case side7 => repeat (first | exact (Kd.C_below HR0_5.out HB.out) | (with_reducible refine Kd.C_alloc ?_ _) | (with_reducible refine Kd.C_drewN ?_ _) | (with_reducible refine Kd.C_drew ?_))); (case side8 => exact HC0_5.out); rintro e w24 ⟨v376, rfl, ho0, hb⟩; have n0_ := Aside0.mk (Kd.R_elder' (by (with_reducible repeat (first | apply Kd.R_alloc | apply Kd.R_drewN | apply Kd.R_drew)); exact HO374.out) (Kd.R_base ho0) hb); have n1_ := Aside0.mk (Kd.R_lower (Kd.R_new' ho0 (Kd.R_lt (by (with_reducible repeat (first | apply Kd.R_alloc | apply Kd.R_drewN | apply Kd.R_drew)); exact HO374.out))) (below_size (by repeat (first | (with_reducible first | exact HB.out | apply below_alloc | apply pw_below_drewN | apply below_drew1 | refine below_set ?_ GE369.out) | exact HB.out)))); have n2_ := Aside0.mk (blk_below (g := gb369) (o := .cells #[.string a0_0, .slice A0_1 l0_1.length c0_1, .string a0_2, .slice A0_3 l0_3.length c0_3, .slice A0_4 l0_4.length c0_4, .slice A0_5 l0_5.length c0_5] 26 (0, 0)) (by (with_reducible repeat (first | refine blk_drewN ?_ _ | refine blk_drew ?_ | refine blk_alloc ?_ _)); exact BK369.out) hb); have n3_ := Aside0.mk (below_step (by repeat (first | (with_reducible first | exact HB.out | apply below_alloc | apply pw_below_drewN | apply below_drew1 | refine below_set ?_ GE369.out) | exact HB.out)) hb); clear HO374; clear BK369; clear HB; have HO374 := n0_; have HO377 := n1_; have BK369 := n2_; have HB := n3_; clear n0_ n1_ n2_ n3_; (try clear hb); (try clear hb2); (try clear hk); (try clear hi); (try clear ho0); have hcz25_0 : w24.cell? ⟨gb369, 0, none⟩ = some (.string a0_0) := (blk_cell BK369.out 0).trans rfl; have hcz25_1 : w24.cell? ⟨gb369, 1, none⟩ = some (.slice A0_1 l0_1.length c0_1) := (blk_cell BK369.out 1).trans rfl; have hcz25_2 : w24.cell? ⟨gb369, 2, none⟩ = some (.string a0_2) := (blk_cell BK369.out 2).trans rfl; have hcz25_3 : w24.cell? ⟨gb369, 3, none⟩ = some (.slice A0_3 l0_3.length c0_3) := (blk_cell BK369.out 3).trans rfl; have hcz25_4 : w24.cell? ⟨gb369, 4, none⟩ = some (.slice A0_4 l0_4.length c0_4) := (blk_cell BK369.out 4).trans rfl; have hcz25_5 : w24.cell? ⟨gb369, 5, none⟩ = some (.slice A0_5 l0_5.length c0_5) := (blk_cell BK369.out 5).trans rfl; have hfz25_0 := blk_frozen BK369.out 0; have hfz25_1 := blk_frozen BK369.out 1; have hfz25_2 := blk_frozen BK369.out 2; have hfz25_3 := blk_frozen BK369.out 3; have hfz25_4 := blk_frozen BK369.out 4; have hfz25_5 := blk_frozen BK369.out 5) | (go_at_call 42; (with_reducible refine (dom_Under.calls k a0_0 _ _ l0_1 a0_2 _ _ l0_3 _ _ l0_4 _ _ l0_5 t378 _ ?side1 ?side2 ?side3 ?side4 ?side5 ?side6 ?side7 ?side8 A14.out).mono ?_); (case side1 => repeat (first | exact (Kd.C_below HR0_1.out HB.out) | (with_reducible refine Kd.C_alloc ?_ _) | (with_reducible refine Kd.C_drewN ?_ _) | (with_reducible refine Kd.C_drew ?_))); (case side2 => exact HC0_1.out); (case side3 => repeat (first | exact (Kd.C_below HR0_3.out HB.out) | (with_reducible refine Kd.C_alloc ?_ _) | (with_reducible refine Kd.C_drewN ?_ _) | (with_reducible refine Kd.C_drew ?_))); (case side4 => exact HC0_3.out); (case side5 => repeat (first | exact (Kd.C_below HR0_4.out HB.out) | (with_reducible refine Kd.C_alloc ?_ _) | (with_reducible refine Kd.C_drewN ?_ _) | (with_reducible refine Kd.C_drew ?_))); (case side6 => exact HC0_4.out); (case side7 => repeat (first | exact (Kd.C_below HR0_5.out HB.out) | (with_reducible refine Kd.C_alloc ?_ _) | (with_reducible refine Kd.C_drewN ?_ _) | (with_reducible refine Kd.C_drew ?_))); (case side8 => exact HC0_5.out); rintro e w26 ⟨v379, rfl, ho0, hb⟩; have n0_ := Aside0.mk (Kd.R_below (by (with_reducible repeat (first | apply Kd.R_alloc | apply Kd.R_drewN | apply Kd.R_drew)); exact HO374.out) hb); have n1_ := Aside0.mk (Kd.R_below (by (with_reducible repeat (first | apply Kd.R_alloc | apply Kd.R_drewN | apply Kd.R_drew)); exact HO377.out) hb); have n2_ := Aside0.mk (Kd.S_lower (Kd.S_new' (Kd.S_new' ho0 (Kd.R_lt (by (with_reducible repeat (first | apply Kd.R_alloc | apply Kd.R_drewN | apply Kd.R_drew)); exact HO374.out))) (Kd.R_lt (by (with_reducible repeat (first | apply Kd.R_alloc | apply Kd.R_drewN | apply Kd.R_drew)); exact HO377.out))) (below_size (by repeat (first | (with_reducible first | exact HB.out | apply below_alloc | apply pw_below_drewN | apply below_drew1 | refine below_set ?_ GE369.out) | exact HB.out)))); have n3_ := Aside0.mk (blk_below (g := gb369) (o := .cells #[.string a0_0, .slice A0_1 l0_1.length c0_1, .string a0_2, .slice A0_3 l0_3.length c0_3, .slice A0_4 l0_4.length c0_4, .slice A0_5 l0_5.length c0_5] 26 (0, 0)) (by (with_reducible repeat (first | refine blk_drewN ?_ _ | refine blk_drew ?_ | refine blk_alloc ?_ _)); exact BK369.out) hb); have n4_ := Aside0.mk (below_step (by repeat (first | (with_reducible first | exact HB.out | apply below_alloc | apply pw_below_drewN | apply below_drew1 | refine below_set ?_ GE369.out) | exact HB.out)) hb); clear HO374; clear HO377; clear BK369; clear HB; have HO374 := n0_; have HO377 := n1_; have HO380 := n2_; have BK369 := n3_; have HB := n4_; clear n0_ n1_ n2_ n3_ n4_; (try clear hb); (try clear hb2); (try clear hk); (try clear hi); (try clear ho0); obtain ⟨Ao27, co27, eo27⟩ := Kd.R_slice HO374.out; subst eo27; obtain ⟨Ao28, co28, eo28⟩ := Kd.R_slice HO377.out; subst eo28; obtain ⟨Ao29, co29, eo29⟩ := Kd.S_slice HO380.out; subst eo29)))
     go_loopg [10, 11] k (fun kq v10 v11 w' => ∃ (x10_1 : Int) (x11_1 : Int), v10 = .int .i64 x10_1 ∧ v11 = .int .i64 x11_1 ∧ Aside0 (truantlaw10_DomExact.l0 kq a1 a2 t372 t375 t378 x10_1 x11_1 a0_0 l0_1 a0_2 l0_3 l0_4 l0_5 = some r) ∧ Aside0 (kq ≤ k) ∧ Aside0 (Kd.R (Kd.int .i64) 3 w' w.heap.size (fun k_ => some k_ ≠ ((.slice Ao28 t375.length co28) : Value).ownBlock) (.slice Ao27 t372.length co27) t372) ∧ Aside0 (Kd.R (Kd.int .i64) 3 w' w.heap.size (fun k_ => some k_ ≠ ((.slice Ao27 t372.length co27) : Value).ownBlock) (.slice Ao28 t375.length co28) t375) ∧ Aside0 (Kd.S (Kd.slice 3 (Kd.int .i64)) 34 w' w.heap.size (fun k_ => some k_ ≠ ((.slice Ao27 t372.length co27) : Value).ownBlock ∧ some k_ ≠ ((.slice Ao28 t375.length co28) : Value).ownBlock) (.slice Ao29 t378.length co29) t378) ∧ Aside0 (w'.heap[gb369]? = some (.cells #[.string a0_0, (.slice A0_1 l0_1.length c0_1), .string a0_2, (.slice A0_3 l0_3.length c0_3), (.slice A0_4 l0_4.length c0_4), (.slice A0_5 l0_5.length c0_5)] 26 (0, 0))) ∧ Aside0 (Below w.heap.size w w'))
     case atStart => exact ⟨(0), (0), (by first | rfl | (simp; done) | (simp [*]; done)), (by first | rfl | (simp; done) | (simp [*]; done)), H', ⟨Nat.le_refl _⟩, ⟨by (with_reducible repeat (first | apply Kd.R_alloc | apply Kd.R_drewN | apply Kd.R_drew)); exact Kd.R_mono HO374.out (fun _ hk => hk.2)⟩, ⟨by (with_reducible repeat (first | apply Kd.R_alloc | apply Kd.R_drewN | apply Kd.R_drew)); exact Kd.R_mono HO377.out (fun _ hk => hk.2)⟩, ⟨by (with_reducible repeat (first | apply Kd.S_alloc | apply Kd.S_drewN | apply Kd.S_drew)); exact Kd.S_mono HO380.out (fun _ hk => ⟨hk.1.2, hk.2⟩)⟩, ⟨by (with_reducible repeat (first | refine blk_drewN ?_ _ | refine blk_drew ?_ | refine blk_alloc ?_ _)); exact BK369.out⟩, ⟨by repeat (first | (with_reducible first | exact HB.out | apply below_alloc | apply pw_below_drewN | apply below_drew1 | refine below_set ?_ GE369.out) | exact HB.out)⟩⟩
     case round =>
      clear H'
      try clear c1
      try clear p2
      try clear c5
      try clear c7
      try clear c10
      try clear c15
      try clear c15b0
      try clear c15b1
      try clear c15b2
      try clear c16
      try clear c16b0
      try clear c16b1
      try clear c16b2
      try clear hcz10_0
      try clear hcz10_1
      try clear hcz10_2
      try clear hcz10_3
      try clear hcz10_4
      try clear hcz10_5
      try clear hcz19_0
      try clear hcz19_1
      try clear hcz19_2
      try clear hcz19_3
      try clear hcz19_4
      try clear hcz19_5
      try clear hcz21_0
      try clear hcz21_1
      try clear hcz21_2
      try clear hcz21_3
      try clear hcz21_4
      try clear hcz21_5
      try clear hcz23_0
      try clear hcz23_1
      try clear hcz23_2
      try clear hcz23_3
      try clear hcz23_4
      try clear hcz23_5
      try clear hcz25_0
      try clear hcz25_1
      try clear hcz25_2
      try clear hcz25_3
      try clear hcz25_4
      try clear hcz25_5
      try clear hfz10_0
      try clear hfz10_1
      try clear hfz10_2
      try clear hfz10_3
      try clear hfz10_4
      try clear hfz10_5
      try clear hfz19_0
      try clear hfz19_1
      try clear hfz19_2
      try clear hfz19_3
      try clear hfz19_4
      try clear hfz19_5
      try clear hfz21_0
      try clear hfz21_1
      try clear hfz21_2
      try clear hfz21_3
      try clear hfz21_4
      try clear hfz21_5
      try clear hfz23_0
      try clear hfz23_1
      try clear hfz23_2
      try clear hfz23_3
      try clear hfz23_4
      try clear hfz23_5
      try clear hfz25_0
      try clear hfz25_1
      try clear hfz25_2
      try clear hfz25_3
      try clear hfz25_4
      try clear hfz25_5
      obtain ⟨x10_1, x11_1, rfl, rfl, HA, HK1, HO_7, HO_8, HO_9, BK369, HB⟩ := hrel
      cases gk with
      | zero => exact absurd HA.out (by simp [truantlaw10_DomExact.l0])
      | succ k1 =>
       have H := HA.out
       clear HA
       simp only [truantlaw10_DomExact.l0] at H
       by_cases c30 : x11_1 < (t375.length : Int)
       ·rw [if_pos c30] at H
        have c30b0 : decide (x11_1 < (t375.length : Int)) = true := decide_eq_true c30
        clear c30
        by_cases c31 : 0 ≤ x11_1
        ·rw [if_pos c31] at H
         have c31b0 : decide (0 ≤ x11_1) = true := decide_eq_true c31
         clear c31
         by_cases c32 : x11_1 < (t372.length : Int)
         ·rw [if_pos c32] at H
          have c32b0 : decide (x11_1 < (t372.length : Int)) = true := decide_eq_true c32
          clear c32
          by_cases c33 : (rd t372 x11_1) = (rd t375 x11_1)
          ·rw [if_pos c33] at H
           have c33b0 : ((rd t372 x11_1) == (rd t375 x11_1)) = true := beq_iff_eq.mpr c33
           have c33b1 : ((rd t372 x11_1) != (rd t375 x11_1)) = false := bne_eq_false_iff_eq.mpr c33
           clear c33
           have H' := Aside0.mk H
           clear H
           have p381 : 0 ≤ (x11_1 : Int) := of_decide_eq_true (by first | (with_reducible assumption) | assumption)
           have q381 : x11_1 < (t372.length : Int) := of_decide_eq_true (by first | (with_reducible assumption) | assumption)
           obtain ⟨ad381, e381, hx381_0⟩ := Kd.at_int (Kd.R_reads' HO_7.out).2.2 x11_1 p381 q381
           cases e381
           replace p381 := eq_true p381
           replace q381 := eq_true q381
           have p382 : 0 ≤ (x11_1 : Int) := of_decide_eq_true (by first | (with_reducible assumption) | assumption)
           have q382 : x11_1 < (t375.length : Int) := of_decide_eq_true (by first | (with_reducible assumption) | assumption)
           obtain ⟨ad382, e382, hx382_0⟩ := Kd.at_int (Kd.R_reads' HO_8.out).2.2 x11_1 p382 q382
           cases e382
           replace p382 := eq_true p382
           replace q382 := eq_true q382
           go_wp2
           repeat (go_quiet (fail); try go_wp2)
           go_loopg [10, 12] k1 (fun kq v10 v12 w' => ∃ (x10_2 : Int) (x12_2 : Int), v10 = .int .i64 x10_2 ∧ v12 = .int .i64 x12_2 ∧ Aside0 (truantlaw10_DomExact.l1 kq a1 a2 t372 t375 t378 x10_2 x11_1 x12_2 a0_0 l0_1 a0_2 l0_3 l0_4 l0_5 = some r) ∧ Aside0 (kq ≤ k1) ∧ Aside0 (Kd.R (Kd.int .i64) 3 w' w.heap.size (fun k_ => some k_ ≠ ((.slice (some ad382) t375.length co28) : Value).ownBlock) (.slice (some ad381) t372.length co27) t372) ∧ Aside0 (Kd.R (Kd.int .i64) 3 w' w.heap.size (fun k_ => some k_ ≠ ((.slice (some ad381) t372.length co27) : Value).ownBlock) (.slice (some ad382) t375.length co28) t375) ∧ Aside0 (Kd.S (Kd.slice 3 (Kd.int .i64)) 34 w' w.heap.size (fun k_ => some k_ ≠ ((.slice (some ad381) t372.length co27) : Value).ownBlock ∧ some k_ ≠ ((.slice (some ad382) t375.length co28) : Value).ownBlock) (.slice Ao29 t378.length co29) t378) ∧ Aside0 (w'.heap[gb369]? = some (.cells #[.string a0_0, (.slice A0_1 l0_1.length c0_1), .string a0_2, (.slice A0_3 l0_3.length c0_3), (.slice A0_4 l0_4.length c0_4), (.slice A0_5 l0_5.length c0_5)] 26 (0, 0))) ∧ Aside0 (Below w.heap.size w w'))
           case atStart => exact ⟨(x10_1), (0), (by first | rfl | (simp; done) | (simp [*]; done)), (by first | rfl | (simp; done) | (simp [*]; done)), H', ⟨Nat.le_refl _⟩, ⟨by (with_reducible repeat (first | apply Kd.R_alloc | apply Kd.R_drewN | apply Kd.R_drew)); exact HO_7.out⟩, ⟨by (with_reducible repeat (first | apply Kd.R_alloc | apply Kd.R_drewN | apply Kd.R_drew)); exact HO_8.out⟩, ⟨by (with_reducible repeat (first | apply Kd.S_alloc | apply Kd.S_drewN | apply Kd.S_drew)); exact HO_9.out⟩, ⟨by (with_reducible repeat (first | refine blk_drewN ?_ _ | refine blk_drew ?_ | refine blk_alloc ?_ _)); exact BK369.out⟩, ⟨by repeat (first | (with_reducible first | exact HB.out | apply below_alloc | apply pw_below_drewN | apply below_drew1 | refine below_set ?_ GE369.out) | exact HB.out)⟩⟩
           case round =>
            clear H'
            try clear c1
            try clear p2
            try clear c3
            try clear p3
            try clear q3
            try clear hx3
            try clear c5
            try clear c7
            try clear c10
            try clear c15
            try clear c15b0
            try clear c15b1
            try clear c15b2
            try clear c16
            try clear c16b0
            try clear c16b1
            try clear c16b2
            try clear c30
            try clear c30b0
            try clear c31
            try clear c31b0
            try clear c32
            try clear c32b0
            try clear c33
            try clear c33b0
            try clear c33b1
            try clear hcz10_0
            try clear hcz10_1
            try clear hcz10_2
            try clear hcz10_3
            try clear hcz10_4
            try clear hcz10_5
            try clear hcz19_0
            try clear hcz19_1
            try clear hcz19_2
            try clear hcz19_3
            try clear hcz19_4
            try clear hcz19_5
            try clear hcz21_0
            try clear hcz21_1
            try clear hcz21_2
            try clear hcz21_3
            try clear hcz21_4
            try clear hcz21_5
            try clear hcz23_0
            try clear hcz23_1
            try clear hcz23_2
            try clear hcz23_3
            try clear hcz23_4
            try clear hcz23_5
            try clear hcz25_0
            try clear hcz25_1
            try clear hcz25_2
            try clear hcz25_3
            try clear hcz25_4
            try clear hcz25_5
            try clear hfz10_0
            try clear hfz10_1
            try clear hfz10_2
            try clear hfz10_3
            try clear hfz10_4
            try clear hfz10_5
            try clear hfz19_0
            try clear hfz19_1
            try clear hfz19_2
            try clear hfz19_3
            try clear hfz19_4
            try clear hfz19_5
            try clear hfz21_0
            try clear hfz21_1
            try clear hfz21_2
            try clear hfz21_3
            try clear hfz21_4
            try clear hfz21_5
            try clear hfz23_0
            try clear hfz23_1
            try clear hfz23_2
            try clear hfz23_3
            try clear hfz23_4
            try clear hfz23_5
            try clear hfz25_0
            try clear hfz25_1
            try clear hfz25_2
            try clear hfz25_3
            try clear hfz25_4
            try clear hfz25_5
            try clear hx381_0
            try clear hx382_0
            try clear p2
            try clear p381
            try clear p382
            try clear q381
            try clear q382
            obtain ⟨x10_2, x12_2, rfl, rfl, HA, HK2, HO_7, HO_8, HO_9, BK369, HB⟩ := hrel
            cases gk with
            | zero => exact absurd HA.out (by simp [truantlaw10_DomExact.l1])
            | succ k2 =>
             have H := HA.out
             clear HA
             simp only [truantlaw10_DomExact.l1] at H
             by_cases c34 : 0 ≤ x11_1
             ·rw [if_pos c34] at H
              have c34b0 : decide (0 ≤ x11_1) = true := decide_eq_true c34
              clear c34
              by_cases c35 : x11_1 < (t378.length : Int)
              ·rw [if_pos c35] at H
               have c35b0 : decide (x11_1 < (t378.length : Int)) = true := decide_eq_true c35
               clear c35
               by_cases c36 : x12_2 < ((rd_L2 t378 x11_1).length : Int)
               ·rw [if_pos c36] at H
                have c36b0 : decide (x12_2 < ((rd_L2 t378 x11_1).length : Int)) = true := decide_eq_true c36
                clear c36
                by_cases c37 : 0 ≤ x12_2
                ·rw [if_pos c37] at H
                 have c37b0 : decide (0 ≤ x12_2) = true := decide_eq_true c37
                 clear c37
                 by_cases c38 : (rd (rd_L2 t378 x11_1) x12_2) < 0
                 ·rw [if_pos c38] at H
                  exact absurd H (by simp)
                 ·rw [if_neg c38] at H
                  have c38b0 : decide ((rd (rd_L2 t378 x11_1) x12_2) < 0) = false := decide_eq_false c38
                  clear c38
                  by_cases c39 : (rd (rd_L2 t378 x11_1) x12_2) ≥ (t375.length : Int)
                  ·rw [if_pos c39] at H
                   exact absurd H (by simp)
                  ·rw [if_neg c39] at H
                   have c39b0 : decide ((t375.length : Int) ≤ (rd (rd_L2 t378 x11_1) x12_2)) = false := decide_eq_false c39
                   clear c39
                   by_cases c40 : 0 ≤ (rd (rd_L2 t378 x11_1) x12_2)
                   ·rw [if_pos c40] at H
                    have c40b0 : decide (0 ≤ (rd (rd_L2 t378 x11_1) x12_2)) = true := decide_eq_true c40
                    clear c40
                    by_cases c41 : (rd (rd_L2 t378 x11_1) x12_2) < (t375.length : Int)
                    ·rw [if_pos c41] at H
                     have c41b0 : decide ((rd (rd_L2 t378 x11_1) x12_2) < (t375.length : Int)) = true := decide_eq_true c41
                     clear c41
                     by_cases c42 : (rd t375 (rd (rd_L2 t378 x11_1) x12_2)) = x11_1
                     ·rw [if_pos c42] at H
                      have c42b0 : ((rd t375 (rd (rd_L2 t378 x11_1) x12_2)) == x11_1) = true := beq_iff_eq.mpr c42
                      have c42b1 : ((rd t375 (rd (rd_L2 t378 x11_1) x12_2)) != x11_1) = false := bne_eq_false_iff_eq.mpr c42
                      clear c42
                      by_cases c43 : x12_2 > 0
                      ·rw [if_pos c43] at H
                       have c43b0 : decide (0 < x12_2) = true := decide_eq_true c43
                       clear c43
                       obtain ⟨ji44, hji44⟩ : ∃ j_ : Int, (wrap64 (x12_2 - 1)) = j_ := ⟨_, rfl⟩
                       replace H : (if 0 ≤ (ji44) then (if (ji44) < ((rd_L2 t378 x11_1).length : Int) then (if (rd (rd_L2 t378 x11_1) (ji44)) ≥ (rd (rd_L2 t378 x11_1) x12_2) then (none) else (truantlaw10_DomExact.l1 k2 a1 a2 t372 t375 t378 (wrap64 (x10_2 + 1)) x11_1 (wrap64 (x12_2 + 1)) a0_0 l0_1 a0_2 l0_3 l0_4 l0_5)) else (none)) else (none)) = some r := by first | (rw [hji44] at H; exact H) | (simp only [hji44] at H ⊢; exact H)
                       have hji44w : (IntKind.i64.wrap (x12_2 - 1)) = ji44 := (i64_w _).trans hji44
                       by_cases c45 : 0 ≤ (ji44)
                       ·rw [if_pos c45] at H
                        have c45b0 : decide (0 ≤ (ji44)) = true := decide_eq_true c45
                        clear c45
                        by_cases c46 : (ji44) < ((rd_L2 t378 x11_1).length : Int)
                        ·rw [if_pos c46] at H
                         have c46b0 : decide ((ji44) < ((rd_L2 t378 x11_1).length : Int)) = true := decide_eq_true c46
                         clear c46
                         by_cases c47 : (rd (rd_L2 t378 x11_1) (ji44)) ≥ (rd (rd_L2 t378 x11_1) x12_2)
                         ·rw [if_pos c47] at H
                          exact absurd H (by simp)
                         ·rw [if_neg c47] at H
                          have c47b0 : decide ((rd (rd_L2 t378 x11_1) x12_2) ≤ (rd (rd_L2 t378 x11_1) (ji44))) = false := decide_eq_false c47
                          clear c47
                          have H' := Aside0.mk H
                          clear H
                          have p383 : 0 ≤ (x11_1 : Int) := of_decide_eq_true (by first | (with_reducible assumption) | assumption)
                          have q383 : x11_1 < (t378.length : Int) := of_decide_eq_true (by first | (with_reducible assumption) | assumption)
                          obtain ⟨ad383, A383_0, c383_0, e383, hx383_0, hl383_0, hi383_0⟩ := at_L2 (Kd.S_reads' HO_9.out).2.2 x11_1 p383 q383
                          cases e383
                          obtain ⟨ce383, hce383, hMe383, hcc383⟩ := Kd.S_get HO_9.out [] x11_1 p383 (by first | exact q383 | exact of_decide_eq_true (by first | (with_reducible assumption) | assumption) | (have e_ := (Kd.S_reads' HO_9.out).1; omega))
                          obtain ⟨ve383_0, rfl, ge383_0⟩ := hMe383
                          have hv383_0 := hcc383 0 _ rfl
                          rw [Nat.add_zero, show ((Kd.slice 3 (Kd.int .i64))).sz = 1 from rfl, Nat.mul_one] at hv383_0
                          replace hv383_0 := Option.some.inj (hv383_0.symm.trans hx383_0)
                          rw [hv383_0] at ge383_0
                          have HL383_0 := Aside0.mk (show Kd.R (Kd.int .i64) 3 _ _ _ _ (rd_L2 t378 x11_1) from ge383_0)
                          clear hv383_0 ge383_0
                          clear hcc383 hce383
                          have HR383_0 := Aside0.mk hi383_0
                          have HC383_0 := Aside0.mk hl383_0
                          clear hi383_0 hl383_0
                          replace p383 := eq_true p383
                          replace q383 := eq_true q383
                          have p384 : 0 ≤ (x11_1 : Int) := of_decide_eq_true (by first | (with_reducible assumption) | assumption)
                          have q384 : x11_1 < (t378.length : Int) := of_decide_eq_true (by first | (with_reducible assumption) | assumption)
                          obtain ⟨ad384, A384_0, c384_0, e384, hx384_0, hl384_0, hi384_0⟩ := at_L2 (Kd.S_reads' HO_9.out).2.2 x11_1 p384 q384
                          obtain rfl : ad383 = ad384 := (by injection e384)
                          obtain ⟨ce384, hce384, hMe384, hcc384⟩ := Kd.S_get HO_9.out [] x11_1 p384 (by first | exact q384 | exact of_decide_eq_true (by first | (with_reducible assumption) | assumption) | (have e_ := (Kd.S_reads' HO_9.out).1; omega))
                          obtain ⟨ve384_0, rfl, ge384_0⟩ := hMe384
                          have hv384_0 := hcc384 0 _ rfl
                          rw [Nat.add_zero, show ((Kd.slice 3 (Kd.int .i64))).sz = 1 from rfl, Nat.mul_one] at hv384_0
                          replace hv384_0 := Option.some.inj (hv384_0.symm.trans hx384_0)
                          rw [hv384_0] at ge384_0
                          have HL384_0 := Aside0.mk (show Kd.R (Kd.int .i64) 3 _ _ _ _ (rd_L2 t378 x11_1) from ge384_0)
                          clear hv384_0 ge384_0
                          clear hcc384 hce384
                          have HR384_0 := Aside0.mk hi384_0
                          have HC384_0 := Aside0.mk hl384_0
                          clear hi384_0 hl384_0
                          replace p384 := eq_true p384
                          replace q384 := eq_true q384
                          have ea_ := Option.some.inj (hx383_0.symm.trans hx384_0)
                          injection ea_ with ea_ en_ ec_
                          subst ea_
                          subst ec_
                          clear en_
                          have p385 : 0 ≤ (x12_2 : Int) := of_decide_eq_true (by first | (with_reducible assumption) | assumption)
                          have q385 : x12_2 < ((rd_L2 t378 x11_1).length : Int) := of_decide_eq_true (by first | (with_reducible assumption) | assumption)
                          obtain ⟨ad385, e385, hx385_0⟩ := Kd.at_int (by repeat (first | (with_reducible exact HR384_0.out) | (with_reducible refine Kd.C_alloc ?_ _) | (with_reducible refine Kd.C_drewN ?_ _) | (with_reducible refine Kd.C_drew ?_) | exact HR384_0.out)) x12_2 p385 q385
                          cases e385
                          replace p385 := eq_true p385
                          replace q385 := eq_true q385
                          have p386 : 0 ≤ ((rd (rd_L2 t378 x11_1) x12_2) : Int) := of_decide_eq_true (by first | (with_reducible assumption) | assumption)
                          have q386 : (rd (rd_L2 t378 x11_1) x12_2) < (t375.length : Int) := of_decide_eq_true (by first | (with_reducible assumption) | assumption)
                          obtain ⟨ad386, e386, hx386_0⟩ := Kd.at_int (Kd.R_reads' HO_8.out).2.2 (rd (rd_L2 t378 x11_1) x12_2) p386 q386
                          obtain rfl : ad382 = ad386 := (by injection e386)
                          replace p386 := eq_true p386
                          replace q386 := eq_true q386
                          have p387 : 0 ≤ (x11_1 : Int) := of_decide_eq_true (by first | (with_reducible assumption) | assumption)
                          have q387 : x11_1 < (t378.length : Int) := of_decide_eq_true (by first | (with_reducible assumption) | assumption)
                          obtain ⟨ad387, A387_0, c387_0, e387, hx387_0, hl387_0, hi387_0⟩ := at_L2 (Kd.S_reads' HO_9.out).2.2 x11_1 p387 q387
                          obtain rfl : ad383 = ad387 := (by injection e387)
                          obtain ⟨ce387, hce387, hMe387, hcc387⟩ := Kd.S_get HO_9.out [] x11_1 p387 (by first | exact q387 | exact of_decide_eq_true (by first | (with_reducible assumption) | assumption) | (have e_ := (Kd.S_reads' HO_9.out).1; omega))
                          obtain ⟨ve387_0, rfl, ge387_0⟩ := hMe387
                          have hv387_0 := hcc387 0 _ rfl
                          rw [Nat.add_zero, show ((Kd.slice 3 (Kd.int .i64))).sz = 1 from rfl, Nat.mul_one] at hv387_0
                          replace hv387_0 := Option.some.inj (hv387_0.symm.trans hx387_0)
                          rw [hv387_0] at ge387_0
                          have HL387_0 := Aside0.mk (show Kd.R (Kd.int .i64) 3 _ _ _ _ (rd_L2 t378 x11_1) from ge387_0)
                          clear hv387_0 ge387_0
                          clear hcc387 hce387
                          have HR387_0 := Aside0.mk hi387_0
                          have HC387_0 := Aside0.mk hl387_0
                          clear hi387_0 hl387_0
                          replace p387 := eq_true p387
                          replace q387 := eq_true q387
                          have ea_ := Option.some.inj (hx383_0.symm.trans hx387_0)
                          injection ea_ with ea_ en_ ec_
                          subst ea_
                          subst ec_
                          clear en_
                          have p388 : 0 ≤ ((ji44) : Int) := of_decide_eq_true (by first | (with_reducible assumption) | assumption)
                          have q388 : (ji44) < ((rd_L2 t378 x11_1).length : Int) := of_decide_eq_true (by first | (with_reducible assumption) | assumption)
                          obtain ⟨ad388, e388, hx388_0⟩ := Kd.at_int (by repeat (first | (with_reducible exact HR387_0.out) | (with_reducible refine Kd.C_alloc ?_ _) | (with_reducible refine Kd.C_drewN ?_ _) | (with_reducible refine Kd.C_drew ?_) | exact HR387_0.out)) (ji44) p388 q388
                          cases e388
                          replace p388 := eq_true p388
                          replace q388 := eq_true q388
                          go_wp2
                          repeat (go_quiet (fail); try go_wp2)
                          go_roundg k2
                          case measure => have := HK1.out; have := HK2.out; omega
                          case rel => exact ⟨(wrap64 (x10_2 + 1)), (wrap64 (x12_2 + 1)), (by first | rfl | (simp; done) | (simp [*]; done)), (by first | rfl | (simp; done) | (simp [*]; done)), H', ⟨by have := HK1.out; have := HK2.out; omega⟩, ⟨by (with_reducible repeat (first | apply Kd.R_alloc | apply Kd.R_drewN | apply Kd.R_drew)); exact HO_7.out⟩, ⟨by (with_reducible repeat (first | apply Kd.R_alloc | apply Kd.R_drewN | apply Kd.R_drew)); exact HO_8.out⟩, ⟨by (with_reducible repeat (first | apply Kd.S_alloc | apply Kd.S_drewN | apply Kd.S_drew)); exact HO_9.out⟩, ⟨by (with_reducible repeat (first | refine blk_drewN ?_ _ | refine blk_drew ?_ | refine blk_alloc ?_ _)); exact BK369.out⟩, ⟨by repeat (first | (with_reducible first | exact HB.out | apply below_alloc | apply pw_below_drewN | apply below_drew1 | refine below_set ?_ GE369.out) | exact HB.out)⟩⟩
                        ·rw [if_neg c46] at H
                         exact absurd H (by simp)
                       ·rw [if_neg c45] at H
                        exact absurd H (by simp)
                      ·rw [if_neg c43] at H
                       have c43b0 : decide (0 < x12_2) = false := decide_eq_false c43
                       clear c43
                       have H' := Aside0.mk H
                       clear H
                       have p383 : 0 ≤ (x11_1 : Int) := of_decide_eq_true (by first | (with_reducible assumption) | assumption)
                       have q383 : x11_1 < (t378.length : Int) := of_decide_eq_true (by first | (with_reducible assumption) | assumption)
                       obtain ⟨ad383, A383_0, c383_0, e383, hx383_0, hl383_0, hi383_0⟩ := at_L2 (Kd.S_reads' HO_9.out).2.2 x11_1 p383 q383
                       cases e383
                       obtain ⟨ce383, hce383, hMe383, hcc383⟩ := Kd.S_get HO_9.out [] x11_1 p383 (by first | exact q383 | exact of_decide_eq_true (by first | (with_reducible assumption) | assumption) | (have e_ := (Kd.S_reads' HO_9.out).1; omega))
                       obtain ⟨ve383_0, rfl, ge383_0⟩ := hMe383
                       have hv383_0 := hcc383 0 _ rfl
                       rw [Nat.add_zero, show ((Kd.slice 3 (Kd.int .i64))).sz = 1 from rfl, Nat.mul_one] at hv383_0
                       replace hv383_0 := Option.some.inj (hv383_0.symm.trans hx383_0)
                       rw [hv383_0] at ge383_0
                       have HL383_0 := Aside0.mk (show Kd.R (Kd.int .i64) 3 _ _ _ _ (rd_L2 t378 x11_1) from ge383_0)
                       clear hv383_0 ge383_0
                       clear hcc383 hce383
                       have HR383_0 := Aside0.mk hi383_0
                       have HC383_0 := Aside0.mk hl383_0
                       clear hi383_0 hl383_0
                       replace p383 := eq_true p383
                       replace q383 := eq_true q383
                       have p384 : 0 ≤ (x11_1 : Int) := of_decide_eq_true (by first | (with_reducible assumption) | assumption)
                       have q384 : x11_1 < (t378.length : Int) := of_decide_eq_true (by first | (with_reducible assumption) | assumption)
                       obtain ⟨ad384, A384_0, c384_0, e384, hx384_0, hl384_0, hi384_0⟩ := at_L2 (Kd.S_reads' HO_9.out).2.2 x11_1 p384 q384
                       obtain rfl : ad383 = ad384 := (by injection e384)
                       obtain ⟨ce384, hce384, hMe384, hcc384⟩ := Kd.S_get HO_9.out [] x11_1 p384 (by first | exact q384 | exact of_decide_eq_true (by first | (with_reducible assumption) | assumption) | (have e_ := (Kd.S_reads' HO_9.out).1; omega))
                       obtain ⟨ve384_0, rfl, ge384_0⟩ := hMe384
                       have hv384_0 := hcc384 0 _ rfl
                       rw [Nat.add_zero, show ((Kd.slice 3 (Kd.int .i64))).sz = 1 from rfl, Nat.mul_one] at hv384_0
                       replace hv384_0 := Option.some.inj (hv384_0.symm.trans hx384_0)
                       rw [hv384_0] at ge384_0
                       have HL384_0 := Aside0.mk (show Kd.R (Kd.int .i64) 3 _ _ _ _ (rd_L2 t378 x11_1) from ge384_0)
                       clear hv384_0 ge384_0
                       clear hcc384 hce384
                       have HR384_0 := Aside0.mk hi384_0
                       have HC384_0 := Aside0.mk hl384_0
                       clear hi384_0 hl384_0
                       replace p384 := eq_true p384
                       replace q384 := eq_true q384
                       have ea_ := Option.some.inj (hx383_0.symm.trans hx384_0)
                       injection ea_ with ea_ en_ ec_
                       subst ea_
                       subst ec_
                       clear en_
                       have p385 : 0 ≤ (x12_2 : Int) := of_decide_eq_true (by first | (with_reducible assumption) | assumption)
                       have q385 : x12_2 < ((rd_L2 t378 x11_1).length : Int) := of_decide_eq_true (by first | (with_reducible assumption) | assumption)
                       obtain ⟨ad385, e385, hx385_0⟩ := Kd.at_int (by repeat (first | (with_reducible exact HR384_0.out) | (with_reducible refine Kd.C_alloc ?_ _) | (with_reducible refine Kd.C_drewN ?_ _) | (with_reducible refine Kd.C_drew ?_) | exact HR384_0.out)) x12_2 p385 q385
                       cases e385
                       replace p385 := eq_true p385
                       replace q385 := eq_true q385
                       have p386 : 0 ≤ ((rd (rd_L2 t378 x11_1) x12_2) : Int) := of_decide_eq_true (by first | (with_reducible assumption) | assumption)
                       have q386 : (rd (rd_L2 t378 x11_1) x12_2) < (t375.length : Int) := of_decide_eq_true (by first | (with_reducible assumption) | assumption)
                       obtain ⟨ad386, e386, hx386_0⟩ := Kd.at_int (Kd.R_reads' HO_8.out).2.2 (rd (rd_L2 t378 x11_1) x12_2) p386 q386
                       obtain rfl : ad382 = ad386 := (by injection e386)
                       replace p386 := eq_true p386
                       replace q386 := eq_true q386
                       go_wp2
                       repeat (go_quiet (fail); try go_wp2)
                       go_roundg k2
                       case measure => have := HK1.out; have := HK2.out; omega
                       case rel => exact ⟨(wrap64 (x10_2 + 1)), (wrap64 (x12_2 + 1)), (by first | rfl | (simp; done) | (simp [*]; done)), (by first | rfl | (simp; done) | (simp [*]; done)), H', ⟨by have := HK1.out; have := HK2.out; omega⟩, ⟨by (with_reducible repeat (first | apply Kd.R_alloc | apply Kd.R_drewN | apply Kd.R_drew)); exact HO_7.out⟩, ⟨by (with_reducible repeat (first | apply Kd.R_alloc | apply Kd.R_drewN | apply Kd.R_drew)); exact HO_8.out⟩, ⟨by (with_reducible repeat (first | apply Kd.S_alloc | apply Kd.S_drewN | apply Kd.S_drew)); exact HO_9.out⟩, ⟨by (with_reducible repeat (first | refine blk_drewN ?_ _ | refine blk_drew ?_ | refine blk_alloc ?_ _)); exact BK369.out⟩, ⟨by repeat (first | (with_reducible first | exact HB.out | apply below_alloc | apply pw_below_drewN | apply below_drew1 | refine below_set ?_ GE369.out) | exact HB.out)⟩⟩
                     ·rw [if_neg c42] at H
                      exact absurd H (by simp)
                    ·rw [if_neg c41] at H
                     exact absurd H (by simp)
                   ·rw [if_neg c40] at H
                    exact absurd H (by simp)
                ·rw [if_neg c37] at H
                 exact absurd H (by simp)
               ·rw [if_neg c36] at H
                have c36b0 : decide (x12_2 < ((rd_L2 t378 x11_1).length : Int)) = false := decide_eq_false c36
                clear c36
                by_cases c48 : x11_1 < (t375.length : Int)
                ·rw [if_pos c48] at H
                 have c48b0 : decide (x11_1 < (t375.length : Int)) = true := decide_eq_true c48
                 clear c48
                 by_cases c49 : (rd t375 x11_1) ≥ 0
                 ·rw [if_pos c49] at H
                  have c49b0 : decide (0 ≤ (rd t375 x11_1)) = true := decide_eq_true c49
                  clear c49
                  have H' := Aside0.mk H
                  clear H
                  have p383 : 0 ≤ (x11_1 : Int) := of_decide_eq_true (by first | (with_reducible assumption) | assumption)
                  have q383 : x11_1 < (t378.length : Int) := of_decide_eq_true (by first | (with_reducible assumption) | assumption)
                  obtain ⟨ad383, A383_0, c383_0, e383, hx383_0, hl383_0, hi383_0⟩ := at_L2 (Kd.S_reads' HO_9.out).2.2 x11_1 p383 q383
                  cases e383
                  obtain ⟨ce383, hce383, hMe383, hcc383⟩ := Kd.S_get HO_9.out [] x11_1 p383 (by first | exact q383 | exact of_decide_eq_true (by first | (with_reducible assumption) | assumption) | (have e_ := (Kd.S_reads' HO_9.out).1; omega))
                  obtain ⟨ve383_0, rfl, ge383_0⟩ := hMe383
                  have hv383_0 := hcc383 0 _ rfl
                  rw [Nat.add_zero, show ((Kd.slice 3 (Kd.int .i64))).sz = 1 from rfl, Nat.mul_one] at hv383_0
                  replace hv383_0 := Option.some.inj (hv383_0.symm.trans hx383_0)
                  rw [hv383_0] at ge383_0
                  have HL383_0 := Aside0.mk (show Kd.R (Kd.int .i64) 3 _ _ _ _ (rd_L2 t378 x11_1) from ge383_0)
                  clear hv383_0 ge383_0
                  clear hcc383 hce383
                  have HR383_0 := Aside0.mk hi383_0
                  have HC383_0 := Aside0.mk hl383_0
                  clear hi383_0 hl383_0
                  replace p383 := eq_true p383
                  replace q383 := eq_true q383
                  have p389 : 0 ≤ (x11_1 : Int) := of_decide_eq_true (by first | (with_reducible assumption) | assumption)
                  have q389 : x11_1 < (t375.length : Int) := of_decide_eq_true (by first | (with_reducible assumption) | assumption)
                  obtain ⟨ad389, e389, hx389_0⟩ := Kd.at_int (Kd.R_reads' HO_8.out).2.2 x11_1 p389 q389
                  obtain rfl : ad382 = ad389 := (by injection e389)
                  replace p389 := eq_true p389
                  replace q389 := eq_true q389
                  go_wp2
                  repeat (go_quiet (fail); try go_wp2)
                  go_roundg k2
                  case measure => have := HK1.out; have := HK2.out; omega
                  case rel => exact ⟨(wrap64 (x10_2 - 1)), (wrap64 (x11_1 + 1)), (by first | rfl | (simp; done) | (simp [*]; done)), (by first | rfl | (simp; done) | (simp [*]; done)), H', ⟨by have := HK1.out; have := HK2.out; omega⟩, ⟨by (with_reducible repeat (first | apply Kd.R_alloc | apply Kd.R_drewN | apply Kd.R_drew)); exact HO_7.out⟩, ⟨by (with_reducible repeat (first | apply Kd.R_alloc | apply Kd.R_drewN | apply Kd.R_drew)); exact HO_8.out⟩, ⟨by (with_reducible repeat (first | apply Kd.S_alloc | apply Kd.S_drewN | apply Kd.S_drew)); exact HO_9.out⟩, ⟨by (with_reducible repeat (first | refine blk_drewN ?_ _ | refine blk_drew ?_ | refine blk_alloc ?_ _)); exact BK369.out⟩, ⟨by repeat (first | (with_reducible first | exact HB.out | apply below_alloc | apply pw_below_drewN | apply below_drew1 | refine below_set ?_ GE369.out) | exact HB.out)⟩⟩
                 ·rw [if_neg c49] at H
                  have c49b0 : decide (0 ≤ (rd t375 x11_1)) = false := decide_eq_false c49
                  clear c49
                  have H' := Aside0.mk H
                  clear H
                  have p383 : 0 ≤ (x11_1 : Int) := of_decide_eq_true (by first | (with_reducible assumption) | assumption)
                  have q383 : x11_1 < (t378.length : Int) := of_decide_eq_true (by first | (with_reducible assumption) | assumption)
                  obtain ⟨ad383, A383_0, c383_0, e383, hx383_0, hl383_0, hi383_0⟩ := at_L2 (Kd.S_reads' HO_9.out).2.2 x11_1 p383 q383
                  cases e383
                  obtain ⟨ce383, hce383, hMe383, hcc383⟩ := Kd.S_get HO_9.out [] x11_1 p383 (by first | exact q383 | exact of_decide_eq_true (by first | (with_reducible assumption) | assumption) | (have e_ := (Kd.S_reads' HO_9.out).1; omega))
                  obtain ⟨ve383_0, rfl, ge383_0⟩ := hMe383
                  have hv383_0 := hcc383 0 _ rfl
                  rw [Nat.add_zero, show ((Kd.slice 3 (Kd.int .i64))).sz = 1 from rfl, Nat.mul_one] at hv383_0
                  replace hv383_0 := Option.some.inj (hv383_0.symm.trans hx383_0)
                  rw [hv383_0] at ge383_0
                  have HL383_0 := Aside0.mk (show Kd.R (Kd.int .i64) 3 _ _ _ _ (rd_L2 t378 x11_1) from ge383_0)
                  clear hv383_0 ge383_0
                  clear hcc383 hce383
                  have HR383_0 := Aside0.mk hi383_0
                  have HC383_0 := Aside0.mk hl383_0
                  clear hi383_0 hl383_0
                  replace p383 := eq_true p383
                  replace q383 := eq_true q383
                  have p389 : 0 ≤ (x11_1 : Int) := of_decide_eq_true (by first | (with_reducible assumption) | assumption)
                  have q389 : x11_1 < (t375.length : Int) := of_decide_eq_true (by first | (with_reducible assumption) | assumption)
                  obtain ⟨ad389, e389, hx389_0⟩ := Kd.at_int (Kd.R_reads' HO_8.out).2.2 x11_1 p389 q389
                  obtain rfl : ad382 = ad389 := (by injection e389)
                  replace p389 := eq_true p389
                  replace q389 := eq_true q389
                  go_wp2
                  repeat (go_quiet (fail); try go_wp2)
                  go_roundg k2
                  case measure => have := HK1.out; have := HK2.out; omega
                  case rel => exact ⟨(x10_2), (wrap64 (x11_1 + 1)), (by first | rfl | (simp; done) | (simp [*]; done)), (by first | rfl | (simp; done) | (simp [*]; done)), H', ⟨by have := HK1.out; have := HK2.out; omega⟩, ⟨by (with_reducible repeat (first | apply Kd.R_alloc | apply Kd.R_drewN | apply Kd.R_drew)); exact HO_7.out⟩, ⟨by (with_reducible repeat (first | apply Kd.R_alloc | apply Kd.R_drewN | apply Kd.R_drew)); exact HO_8.out⟩, ⟨by (with_reducible repeat (first | apply Kd.S_alloc | apply Kd.S_drewN | apply Kd.S_drew)); exact HO_9.out⟩, ⟨by (with_reducible repeat (first | refine blk_drewN ?_ _ | refine blk_drew ?_ | refine blk_alloc ?_ _)); exact BK369.out⟩, ⟨by repeat (first | (with_reducible first | exact HB.out | apply below_alloc | apply pw_below_drewN | apply below_drew1 | refine below_set ?_ GE369.out) | exact HB.out)⟩⟩
                ·rw [if_neg c48] at H
                 exact absurd H (by simp)
              ·rw [if_neg c35] at H
               exact absurd H (by simp)
             ·rw [if_neg c34] at H
              exact absurd H (by simp)
          ·rw [if_neg c33] at H
           exact absurd H (by simp)
         ·rw [if_neg c32] at H
          exact absurd H (by simp)
        ·rw [if_neg c31] at H
         exact absurd H (by simp)
       ·rw [if_neg c30] at H
        have c30b0 : decide (x11_1 < (t375.length : Int)) = false := decide_eq_false c30
        clear c30
        by_cases c50 : a1 ≥ 0
        ·rw [if_pos c50] at H
         have c50b0 : decide (0 ≤ a1) = true := decide_eq_true c50
         clear c50
         by_cases c51 : a1 < (t375.length : Int)
         ·rw [if_pos c51] at H
          have c51b0 : decide (a1 < (t375.length : Int)) = true := decide_eq_true c51
          clear c51
          by_cases c52 : a2 ≥ 0
          ·rw [if_pos c52] at H
           have c52b0 : decide (0 ≤ a2) = true := decide_eq_true c52
           clear c52
           by_cases c53 : x10_1 = 0
           ·rw [if_pos c53] at H
            have c53b0 : (x10_1 == 0) = true := beq_iff_eq.mpr c53
            have c53b1 : (x10_1 != 0) = false := bne_eq_false_iff_eq.mpr c53
            clear c53
            replace H := Option.bind_eq_some_iff.mp H
            obtain ⟨t390, A540, H⟩ := H
            replace H : (if a2 < (t375.length : Int) then ((truantref10_Is.f a0_0 l0_1 a0_2 l0_3 l0_4 l0_5).bind fun t391 => (if 0 ≤ a1 then (if a1 < (t391.length : Int) then (if 0 ≤ a2 then (if a2 < ((rd_L7 t391 a1).length : Int) then (some (t390 == (rdOf false (rd_L7 t391 a1) a2))) else (none)) else (none)) else (none)) else (none))) else (some (t390 == false))) = some r := H
            have A54 := Aside0.mk A540
            clear A540
            by_cases c55 : a2 < (t375.length : Int)
            ·rw [if_pos c55] at H
             have c55b0 : decide (a2 < (t375.length : Int)) = true := decide_eq_true c55
             clear c55
             replace H := Option.bind_eq_some_iff.mp H
             obtain ⟨t391, A560, H⟩ := H
             replace H : (if 0 ≤ a1 then (if a1 < (t391.length : Int) then (if 0 ≤ a2 then (if a2 < ((rd_L7 t391 a1).length : Int) then (some (t390 == (rdOf false (rd_L7 t391 a1) a2))) else (none)) else (none)) else (none)) else (none)) = some r := H
             have A56 := Aside0.mk A560
             clear A560
             by_cases c57 : 0 ≤ a1
             ·rw [if_pos c57] at H
              have c57b0 : decide (0 ≤ a1) = true := decide_eq_true c57
              clear c57
              by_cases c58 : a1 < (t391.length : Int)
              ·rw [if_pos c58] at H
               have c58b0 : decide (a1 < (t391.length : Int)) = true := decide_eq_true c58
               clear c58
               by_cases c59 : 0 ≤ a2
               ·rw [if_pos c59] at H
                have c59b0 : decide (0 ≤ a2) = true := decide_eq_true c59
                clear c59
                by_cases c60 : a2 < ((rd_L7 t391 a1).length : Int)
                ·rw [if_pos c60] at H
                 have c60b0 : decide (a2 < ((rd_L7 t391 a1).length : Int)) = true := decide_eq_true c60
                 clear c60
                 obtain rfl := Option.some.inj H
                 have hcz61_0 : wr.cell? ⟨gb369, 0, none⟩ = some (.string a0_0) := (blk_cell BK369.out 0).trans rfl
                 have hcz61_1 : wr.cell? ⟨gb369, 1, none⟩ = some (.slice A0_1 l0_1.length c0_1) := (blk_cell BK369.out 1).trans rfl
                 have hcz61_2 : wr.cell? ⟨gb369, 2, none⟩ = some (.string a0_2) := (blk_cell BK369.out 2).trans rfl
                 have hcz61_3 : wr.cell? ⟨gb369, 3, none⟩ = some (.slice A0_3 l0_3.length c0_3) := (blk_cell BK369.out 3).trans rfl
                 have hcz61_4 : wr.cell? ⟨gb369, 4, none⟩ = some (.slice A0_4 l0_4.length c0_4) := (blk_cell BK369.out 4).trans rfl
                 have hcz61_5 : wr.cell? ⟨gb369, 5, none⟩ = some (.slice A0_5 l0_5.length c0_5) := (blk_cell BK369.out 5).trans rfl
                 have hfz61_0 := blk_frozen BK369.out 0
                 have hfz61_1 := blk_frozen BK369.out 1
                 have hfz61_2 := blk_frozen BK369.out 2
                 have hfz61_3 := blk_frozen BK369.out 3
                 have hfz61_4 := blk_frozen BK369.out 4
                 have hfz61_5 := blk_frozen BK369.out 5
                 go_wp2_with (first | (go_at_call 43; (with_reducible refine (dom_Is.calls a0_0 _ _ l0_1 a0_2 _ _ l0_3 _ _ l0_4 _ _ l0_5 a1 a2 t390 _ ?side1 ?side2 ?side3 ?side4 ?side5 ?side6 ?side7 ?side8 A54.out).mono ?_); (case side1 => repeat (first | exact (Kd.C_below HR0_1.out HB.out) | (with_reducible refine Kd.C_alloc ?_ _) | (with_reducible refine Kd.C_drewN ?_ _) | (with_reducible refine Kd.C_drew ?_))); (case side2 => exact HC0_1.out); (case side3 => repeat (first | exact (Kd.C_below HR0_3.out HB.out) | (with_reducible refine Kd.C_alloc ?_ _) | (with_reducible refine Kd.C_drewN ?_ _) | (with_reducible refine Kd.C_drew ?_))); (case side4 => exact HC0_3.out); (case side5 => repeat (first | exact (Kd.C_below HR0_4.out HB.out) | (with_reducible refine Kd.C_alloc ?_ _) | (with_reducible refine Kd.C_drewN ?_ _) | (with_reducible refine Kd.C_drew ?_))); (case side6 => exact HC0_4.out); (case side7 => repeat (first | exact (Kd.C_below HR0_5.out HB.out) | (with_reducible refine Kd.C_alloc ?_ _) | (with_reducible refine Kd.C_drewN ?_ _) | (with_reducible refine Kd.C_drew ?_))); (case side8 => exact HC0_5.out); rintro e w62 ⟨rfl, hb⟩; have n0_ := Aside0.mk (Kd.R_below (by (with_reducible repeat (first | apply Kd.R_alloc | apply Kd.R_drewN | apply Kd.R_drew)); exact HO_7.out) hb); have n1_ := Aside0.mk (Kd.R_below (by (with_reducible repeat (first | apply Kd.R_alloc | apply Kd.R_drewN | apply Kd.R_drew)); exact HO_8.out) hb); have n2_ := Aside0.mk (Kd.S_below (by (with_reducible repeat (first | apply Kd.S_alloc | apply Kd.S_drewN | apply Kd.S_drew)); exact HO_9.out) hb); have n3_ := Aside0.mk (blk_below (g := gb369) (o := .cells #[.string a0_0, .slice A0_1 l0_1.length c0_1, .string a0_2, .slice A0_3 l0_3.length c0_3, .slice A0_4 l0_4.length c0_4, .slice A0_5 l0_5.length c0_5] 26 (0, 0)) (by (with_reducible repeat (first | refine blk_drewN ?_ _ | refine blk_drew ?_ | refine blk_alloc ?_ _)); exact BK369.out) hb); have n4_ := Aside0.mk (below_step (by repeat (first | (with_reducible first | exact HB.out | apply below_alloc | apply pw_below_drewN | apply below_drew1 | refine below_set ?_ GE369.out) | exact HB.out)) hb); clear HO_7; clear HO_8; clear HO_9; clear BK369; clear HB; have HO_7 := n0_; have HO_8 := n1_; have HO_9 := n2_; have BK369 := n3_; have HB := n4_; clear n0_ n1_ n2_ n3_ n4_; (try clear hb); (try clear hb2); (try clear hk); (try clear hi); have hcz63_0 : w62.cell? ⟨gb369, 0, none⟩ = some (.string a0_0) := (blk_cell BK369.out 0).trans rfl; have hcz63_1 : w62.cell? ⟨gb369, 1, none⟩ = some (.slice A0_1 l0_1.length c0_1) := (blk_cell BK369.out 1).trans rfl; have hcz63_2 : w62.cell? ⟨gb369, 2, none⟩ = some (.string a0_2) := (blk_cell BK369.out 2).trans rfl; have hcz63_3 : w62.cell? ⟨gb369, 3, none⟩ = some (.slice A0_3 l0_3.length c0_3) := (blk_cell BK369.out 3).trans rfl; have hcz63_4 : w62.cell? ⟨gb369, 4, none⟩ = some (.slice A0_4 l0_4.length c0_4) := (blk_cell BK369.out 4).trans rfl; have hcz63_5 : w62.cell? ⟨gb369, 5, none⟩ = some (.slice A0_5 l0_5.length c0_5) := (blk_cell BK369.out 5).trans rfl; have hfz63_0 := blk_frozen BK369.out 0; have hfz63_1 := blk_frozen BK369.out 1; have hfz63_2 := blk_frozen BK369.out 2; have hfz63_3 := blk_frozen BK369.out 3; have hfz63_4 := blk_frozen BK369.out 4; have hfz63_5 := blk_frozen BK369.out 5) | (go_at_call 44; (with_reducible refine (truantref10_Is.calls a0_0 _ _ l0_1 a0_2 _ _ l0_3 _ _ l0_4 _ _ l0_5 t391 _ ?side1 ?side2 ?side3 ?side4 ?side5 ?side6 ?side7 ?side8 A56.out).mono ?_); (case side1 => repeat (first | exact (Kd.C_below HR0_1.out HB.out) | (with_reducible refine Kd.C_alloc ?_ _) | (with_reducible refine Kd.C_drewN ?_ _) | (with_reducible refine Kd.C_drew ?_))); (case side2 => exact HC0_1.out); (case side3 => repeat (first | exact (Kd.C_below HR0_3.out HB.out) | (with_reducible refine Kd.C_alloc ?_ _) | (with_reducible refine Kd.C_drewN ?_ _) | (with_reducible refine Kd.C_drew ?_))); (case side4 => exact HC0_3.out); (case side5 => repeat (first | exact (Kd.C_below HR0_4.out HB.out) | (with_reducible refine Kd.C_alloc ?_ _) | (with_reducible refine Kd.C_drewN ?_ _) | (with_reducible refine Kd.C_drew ?_))); (case side6 => exact HC0_4.out); (case side7 => repeat (first | exact (Kd.C_below HR0_5.out HB.out) | (with_reducible refine Kd.C_alloc ?_ _) | (with_reducible refine Kd.C_drewN ?_ _) | (with_reducible refine Kd.C_drew ?_))); (case side8 => exact HC0_5.out); rintro e w64 ⟨v392, rfl, ho0, hb⟩; have n0_ := Aside0.mk (Kd.R_below (by (with_reducible repeat (first | apply Kd.R_alloc | apply Kd.R_drewN | apply Kd.R_drew)); exact HO_7.out) hb); have n1_ := Aside0.mk (Kd.R_below (by (with_reducible repeat (first | apply Kd.R_alloc | apply Kd.R_drewN | apply Kd.R_drew)); exact HO_8.out) hb); have n2_ := Aside0.mk (Kd.S_below (by (with_reducible repeat (first | apply Kd.S_alloc | apply Kd.S_drewN | apply Kd.S_drew)); exact HO_9.out) hb); have n3_ := Aside0.mk (Kd.S_lower ho0 (below_size (by repeat (first | (with_reducible first | exact HB.out | apply below_alloc | apply pw_below_drewN | apply below_drew1 | refine below_set ?_ GE369.out) | exact HB.out)))); have n4_ := Aside0.mk (blk_below (g := gb369) (o := .cells #[.string a0_0, .slice A0_1 l0_1.length c0_1, .string a0_2, .slice A0_3 l0_3.length c0_3, .slice A0_4 l0_4.length c0_4, .slice A0_5 l0_5.length c0_5] 26 (0, 0)) (by (with_reducible repeat (first | refine blk_drewN ?_ _ | refine blk_drew ?_ | refine blk_alloc ?_ _)); exact BK369.out) hb); have n5_ := Aside0.mk (below_step (by repeat (first | (with_reducible first | exact HB.out | apply below_alloc | apply pw_below_drewN | apply below_drew1 | refine below_set ?_ GE369.out) | exact HB.out)) hb); clear HO_7; clear HO_8; clear HO_9; clear BK369; clear HB; have HO_7 := n0_; have HO_8 := n1_; have HO_9 := n2_; have HO393 := n3_; have BK369 := n4_; have HB := n5_; clear n0_ n1_ n2_ n3_ n4_ n5_; (try clear hb); (try clear hb2); (try clear hk); (try clear hi); (try clear ho0); obtain ⟨Ao65, co65, eo65⟩ := Kd.S_slice HO393.out; subst eo65; have p394 : 0 ≤ (a1 : Int) := of_decide_eq_true (by first | (with_reducible assumption) | assumption); have q394 : a1 < (t391.length : Int) := of_decide_eq_true (by first | (with_reducible assumption) | assumption); obtain ⟨ad394, A394_0, c394_0, e394, hx394_0, hl394_0, hi394_0⟩ := at_L7 (Kd.S_reads' HO393.out).2.2 a1 p394 q394; cases e394; obtain ⟨ce394, hce394, hMe394, hcc394⟩ := Kd.S_get HO393.out [] a1 p394 (by first | exact q394 | exact of_decide_eq_true (by first | (with_reducible assumption) | assumption) | (have e_ := (Kd.S_reads' HO393.out).1; omega)); obtain ⟨ve394_0, rfl, ge394_0⟩ := hMe394; have hv394_0 := hcc394 0 _ rfl; rw [Nat.add_zero, show ((Kd.slice 4 Kd.bool)).sz = 1 from rfl, Nat.mul_one] at hv394_0; replace hv394_0 := Option.some.inj (hv394_0.symm.trans hx394_0); rw [hv394_0] at ge394_0; have HL394_0 := Aside0.mk (show Kd.R Kd.bool 4 _ _ _ _ (rd_L7 t391 a1) from ge394_0); clear hv394_0 ge394_0; clear hcc394 hce394; have HR394_0 := Aside0.mk hi394_0; have HC394_0 := Aside0.mk hl394_0; clear hi394_0 hl394_0; replace p394 := eq_true p394; replace q394 := eq_true q394; have p395 : 0 ≤ (a2 : Int) := of_decide_eq_true (by first | (with_reducible assumption) | assumption); have q395 : a2 < ((rd_L7 t391 a1).length : Int) := of_decide_eq_true (by first | (with_reducible assumption) | assumption); obtain ⟨ad395, e395, hx395_0⟩ := Kd.at_bool (by repeat (first | (with_reducible exact HR394_0.out) | (with_reducible refine Kd.C_alloc ?_ _) | (with_reducible refine Kd.C_drewN ?_ _) | (with_reducible refine Kd.C_drew ?_) | exact HR394_0.out)) a2 p395 q395; cases e395; replace p395 := eq_true p395; replace q395 := eq_true q395))
                 repeat (go_quiet (first | (go_at_call 43; (with_reducible refine (dom_Is.calls a0_0 _ _ l0_1 a0_2 _ _ l0_3 _ _ l0_4 _ _ l0_5 a1 a2 t390 _ ?side1 ?side2 ?side3 ?side4 ?side5 ?side6 ?side7 ?side8 A54.out).mono ?_); (case side1 => repeat (first | exact (Kd.C_below HR0_1.out HB.out) | (with_reducible refine Kd.C_alloc ?_ _) | (with_reducible refine Kd.C_drewN ?_ _) | (with_reducible refine Kd.C_drew ?_))); (case side2 => exact HC0_1.out); (case side3 => repeat (first | exact (Kd.C_below HR0_3.out HB.out) | (with_reducible refine Kd.C_alloc ?_ _) | (with_reducible refine Kd.C_drewN ?_ _) | (with_reducible refine Kd.C_drew ?_))); (case side4 => exact HC0_3.out); (case side5 => repeat (first | exact (Kd.C_below HR0_4.out HB.out) | (with_reducible refine Kd.C_alloc ?_ _) | (with_reducible refine Kd.C_drewN ?_ _) | (with_reducible refine Kd.C_drew ?_))); (case side6 => exact HC0_4.out); (case side7 => repeat (first | exact (Kd.C_below HR0_5.out HB.out) | (with_reducible refine Kd.C_alloc ?_ _) | (with_reducible refine Kd.C_drewN ?_ _) | (with_reducible refine Kd.C_drew ?_))); (case side8 => exact HC0_5.out); rintro e w62 ⟨rfl, hb⟩; have n0_ := Aside0.mk (Kd.R_below (by (with_reducible repeat (first | apply Kd.R_alloc | apply Kd.R_drewN | apply Kd.R_drew)); exact HO_7.out) hb); have n1_ := Aside0.mk (Kd.R_below (by (with_reducible repeat (first | apply Kd.R_alloc | apply Kd.R_drewN | apply Kd.R_drew)); exact HO_8.out) hb); have n2_ := Aside0.mk (Kd.S_below (by (with_reducible repeat (first | apply Kd.S_alloc | apply Kd.S_drewN | apply Kd.S_drew)); exact HO_9.out) hb); have n3_ := Aside0.mk (blk_below (g := gb369) (o := .cells #[.string a0_0, .slice A0_1 l0_1.length c0_1, .string a0_2, .slice A0_3 l0_3.length c0_3, .slice A0_4 l0_4.length c0_4, .slice A0_5 l0_5.length c0_5] 26 (0, 0)) (by (with_reducible repeat (first | refine blk_drewN ?_ _ | refine blk_drew ?_ | refine blk_alloc ?_ _)); exact BK369.out) hb); have n4_ := Aside0.mk (below_step (by repeat (first | (with_reducible first | exact HB.out | apply below_alloc | apply pw_below_drewN | apply below_drew1 | refine below_set ?_ GE369.out) | exact HB.out)) hb); clear HO_7; clear HO_8; clear HO_9; clear BK369; clear HB; have HO_7 := n0_; have HO_8 := n1_; have HO_9 := n2_; have BK369 := n3_; have HB := n4_; clear n0_ n1_ n2_ n3_ n4_; (try clear hb); (try clear hb2); (try clear hk); (try clear hi); have hcz63_0 : w62.cell? ⟨gb369, 0, none⟩ = some (.string a0_0) := (blk_cell BK369.out 0).trans rfl; have hcz63_1 : w62.cell? ⟨gb369, 1, none⟩ = some (.slice A0_1 l0_1.length c0_1) := (blk_cell BK369.out 1).trans rfl; have hcz63_2 : w62.cell? ⟨gb369, 2, none⟩ = some (.string a0_2) := (blk_cell BK369.out 2).trans rfl; have hcz63_3 : w62.cell? ⟨gb369, 3, none⟩ = some (.slice A0_3 l0_3.length c0_3) := (blk_cell BK369.out 3).trans rfl; have hcz63_4 : w62.cell? ⟨gb369, 4, none⟩ = some (.slice A0_4 l0_4.length c0_4) := (blk_cell BK369.out 4).trans rfl; have hcz63_5 : w62.cell? ⟨gb369, 5, none⟩ = some (.slice A0_5 l0_5.length c0_5) := (blk_cell BK369.out 5).trans rfl; have hfz63_0 := blk_frozen BK369.out 0; have hfz63_1 := blk_frozen BK369.out 1; have hfz63_2 := blk_frozen BK369.out 2; have hfz63_3 := blk_frozen BK369.out 3; have hfz63_4 := blk_frozen BK369.out 4; have hfz63_5 := blk_frozen BK369.out 5) | (go_at_call 44; (with_reducible refine (truantref10_Is.calls a0_0 _ _ l0_1 a0_2 _ _ l0_3 _ _ l0_4 _ _ l0_5 t391 _ ?side1 ?side2 ?side3 ?side4 ?side5 ?side6 ?side7 ?side8 A56.out).mono ?_); (case side1 => repeat (first | exact (Kd.C_below HR0_1.out HB.out) | (with_reducible refine Kd.C_alloc ?_ _) | (with_reducible refine Kd.C_drewN ?_ _) | (with_reducible refine Kd.C_drew ?_))); (case side2 => exact HC0_1.out); (case side3 => repeat (first | exact (Kd.C_below HR0_3.out HB.out) | (with_reducible refine Kd.C_alloc ?_ _) | (with_reducible refine Kd.C_drewN ?_ _) | (with_reducible refine Kd.C_drew ?_))); (case side4 => exact HC0_3.out); (case side5 => repeat (first | exact (Kd.C_below HR0_4.out HB.out) | (with_reducible refine Kd.C_alloc ?_ _) | (with_reducible refine Kd.C_drewN ?_ _) | (with_reducible refine Kd.C_drew ?_))); (case side6 => exact HC0_4.out); (case side7 => repeat (first | exact (Kd.C_below HR0_5.out HB.out) | (with_reducible refine Kd.C_alloc ?_ _) | (with_reducible refine Kd.C_drewN ?_ _) | (with_reducible refine Kd.C_drew ?_))); (case side8 => exact HC0_5.out); rintro e w64 ⟨v392, rfl, ho0, hb⟩; have n0_ := Aside0.mk (Kd.R_below (by (with_reducible repeat (first | apply Kd.R_alloc | apply Kd.R_drewN | apply Kd.R_drew)); exact HO_7.out) hb); have n1_ := Aside0.mk (Kd.R_below (by (with_reducible repeat (first | apply Kd.R_alloc | apply Kd.R_drewN | apply Kd.R_drew)); exact HO_8.out) hb); have n2_ := Aside0.mk (Kd.S_below (by (with_reducible repeat (first | apply Kd.S_alloc | apply Kd.S_drewN | apply Kd.S_drew)); exact HO_9.out) hb); have n3_ := Aside0.mk (Kd.S_lower ho0 (below_size (by repeat (first | (with_reducible first | exact HB.out | apply below_alloc | apply pw_below_drewN | apply below_drew1 | refine below_set ?_ GE369.out) | exact HB.out)))); have n4_ := Aside0.mk (blk_below (g := gb369) (o := .cells #[.string a0_0, .slice A0_1 l0_1.length c0_1, .string a0_2, .slice A0_3 l0_3.length c0_3, .slice A0_4 l0_4.length c0_4, .slice A0_5 l0_5.length c0_5] 26 (0, 0)) (by (with_reducible repeat (first | refine blk_drewN ?_ _ | refine blk_drew ?_ | refine blk_alloc ?_ _)); exact BK369.out) hb); have n5_ := Aside0.mk (below_step (by repeat (first | (with_reducible first | exact HB.out | apply below_alloc | apply pw_below_drewN | apply below_drew1 | refine below_set ?_ GE369.out) | exact HB.out)) hb); clear HO_7; clear HO_8; clear HO_9; clear BK369; clear HB; have HO_7 := n0_; have HO_8 := n1_; have HO_9 := n2_; have HO393 := n3_; have BK369 := n4_; have HB := n5_; clear n0_ n1_ n2_ n3_ n4_ n5_; (try clear hb); (try clear hb2); (try clear hk); (try clear hi); (try clear ho0); obtain ⟨Ao65, co65, eo65⟩ := Kd.S_slice HO393.out; subst eo65; have p394 : 0 ≤ (a1 : Int) := of_decide_eq_true (by first | (with_reducible assumption) | assumption); have q394 : a1 < (t391.length : Int) := of_decide_eq_true (by first | (with_reducible assumption) | assumption); obtain ⟨ad394, A394_0, c394_0, e394, hx394_0, hl394_0, hi394_0⟩ := at_L7 (Kd.S_reads' HO393.out).2.2 a1 p394 q394; cases e394; obtain ⟨ce394, hce394, hMe394, hcc394⟩ := Kd.S_get HO393.out [] a1 p394 (by first | exact q394 | exact of_decide_eq_true (by first | (with_reducible assumption) | assumption) | (have e_ := (Kd.S_reads' HO393.out).1; omega)); obtain ⟨ve394_0, rfl, ge394_0⟩ := hMe394; have hv394_0 := hcc394 0 _ rfl; rw [Nat.add_zero, show ((Kd.slice 4 Kd.bool)).sz = 1 from rfl, Nat.mul_one] at hv394_0; replace hv394_0 := Option.some.inj (hv394_0.symm.trans hx394_0); rw [hv394_0] at ge394_0; have HL394_0 := Aside0.mk (show Kd.R Kd.bool 4 _ _ _ _ (rd_L7 t391 a1) from ge394_0); clear hv394_0 ge394_0; clear hcc394 hce394; have HR394_0 := Aside0.mk hi394_0; have HC394_0 := Aside0.mk hl394_0; clear hi394_0 hl394_0; replace p394 := eq_true p394; replace q394 := eq_true q394; have p395 : 0 ≤ (a2 : Int) := of_decide_eq_true (by first | (with_reducible assumption) | assumption); have q395 : a2 < ((rd_L7 t391 a1).length : Int) := of_decide_eq_true (by first | (with_reducible assumption) | assumption); obtain ⟨ad395, e395, hx395_0⟩ := Kd.at_bool (by repeat (first | (with_reducible exact HR394_0.out) | (with_reducible refine Kd.C_alloc ?_ _) | (with_reducible refine Kd.C_drewN ?_ _) | (with_reducible refine Kd.C_drew ?_) | exact HR394_0.out)) a2 p395 q395; cases e395; replace p395 := eq_true p395; replace q395 := eq_true q395)); try go_wp2_with (first | (go_at_call 43; (with_reducible refine (dom_Is.calls a0_0 _ _ l0_1 a0_2 _ _ l0_3 _ _ l0_4 _ _ l0_5 a1 a2 t390 _ ?side1 ?side2 ?side3 ?side4 ?side5 ?side6 ?side7 ?side8 A54.out).mono ?_); (case side1 => repeat (first | exact (Kd.C_below HR0_1.out HB.out) | (with_reducible refine Kd.C_alloc ?_ _) | (with_reducible refine Kd.C_drewN ?_ _) | (with_reducible refine Kd.C_drew ?_))); (case side2 => exact HC0_1.out); (case side3 => repeat (first | exact (Kd.C_below HR0_3.out HB.out) | (with_reducible refine Kd.C_alloc ?_ _) | (with_reducible refine Kd.C_drewN ?_ _) | (with_reducible refine Kd.C_drew ?_))); (case side4 => exact HC0_3.out); (case side5 => repeat (first | exact (Kd.C_below HR0_4.out HB.out) | (with_reducible refine Kd.C_alloc ?_ _) | (with_reducible refine Kd.C_drewN ?_ _) | (with_reducible refine Kd.C_drew ?_))); (case side6 => exact HC0_4.out); (case side7 => repeat (first | exact (Kd.C_below HR0_5.out HB.out) | (with_reducible refine Kd.C_alloc ?_ _) | (with_reducible refine Kd.C_drewN ?_ _) | (with_reducible refine Kd.C_drew ?_))); (case side8 => exact HC0_5.out); rintro e w62 ⟨rfl, hb⟩; have n0_ := Aside0.mk (Kd.R_below (by (with_reducible repeat (first | apply Kd.R_alloc | apply Kd.R_drewN | apply Kd.R_drew)); exact HO_7.out) hb); have n1_ := Aside0.mk (Kd.R_below (by (with_reducible repeat (first | apply Kd.R_alloc | apply Kd.R_drewN | apply Kd.R_drew)); exact HO_8.out) hb); have n2_ := Aside0.mk (Kd.S_below (by (with_reducible repeat (first | apply Kd.S_alloc | apply Kd.S_drewN | apply Kd.S_drew)); exact HO_9.out) hb); have n3_ := Aside0.mk (blk_below (g := gb369) (o := .cells #[.string a0_0, .slice A0_1 l0_1.length c0_1, .string a0_2, .slice A0_3 l0_3.length c0_3, .slice A0_4 l0_4.length c0_4, .slice A0_5 l0_5.length c0_5] 26 (0, 0)) (by (with_reducible repeat (first | refine blk_drewN ?_ _ | refine blk_drew ?_ | refine blk_alloc ?_ _)); exact BK369.out) hb); have n4_ := Aside0.mk (below_step (by repeat (first | (with_reducible first | exact HB.out | apply below_alloc | apply pw_below_drewN | apply below_drew1 | refine below_set ?_ GE369.out) | exact HB.out)) hb); clear HO_7; clear HO_8; clear HO_9; clear BK369; clear HB; have HO_7 := n0_; have HO_8 := n1_; have HO_9 := n2_; have BK369 := n3_; have HB := n4_; clear n0_ n1_ n2_ n3_ n4_; (try clear hb); (try clear hb2); (try clear hk); (try clear hi); have hcz63_0 : w62.cell? ⟨gb369, 0, none⟩ = some (.string a0_0) := (blk_cell BK369.out 0).trans rfl; have hcz63_1 : w62.cell? ⟨gb369, 1, none⟩ = some (.slice A0_1 l0_1.length c0_1) := (blk_cell BK369.out 1).trans rfl; have hcz63_2 : w62.cell? ⟨gb369, 2, none⟩ = some (.string a0_2) := (blk_cell BK369.out 2).trans rfl; have hcz63_3 : w62.cell? ⟨gb369, 3, none⟩ = some (.slice A0_3 l0_3.length c0_3) := (blk_cell BK369.out 3).trans rfl; have hcz63_4 : w62.cell? ⟨gb369, 4, none⟩ = some (.slice A0_4 l0_4.length c0_4) := (blk_cell BK369.out 4).trans rfl; have hcz63_5 : w62.cell? ⟨gb369, 5, none⟩ = some (.slice A0_5 l0_5.length c0_5) := (blk_cell BK369.out 5).trans rfl; have hfz63_0 := blk_frozen BK369.out 0; have hfz63_1 := blk_frozen BK369.out 1; have hfz63_2 := blk_frozen BK369.out 2; have hfz63_3 := blk_frozen BK369.out 3; have hfz63_4 := blk_frozen BK369.out 4; have hfz63_5 := blk_frozen BK369.out 5) | (go_at_call 44; (with_reducible refine (truantref10_Is.calls a0_0 _ _ l0_1 a0_2 _ _ l0_3 _ _ l0_4 _ _ l0_5 t391 _ ?side1 ?side2 ?side3 ?side4 ?side5 ?side6 ?side7 ?side8 A56.out).mono ?_); (case side1 => repeat (first | exact (Kd.C_below HR0_1.out HB.out) | (with_reducible refine Kd.C_alloc ?_ _) | (with_reducible refine Kd.C_drewN ?_ _) | (with_reducible refine Kd.C_drew ?_))); (case side2 => exact HC0_1.out); (case side3 => repeat (first | exact (Kd.C_below HR0_3.out HB.out) | (with_reducible refine Kd.C_alloc ?_ _) | (with_reducible refine Kd.C_drewN ?_ _) | (with_reducible refine Kd.C_drew ?_))); (case side4 => exact HC0_3.out); (case side5 => repeat (first | exact (Kd.C_below HR0_4.out HB.out) | (with_reducible refine Kd.C_alloc ?_ _) | (with_reducible refine Kd.C_drewN ?_ _) | (with_reducible refine Kd.C_drew ?_))); (case side6 => exact HC0_4.out); (case side7 => repeat (first | exact (Kd.C_below HR0_5.out HB.out) | (with_reducible refine Kd.C_alloc ?_ _) | (with_reducible refine Kd.C_drewN ?_ _) | (with_reducible refine Kd.C_drew ?_))); (case side8 => exact HC0_5.out); rintro e w64 ⟨v392, rfl, ho0, hb⟩; have n0_ := Aside0.mk (Kd.R_below (by (with_reducible repeat (first | apply Kd.R_alloc | apply Kd.R_drewN | apply Kd.R_drew)); exact HO_7.out) hb); have n1_ := Aside0.mk (Kd.R_below (by (with_reducible repeat (first | apply Kd.R_alloc | apply Kd.R_drewN | apply Kd.R_drew)); exact HO_8.out) hb); have n2_ := Aside0.mk (Kd.S_below (by (with_reducible repeat (first | apply Kd.S_alloc | apply Kd.S_drewN | apply Kd.S_drew)); exact HO_9.out) hb); have n3_ := Aside0.mk (Kd.S_lower ho0 (below_size (by repeat (first | (with_reducible first | exact HB.out | apply below_alloc | apply pw_below_drewN | apply below_drew1 | refine below_set ?_ GE369.out) | exact HB.out)))); have n4_ := Aside0.mk (blk_below (g := gb369) (o := .cells #[.string a0_0, .slice A0_1 l0_1.length c0_1, .string a0_2, .slice A0_3 l0_3.length c0_3, .slice A0_4 l0_4.length c0_4, .slice A0_5 l0_5.length c0_5] 26 (0, 0)) (by (with_reducible repeat (first | refine blk_drewN ?_ _ | refine blk_drew ?_ | refine blk_alloc ?_ _)); exact BK369.out) hb); have n5_ := Aside0.mk (below_step (by repeat (first | (with_reducible first | exact HB.out | apply below_alloc | apply pw_below_drewN | apply below_drew1 | refine below_set ?_ GE369.out) | exact HB.out)) hb); clear HO_7; clear HO_8; clear HO_9; clear BK369; clear HB; have HO_7 := n0_; have HO_8 := n1_; have HO_9 := n2_; have HO393 := n3_; have BK369 := n4_; have HB := n5_; clear n0_ n1_ n2_ n3_ n4_ n5_; (try clear hb); (try clear hb2); (try clear hk); (try clear hi); (try clear ho0); obtain ⟨Ao65, co65, eo65⟩ := Kd.S_slice HO393.out; subst eo65; have p394 : 0 ≤ (a1 : Int) := of_decide_eq_true (by first | (with_reducible assumption) | assumption); have q394 : a1 < (t391.length : Int) := of_decide_eq_true (by first | (with_reducible assumption) | assumption); obtain ⟨ad394, A394_0, c394_0, e394, hx394_0, hl394_0, hi394_0⟩ := at_L7 (Kd.S_reads' HO393.out).2.2 a1 p394 q394; cases e394; obtain ⟨ce394, hce394, hMe394, hcc394⟩ := Kd.S_get HO393.out [] a1 p394 (by first | exact q394 | exact of_decide_eq_true (by first | (with_reducible assumption) | assumption) | (have e_ := (Kd.S_reads' HO393.out).1; omega)); obtain ⟨ve394_0, rfl, ge394_0⟩ := hMe394; have hv394_0 := hcc394 0 _ rfl; rw [Nat.add_zero, show ((Kd.slice 4 Kd.bool)).sz = 1 from rfl, Nat.mul_one] at hv394_0; replace hv394_0 := Option.some.inj (hv394_0.symm.trans hx394_0); rw [hv394_0] at ge394_0; have HL394_0 := Aside0.mk (show Kd.R Kd.bool 4 _ _ _ _ (rd_L7 t391 a1) from ge394_0); clear hv394_0 ge394_0; clear hcc394 hce394; have HR394_0 := Aside0.mk hi394_0; have HC394_0 := Aside0.mk hl394_0; clear hi394_0 hl394_0; replace p394 := eq_true p394; replace q394 := eq_true q394; have p395 : 0 ≤ (a2 : Int) := of_decide_eq_true (by first | (with_reducible assumption) | assumption); have q395 : a2 < ((rd_L7 t391 a1).length : Int) := of_decide_eq_true (by first | (with_reducible assumption) | assumption); obtain ⟨ad395, e395, hx395_0⟩ := Kd.at_bool (by repeat (first | (with_reducible exact HR394_0.out) | (with_reducible refine Kd.C_alloc ?_ _) | (with_reducible refine Kd.C_drewN ?_ _) | (with_reducible refine Kd.C_drew ?_) | exact HR394_0.out)) a2 p395 q395; cases e395; replace p395 := eq_true p395; replace q395 := eq_true q395)))
                 go_ret
                 exact ⟨by first | rfl | (simp [errW_none, errW_some] <;> rfl) | (simp [*, errW_none, errW_some] <;> rfl), by repeat (first | (with_reducible first | exact HB.out | apply below_alloc | apply pw_below_drewN | apply below_drew1 | refine below_set ?_ GE369.out) | exact HB.out)⟩
                ·rw [if_neg c60] at H
                 exact absurd H (by simp)
               ·rw [if_neg c59] at H
                exact absurd H (by simp)
              ·rw [if_neg c58] at H
               exact absurd H (by simp)
             ·rw [if_neg c57] at H
              exact absurd H (by simp)
            ·rw [if_neg c55] at H
             have c55b0 : decide (a2 < (t375.length : Int)) = false := decide_eq_false c55
             clear c55
             obtain rfl := Option.some.inj H
             have hcz66_0 : wr.cell? ⟨gb369, 0, none⟩ = some (.string a0_0) := (blk_cell BK369.out 0).trans rfl
             have hcz66_1 : wr.cell? ⟨gb369, 1, none⟩ = some (.slice A0_1 l0_1.length c0_1) := (blk_cell BK369.out 1).trans rfl
             have hcz66_2 : wr.cell? ⟨gb369, 2, none⟩ = some (.string a0_2) := (blk_cell BK369.out 2).trans rfl
             have hcz66_3 : wr.cell? ⟨gb369, 3, none⟩ = some (.slice A0_3 l0_3.length c0_3) := (blk_cell BK369.out 3).trans rfl
             have hcz66_4 : wr.cell? ⟨gb369, 4, none⟩ = some (.slice A0_4 l0_4.length c0_4) := (blk_cell BK369.out 4).trans rfl
             have hcz66_5 : wr.cell? ⟨gb369, 5, none⟩ = some (.slice A0_5 l0_5.length c0_5) := (blk_cell BK369.out 5).trans rfl
             have hfz66_0 := blk_frozen BK369.out 0
             have hfz66_1 := blk_frozen BK369.out 1
             have hfz66_2 := blk_frozen BK369.out 2
             have hfz66_3 := blk_frozen BK369.out 3
             have hfz66_4 := blk_frozen BK369.out 4
             have hfz66_5 := blk_frozen BK369.out 5
             go_wp2_with (first | (go_at_call 43; (with_reducible refine (dom_Is.calls a0_0 _ _ l0_1 a0_2 _ _ l0_3 _ _ l0_4 _ _ l0_5 a1 a2 t390 _ ?side1 ?side2 ?side3 ?side4 ?side5 ?side6 ?side7 ?side8 A54.out).mono ?_); (case side1 => repeat (first | exact (Kd.C_below HR0_1.out HB.out) | (with_reducible refine Kd.C_alloc ?_ _) | (with_reducible refine Kd.C_drewN ?_ _) | (with_reducible refine Kd.C_drew ?_))); (case side2 => exact HC0_1.out); (case side3 => repeat (first | exact (Kd.C_below HR0_3.out HB.out) | (with_reducible refine Kd.C_alloc ?_ _) | (with_reducible refine Kd.C_drewN ?_ _) | (with_reducible refine Kd.C_drew ?_))); (case side4 => exact HC0_3.out); (case side5 => repeat (first | exact (Kd.C_below HR0_4.out HB.out) | (with_reducible refine Kd.C_alloc ?_ _) | (with_reducible refine Kd.C_drewN ?_ _) | (with_reducible refine Kd.C_drew ?_))); (case side6 => exact HC0_4.out); (case side7 => repeat (first | exact (Kd.C_below HR0_5.out HB.out) | (with_reducible refine Kd.C_alloc ?_ _) | (with_reducible refine Kd.C_drewN ?_ _) | (with_reducible refine Kd.C_drew ?_))); (case side8 => exact HC0_5.out); rintro e w67 ⟨rfl, hb⟩; have n0_ := Aside0.mk (Kd.R_below (by (with_reducible repeat (first | apply Kd.R_alloc | apply Kd.R_drewN | apply Kd.R_drew)); exact HO_7.out) hb); have n1_ := Aside0.mk (Kd.R_below (by (with_reducible repeat (first | apply Kd.R_alloc | apply Kd.R_drewN | apply Kd.R_drew)); exact HO_8.out) hb); have n2_ := Aside0.mk (Kd.S_below (by (with_reducible repeat (first | apply Kd.S_alloc | apply Kd.S_drewN | apply Kd.S_drew)); exact HO_9.out) hb); have n3_ := Aside0.mk (blk_below (g := gb369) (o := .cells #[.string a0_0, .slice A0_1 l0_1.length c0_1, .string a0_2, .slice A0_3 l0_3.length c0_3, .slice A0_4 l0_4.length c0_4, .slice A0_5 l0_5.length c0_5] 26 (0, 0)) (by (with_reducible repeat (first | refine blk_drewN ?_ _ | refine blk_drew ?_ | refine blk_alloc ?_ _)); exact BK369.out) hb); have n4_ := Aside0.mk (below_step (by repeat (first | (with_reducible first | exact HB.out | apply below_alloc | apply pw_below_drewN | apply below_drew1 | refine below_set ?_ GE369.out) | exact HB.out)) hb); clear HO_7; clear HO_8; clear HO_9; clear BK369; clear HB; have HO_7 := n0_; have HO_8 := n1_; have HO_9 := n2_; have BK369 := n3_; have HB := n4_; clear n0_ n1_ n2_ n3_ n4_; (try clear hb); (try clear hb2); (try clear hk); (try clear hi)))
             repeat (go_quiet (first | (go_at_call 43; (with_reducible refine (dom_Is.calls a0_0 _ _ l0_1 a0_2 _ _ l0_3 _ _ l0_4 _ _ l0_5 a1 a2 t390 _ ?side1 ?side2 ?side3 ?side4 ?side5 ?side6 ?side7 ?side8 A54.out).mono ?_); (case side1 => repeat (first | exact (Kd.C_below HR0_1.out HB.out) | (with_reducible refine Kd.C_alloc ?_ _) | (with_reducible refine Kd.C_drewN ?_ _) | (with_reducible refine Kd.C_drew ?_))); (case side2 => exact HC0_1.out); (case side3 => repeat (first | exact (Kd.C_below HR0_3.out HB.out) | (with_reducible refine Kd.C_alloc ?_ _) | (with_reducible refine Kd.C_drewN ?_ _) | (with_reducible refine Kd.C_drew ?_))); (case side4 => exact HC0_3.out); (case side5 => repeat (first | exact (Kd.C_below HR0_4.out HB.out) | (with_reducible refine Kd.C_alloc ?_ _) | (with_reducible refine Kd.C_drewN ?_ _) | (with_reducible refine Kd.C_drew ?_))); (case side6 => exact HC0_4.out); (case side7 => repeat (first | exact (Kd.C_below HR0_5.out HB.out) | (with_reducible refine Kd.C_alloc ?_ _) | (with_reducible refine Kd.C_drewN ?_ _) | (with_reducible refine Kd.C_drew ?_))); (case side8 => exact HC0_5.out); rintro e w67 ⟨rfl, hb⟩; have n0_ := Aside0.mk (Kd.R_below (by (with_reducible repeat (first | apply Kd.R_alloc | apply Kd.R_drewN | apply Kd.R_drew)); exact HO_7.out) hb); have n1_ := Aside0.mk (Kd.R_below (by (with_reducible repeat (first | apply Kd.R_alloc | apply Kd.R_drewN | apply Kd.R_drew)); exact HO_8.out) hb); have n2_ := Aside0.mk (Kd.S_below (by (with_reducible repeat (first | apply Kd.S_alloc | apply Kd.S_drewN | apply Kd.S_drew)); exact HO_9.out) hb); have n3_ := Aside0.mk (blk_below (g := gb369) (o := .cells #[.string a0_0, .slice A0_1 l0_1.length c0_1, .string a0_2, .slice A0_3 l0_3.length c0_3, .slice A0_4 l0_4.length c0_4, .slice A0_5 l0_5.length c0_5] 26 (0, 0)) (by (with_reducible repeat (first | refine blk_drewN ?_ _ | refine blk_drew ?_ | refine blk_alloc ?_ _)); exact BK369.out) hb); have n4_ := Aside0.mk (below_step (by repeat (first | (with_reducible first | exact HB.out | apply below_alloc | apply pw_below_drewN | apply below_drew1 | refine below_set ?_ GE369.out) | exact HB.out)) hb); clear HO_7; clear HO_8; clear HO_9; clear BK369; clear HB; have HO_7 := n0_; have HO_8 := n1_; have HO_9 := n2_; have BK369 := n3_; have HB := n4_; clear n0_ n1_ n2_ n3_ n4_; (try clear hb); (try clear hb2); (try clear hk); (try clear hi))); try go_wp2_with (first | (go_at_call 43; (with_reducible refine (dom_Is.calls a0_0 _ _ l0_1 a0_2 _ _ l0_3 _ _ l0_4 _ _ l0_5 a1 a2 t390 _ ?side1 ?side2 ?side3 ?side4 ?side5 ?side6 ?side7 ?side8 A54.out).mono ?_); (case side1 => repeat (first | exact (Kd.C_below HR0_1.out HB.out) | (with_reducible refine Kd.C_alloc ?_ _) | (with_reducible refine Kd.C_drewN ?_ _) | (with_reducible refine Kd.C_drew ?_))); (case side2 => exact HC0_1.out); (case side3 => repeat (first | exact (Kd.C_below HR0_3.out HB.out) | (with_reducible refine Kd.C_alloc ?_ _) | (with_reducible refine Kd.C_drewN ?_ _) | (with_reducible refine Kd.C_drew ?_))); (case side4 => exact HC0_3.out); (case side5 => repeat (first | exact (Kd.C_below HR0_4.out HB.out) | (with_reducible refine Kd.C_alloc ?_ _) | (with_reducible refine Kd.C_drewN ?_ _) | (with_reducible refine Kd.C_drew ?_))); (case side6 => exact HC0_4.out); (case side7 => repeat (first | exact (Kd.C_below HR0_5.out HB.out) | (with_reducible refine Kd.C_alloc ?_ _) | (with_reducible refine Kd.C_drewN ?_ _) | (with_reducible refine Kd.C_drew ?_))); (case side8 => exact HC0_5.out); rintro e w67 ⟨rfl, hb⟩; have n0_ := Aside0.mk (Kd.R_below (by (with_reducible repeat (first | apply Kd.R_alloc | apply Kd.R_drewN | apply Kd.R_drew)); exact HO_7.out) hb); have n1_ := Aside0.mk (Kd.R_below (by (with_reducible repeat (first | apply Kd.R_alloc | apply Kd.R_drewN | apply Kd.R_drew)); exact HO_8.out) hb); have n2_ := Aside0.mk (Kd.S_below (by (with_reducible repeat (first | apply Kd.S_alloc | apply Kd.S_drewN | apply Kd.S_drew)); exact HO_9.out) hb); have n3_ := Aside0.mk (blk_below (g := gb369) (o := .cells #[.string a0_0, .slice A0_1 l0_1.length c0_1, .string a0_2, .slice A0_3 l0_3.length c0_3, .slice A0_4 l0_4.length c0_4, .slice A0_5 l0_5.length c0_5] 26 (0, 0)) (by (with_reducible repeat (first | refine blk_drewN ?_ _ | refine blk_drew ?_ | refine blk_alloc ?_ _)); exact BK369.out) hb); have n4_ := Aside0.mk (below_step (by repeat (first | (with_reducible first | exact HB.out | apply below_alloc | apply pw_below_drewN | apply below_drew1 | refine below_set ?_ GE369.out) | exact HB.out)) hb); clear HO_7; clear HO_8; clear HO_9; clear BK369; clear HB; have HO_7 := n0_; have HO_8 := n1_; have HO_9 := n2_; have BK369 := n3_; have HB := n4_; clear n0_ n1_ n2_ n3_ n4_; (try clear hb); (try clear hb2); (try clear hk); (try clear hi))))
             go_ret
             exact ⟨by first | rfl | (simp [errW_none, errW_some] <;> rfl) | (simp [*, errW_none, errW_some] <;> rfl), by repeat (first | (with_reducible first | exact HB.out | apply below_alloc | apply pw_below_drewN | apply below_drew1 | refine below_set ?_ GE369.out) | exact HB.out)⟩
           ·rw [if_neg c53] at H
            exact absurd H (by simp)
          ·rw [if_neg c52] at H
           have c52b0 : decide (0 ≤ a2) = false := decide_eq_false c52
           clear c52
           by_cases c68 : x10_1 = 0
           ·rw [if_pos c68] at H
            have c68b0 : (x10_1 == 0) = true := beq_iff_eq.mpr c68
            have c68b1 : (x10_1 != 0) = false := bne_eq_false_iff_eq.mpr c68
            clear c68
            replace H := Option.bind_eq_some_iff.mp H
            obtain ⟨t396, A690, H⟩ := H
            replace H : (some (t396 == false)) = some r := H
            have A69 := Aside0.mk A690
            clear A690
            obtain rfl := Option.some.inj H
            have hcz70_0 : wr.cell? ⟨gb369, 0, none⟩ = some (.string a0_0) := (blk_cell BK369.out 0).trans rfl
            have hcz70_1 : wr.cell? ⟨gb369, 1, none⟩ = some (.slice A0_1 l0_1.length c0_1) := (blk_cell BK369.out 1).trans rfl
            have hcz70_2 : wr.cell? ⟨gb369, 2, none⟩ = some (.string a0_2) := (blk_cell BK369.out 2).trans rfl
            have hcz70_3 : wr.cell? ⟨gb369, 3, none⟩ = some (.slice A0_3 l0_3.length c0_3) := (blk_cell BK369.out 3).trans rfl
            have hcz70_4 : wr.cell? ⟨gb369, 4, none⟩ = some (.slice A0_4 l0_4.length c0_4) := (blk_cell BK369.out 4).trans rfl
            have hcz70_5 : wr.cell? ⟨gb369, 5, none⟩ = some (.slice A0_5 l0_5.length c0_5) := (blk_cell BK369.out 5).trans rfl
            have hfz70_0 := blk_frozen BK369.out 0
            have hfz70_1 := blk_frozen BK369.out 1
            have hfz70_2 := blk_frozen BK369.out 2
            have hfz70_3 := blk_frozen BK369.out 3
            have hfz70_4 := blk_frozen BK369.out 4
            have hfz70_5 := blk_frozen BK369.out 5
            go_wp2_with (first | (go_at_call 43; (with_reducible refine (dom_Is.calls a0_0 _ _ l0_1 a0_2 _ _ l0_3 _ _ l0_4 _ _ l0_5 a1 a2 t396 _ ?side1 ?side2 ?side3 ?side4 ?side5 ?side6 ?side7 ?side8 A69.out).mono ?_); (case side1 => repeat (first | exact (Kd.C_below HR0_1.out HB.out) | (with_reducible refine Kd.C_alloc ?_ _) | (with_reducible refine Kd.C_drewN ?_ _) | (with_reducible refine Kd.C_drew ?_))); (case side2 => exact HC0_1.out); (case side3 => repeat (first | exact (Kd.C_below HR0_3.out HB.out) | (with_reducible refine Kd.C_alloc ?_ _) | (with_reducible refine Kd.C_drewN ?_ _) | (with_reducible refine Kd.C_drew ?_))); (case side4 => exact HC0_3.out); (case side5 => repeat (first | exact (Kd.C_below HR0_4.out HB.out) | (with_reducible refine Kd.C_alloc ?_ _) | (with_reducible refine Kd.C_drewN ?_ _) | (with_reducible refine Kd.C_drew ?_))); (case side6 => exact HC0_4.out); (case side7 => repeat (first | exact (Kd.C_below HR0_5.out HB.out) | (with_reducible refine Kd.C_alloc ?_ _) | (with_reducible refine Kd.C_drewN ?_ _) | (with_reducible refine Kd.C_drew ?_))); (case side8 => exact HC0_5.out); rintro e w71 ⟨rfl, hb⟩; have n0_ := Aside0.mk (Kd.R_below (by (with_reducible repeat (first | apply Kd.R_alloc | apply Kd.R_drewN | apply Kd.R_drew)); exact HO_7.out) hb); have n1_ := Aside0.mk (Kd.R_below (by (with_reducible repeat (first | apply Kd.R_alloc | apply Kd.R_drewN | apply Kd.R_drew)); exact HO_8.out) hb); have n2_ := Aside0.mk (Kd.S_below (by (with_reducible repeat (first | apply Kd.S_alloc | apply Kd.S_drewN | apply Kd.S_drew)); exact HO_9.out) hb); have n3_ := Aside0.mk (blk_below (g := gb369) (o := .cells #[.string a0_0, .slice A0_1 l0_1.length c0_1, .string a0_2, .slice A0_3 l0_3.length c0_3, .slice A0_4 l0_4.length c0_4, .slice A0_5 l0_5.length c0_5] 26 (0, 0)) (by (with_reducible repeat (first | refine blk_drewN ?_ _ | refine blk_drew ?_ | refine blk_alloc ?_ _)); exact BK369.out) hb); have n4_ := Aside0.mk (below_step (by repeat (first | (with_reducible first | exact HB.out | apply below_alloc | apply pw_below_drewN | apply below_drew1 | refine below_set ?_ GE369.out) | exact HB.out)) hb); clear HO_7; clear HO_8; clear HO_9; clear BK369; clear HB; have HO_7 := n0_; have HO_8 := n1_; have HO_9 := n2_; have BK369 := n3_; have HB := n4_; clear n0_ n1_ n2_ n3_ n4_; (try clear hb); (try clear hb2); (try clear hk); (try clear hi)))
            repeat (go_quiet (first | (go_at_call 43; (with_reducible refine (dom_Is.calls a0_0 _ _ l0_1 a0_2 _ _ l0_3 _ _ l0_4 _ _ l0_5 a1 a2 t396 _ ?side1 ?side2 ?side3 ?side4 ?side5 ?side6 ?side7 ?side8 A69.out).mono ?_); (case side1 => repeat (first | exact (Kd.C_below HR0_1.out HB.out) | (with_reducible refine Kd.C_alloc ?_ _) | (with_reducible refine Kd.C_drewN ?_ _) | (with_reducible refine Kd.C_drew ?_))); (case side2 => exact HC0_1.out); (case side3 => repeat (first | exact (Kd.C_below HR0_3.out HB.out) | (with_reducible refine Kd.C_alloc ?_ _) | (with_reducible refine Kd.C_drewN ?_ _) | (with_reducible refine Kd.C_drew ?_))); (case side4 => exact HC0_3.out); (case side5 => repeat (first | exact (Kd.C_below HR0_4.out HB.out) | (with_reducible refine Kd.C_alloc ?_ _) | (with_reducible refine Kd.C_drewN ?_ _) | (with_reducible refine Kd.C_drew ?_))); (case side6 => exact HC0_4.out); (case side7 => repeat (first | exact (Kd.C_below HR0_5.out HB.out) | (with_reducible refine Kd.C_alloc ?_ _) | (with_reducible refine Kd.C_drewN ?_ _) | (with_reducible refine Kd.C_drew ?_))); (case side8 => exact HC0_5.out); rintro e w71 ⟨rfl, hb⟩; have n0_ := Aside0.mk (Kd.R_below (by (with_reducible repeat (first | apply Kd.R_alloc | apply Kd.R_drewN | apply Kd.R_drew)); exact HO_7.out) hb); have n1_ := Aside0.mk (Kd.R_below (by (with_reducible repeat (first | apply Kd.R_alloc | apply Kd.R_drewN | apply Kd.R_drew)); exact HO_8.out) hb); have n2_ := Aside0.mk (Kd.S_below (by (with_reducible repeat (first | apply Kd.S_alloc | apply Kd.S_drewN | apply Kd.S_drew)); exact HO_9.out) hb); have n3_ := Aside0.mk (blk_below (g := gb369) (o := .cells #[.string a0_0, .slice A0_1 l0_1.length c0_1, .string a0_2, .slice A0_3 l0_3.length c0_3, .slice A0_4 l0_4.length c0_4, .slice A0_5 l0_5.length c0_5] 26 (0, 0)) (by (with_reducible repeat (first | refine blk_drewN ?_ _ | refine blk_drew ?_ | refine blk_alloc ?_ _)); exact BK369.out) hb); have n4_ := Aside0.mk (below_step (by repeat (first | (with_reducible first | exact HB.out | apply below_alloc | apply pw_below_drewN | apply below_drew1 | refine below_set ?_ GE369.out) | exact HB.out)) hb); clear HO_7; clear HO_8; clear HO_9; clear BK369; clear HB; have HO_7 := n0_; have HO_8 := n1_; have HO_9 := n2_; have BK369 := n3_; have HB := n4_; clear n0_ n1_ n2_ n3_ n4_; (try clear hb); (try clear hb2); (try clear hk); (try clear hi))); try go_wp2_with (first | (go_at_call 43; (with_reducible refine (dom_Is.calls a0_0 _ _ l0_1 a0_2 _ _ l0_3 _ _ l0_4 _ _ l0_5 a1 a2 t396 _ ?side1 ?side2 ?side3 ?side4 ?side5 ?side6 ?side7 ?side8 A69.out).mono ?_); (case side1 => repeat (first | exact (Kd.C_below HR0_1.out HB.out) | (with_reducible refine Kd.C_alloc ?_ _) | (with_reducible refine Kd.C_drewN ?_ _) | (with_reducible refine Kd.C_drew ?_))); (case side2 => exact HC0_1.out); (case side3 => repeat (first | exact (Kd.C_below HR0_3.out HB.out) | (with_reducible refine Kd.C_alloc ?_ _) | (with_reducible refine Kd.C_drewN ?_ _) | (with_reducible refine Kd.C_drew ?_))); (case side4 => exact HC0_3.out); (case side5 => repeat (first | exact (Kd.C_below HR0_4.out HB.out) | (with_reducible refine Kd.C_alloc ?_ _) | (with_reducible refine Kd.C_drewN ?_ _) | (with_reducible refine Kd.C_drew ?_))); (case side6 => exact HC0_4.out); (case side7 => repeat (first | exact (Kd.C_below HR0_5.out HB.out) | (with_reducible refine Kd.C_alloc ?_ _) | (with_reducible refine Kd.C_drewN ?_ _) | (with_reducible refine Kd.C_drew ?_))); (case side8 => exact HC0_5.out); rintro e w71 ⟨rfl, hb⟩; have n0_ := Aside0.mk (Kd.R_below (by (with_reducible repeat (first | apply Kd.R_alloc | apply Kd.R_drewN | apply Kd.R_drew)); exact HO_7.out) hb); have n1_ := Aside0.mk (Kd.R_below (by (with_reducible repeat (first | apply Kd.R_alloc | apply Kd.R_drewN | apply Kd.R_drew)); exact HO_8.out) hb); have n2_ := Aside0.mk (Kd.S_below (by (with_reducible repeat (first | apply Kd.S_alloc | apply Kd.S_drewN | apply Kd.S_drew)); exact HO_9.out) hb); have n3_ := Aside0.mk (blk_below (g := gb369) (o := .cells #[.string a0_0, .slice A0_1 l0_1.length c0_1, .string a0_2, .slice A0_3 l0_3.length c0_3, .slice A0_4 l0_4.length c0_4, .slice A0_5 l0_5.length c0_5] 26 (0, 0)) (by (with_reducible repeat (first | refine blk_drewN ?_ _ | refine blk_drew ?_ | refine blk_alloc ?_ _)); exact BK369.out) hb); have n4_ := Aside0.mk (below_step (by repeat (first | (with_reducible first | exact HB.out | apply below_alloc | apply pw_below_drewN | apply below_drew1 | refine below_set ?_ GE369.out) | exact HB.out)) hb); clear HO_7; clear HO_8; clear HO_9; clear BK369; clear HB; have HO_7 := n0_; have HO_8 := n1_; have HO_9 := n2_; have BK369 := n3_; have HB := n4_; clear n0_ n1_ n2_ n3_ n4_; (try clear hb); (try clear hb2); (try clear hk); (try clear hi))))
            go_ret
            exact ⟨by first | rfl | (simp [errW_none, errW_some] <;> rfl) | (simp [*, errW_none, errW_some] <;> rfl), by repeat (first | (with_reducible first | exact HB.out | apply below_alloc | apply pw_below_drewN | apply below_drew1 | refine below_set ?_ GE369.out) | exact HB.out)⟩
           ·rw [if_neg c68] at H
            exact absurd H (by simp)
         ·rw [if_neg c51] at H
          have c51b0 : decide (a1 < (t375.length : Int)) = false := decide_eq_false c51
          clear c51
          by_cases c72 : x10_1 = 0
          ·rw [if_pos c72] at H
           have c72b0 : (x10_1 == 0) = true := beq_iff_eq.mpr c72
           have c72b1 : (x10_1 != 0) = false := bne_eq_false_iff_eq.mpr c72
           clear c72
           replace H := Option.bind_eq_some_iff.mp H
           obtain ⟨t397, A730, H⟩ := H
           replace H : (some (t397 == false)) = some r := H
           have A73 := Aside0.mk A730
           clear A730
           obtain rfl := Option.some.inj H
           have hcz74_0 : wr.cell? ⟨gb369, 0, none⟩ = some (.string a0_0) := (blk_cell BK369.out 0).trans rfl
           have hcz74_1 : wr.cell? ⟨gb369, 1, none⟩ = some (.slice A0_1 l0_1.length c0_1) := (blk_cell BK369.out 1).trans rfl
           have hcz74_2 : wr.cell? ⟨gb369, 2, none⟩ = some (.string a0_2) := (blk_cell BK369.out 2).trans rfl
           have hcz74_3 : wr.cell? ⟨gb369, 3, none⟩ = some (.slice A0_3 l0_3.length c0_3) := (blk_cell BK369.out 3).trans rfl
           have hcz74_4 : wr.cell? ⟨gb369, 4, none⟩ = some (.slice A0_4 l0_4.length c0_4) := (blk_cell BK369.out 4).trans rfl
           have hcz74_5 : wr.cell? ⟨gb369, 5, none⟩ = some (.slice A0_5 l0_5.length c0_5) := (blk_cell BK369.out 5).trans rfl
           have hfz74_0 := blk_frozen BK369.out 0
           have hfz74_1 := blk_frozen BK369.out 1
           have hfz74_2 := blk_frozen BK369.out 2
           have hfz74_3 := blk_frozen BK369.out 3
           have hfz74_4 := blk_frozen BK369.out 4
           have hfz74_5 := blk_frozen BK369.out 5
           go_wp2_with (first | (go_at_call 43; (with_reducible refine (dom_Is.calls a0_0 _ _ l0_1 a0_2 _ _ l0_3 _ _ l0_4 _ _ l0_5 a1 a2 t397 _ ?side1 ?side2 ?side3 ?side4 ?side5 ?side6 ?side7 ?side8 A73.out).mono ?_); (case side1 => repeat (first | exact (Kd.C_below HR0_1.out HB.out) | (with_reducible refine Kd.C_alloc ?_ _) | (with_reducible refine Kd.C_drewN ?_ _) | (with_reducible refine Kd.C_drew ?_))); (case side2 => exact HC0_1.out); (case side3 => repeat (first | exact (Kd.C_below HR0_3.out HB.out) | (with_reducible refine Kd.C_alloc ?_ _) | (with_reducible refine Kd.C_drewN ?_ _) | (with_reducible refine Kd.C_drew ?_))); (case side4 => exact HC0_3.out); (case side5 => repeat (first | exact (Kd.C_below HR0_4.out HB.out) | (with_reducible refine Kd.C_alloc ?_ _) | (with_reducible refine Kd.C_drewN ?_ _) | (with_reducible refine Kd.C_drew ?_))); (case side6 => exact HC0_4.out); (case side7 => repeat (first | exact (Kd.C_below HR0_5.out HB.out) | (with_reducible refine Kd.C_alloc ?_ _) | (with_reducible refine Kd.C_drewN ?_ _) | (with_reducible refine Kd.C_drew ?_))); (case side8 => exact HC0_5.out); rintro e w75 ⟨rfl, hb⟩; have n0_ := Aside0.mk (Kd.R_below (by (with_reducible repeat (first | apply Kd.R_alloc | apply Kd.R_drewN | apply Kd.R_drew)); exact HO_7.out) hb); have n1_ := Aside0.mk (Kd.R_below (by (with_reducible repeat (first | apply Kd.R_alloc | apply Kd.R_drewN | apply Kd.R_drew)); exact HO_8.out) hb); have n2_ := Aside0.mk (Kd.S_below (by (with_reducible repeat (first | apply Kd.S_alloc | apply Kd.S_drewN | apply Kd.S_drew)); exact HO_9.out) hb); have n3_ := Aside0.mk (blk_below (g := gb369) (o := .cells #[.string a0_0, .slice A0_1 l0_1.length c0_1, .string a0_2, .slice A0_3 l0_3.length c0_3, .slice A0_4 l0_4.length c0_4, .slice A0_5 l0_5.length c0_5] 26 (0, 0)) (by (with_reducible repeat (first | refine blk_drewN ?_ _ | refine blk_drew ?_ | refine blk_alloc ?_ _)); exact BK369.out) hb); have n4_ := Aside0.mk (below_step (by repeat (first | (with_reducible first | exact HB.out | apply below_alloc | apply pw_below_drewN | apply below_drew1 | refine below_set ?_ GE369.out) | exact HB.out)) hb); clear HO_7; clear HO_8; clear HO_9; clear BK369; clear HB; have HO_7 := n0_; have HO_8 := n1_; have HO_9 := n2_; have BK369 := n3_; have HB := n4_; clear n0_ n1_ n2_ n3_ n4_; (try clear hb); (try clear hb2); (try clear hk); (try clear hi)))
           repeat (go_quiet (first | (go_at_call 43; (with_reducible refine (dom_Is.calls a0_0 _ _ l0_1 a0_2 _ _ l0_3 _ _ l0_4 _ _ l0_5 a1 a2 t397 _ ?side1 ?side2 ?side3 ?side4 ?side5 ?side6 ?side7 ?side8 A73.out).mono ?_); (case side1 => repeat (first | exact (Kd.C_below HR0_1.out HB.out) | (with_reducible refine Kd.C_alloc ?_ _) | (with_reducible refine Kd.C_drewN ?_ _) | (with_reducible refine Kd.C_drew ?_))); (case side2 => exact HC0_1.out); (case side3 => repeat (first | exact (Kd.C_below HR0_3.out HB.out) | (with_reducible refine Kd.C_alloc ?_ _) | (with_reducible refine Kd.C_drewN ?_ _) | (with_reducible refine Kd.C_drew ?_))); (case side4 => exact HC0_3.out); (case side5 => repeat (first | exact (Kd.C_below HR0_4.out HB.out) | (with_reducible refine Kd.C_alloc ?_ _) | (with_reducible refine Kd.C_drewN ?_ _) | (with_reducible refine Kd.C_drew ?_))); (case side6 => exact HC0_4.out); (case side7 => repeat (first | exact (Kd.C_below HR0_5.out HB.out) | (with_reducible refine Kd.C_alloc ?_ _) | (with_reducible refine Kd.C_drewN ?_ _) | (with_reducible refine Kd.C_drew ?_))); (case side8 => exact HC0_5.out); rintro e w75 ⟨rfl, hb⟩; have n0_ := Aside0.mk (Kd.R_below (by (with_reducible repeat (first | apply Kd.R_alloc | apply Kd.R_drewN | apply Kd.R_drew)); exact HO_7.out) hb); have n1_ := Aside0.mk (Kd.R_below (by (with_reducible repeat (first | apply Kd.R_alloc | apply Kd.R_drewN | apply Kd.R_drew)); exact HO_8.out) hb); have n2_ := Aside0.mk (Kd.S_below (by (with_reducible repeat (first | apply Kd.S_alloc | apply Kd.S_drewN | apply Kd.S_drew)); exact HO_9.out) hb); have n3_ := Aside0.mk (blk_below (g := gb369) (o := .cells #[.string a0_0, .slice A0_1 l0_1.length c0_1, .string a0_2, .slice A0_3 l0_3.length c0_3, .slice A0_4 l0_4.length c0_4, .slice A0_5 l0_5.length c0_5] 26 (0, 0)) (by (with_reducible repeat (first | refine blk_drewN ?_ _ | refine blk_drew ?_ | refine blk_alloc ?_ _)); exact BK369.out) hb); have n4_ := Aside0.mk (below_step (by repeat (first | (with_reducible first | exact HB.out | apply below_alloc | apply pw_below_drewN | apply below_drew1 | refine below_set ?_ GE369.out) | exact HB.out)) hb); clear HO_7; clear HO_8; clear HO_9; clear BK369; clear HB; have HO_7 := n0_; have HO_8 := n1_; have HO_9 := n2_; have BK369 := n3_; have HB := n4_; clear n0_ n1_ n2_ n3_ n4_; (try clear hb); (try clear hb2); (try clear hk); (try clear hi))); try go_wp2_with (first | (go_at_call 43; (with_reducible refine (dom_Is.calls a0_0 _ _ l0_1 a0_2 _ _ l0_3 _ _ l0_4 _ _ l0_5 a1 a2 t397 _ ?side1 ?side2 ?side3 ?side4 ?side5 ?side6 ?side7 ?side8 A73.out).mono ?_); (case side1 => repeat (first | exact (Kd.C_below HR0_1.out HB.out) | (with_reducible refine Kd.C_alloc ?_ _) | (with_reducible refine Kd.C_drewN ?_ _) | (with_reducible refine Kd.C_drew ?_))); (case side2 => exact HC0_1.out); (case side3 => repeat (first | exact (Kd.C_below HR0_3.out HB.out) | (with_reducible refine Kd.C_alloc ?_ _) | (with_reducible refine Kd.C_drewN ?_ _) | (with_reducible refine Kd.C_drew ?_))); (case side4 => exact HC0_3.out); (case side5 => repeat (first | exact (Kd.C_below HR0_4.out HB.out) | (with_reducible refine Kd.C_alloc ?_ _) | (with_reducible refine Kd.C_drewN ?_ _) | (with_reducible refine Kd.C_drew ?_))); (case side6 => exact HC0_4.out); (case side7 => repeat (first | exact (Kd.C_below HR0_5.out HB.out) | (with_reducible refine Kd.C_alloc ?_ _) | (with_reducible refine Kd.C_drewN ?_ _) | (with_reducible refine Kd.C_drew ?_))); (case side8 => exact HC0_5.out); rintro e w75 ⟨rfl, hb⟩; have n0_ := Aside0.mk (Kd.R_below (by (with_reducible repeat (first | apply Kd.R_alloc | apply Kd.R_drewN | apply Kd.R_drew)); exact HO_7.out) hb); have n1_ := Aside0.mk (Kd.R_below (by (with_reducible repeat (first | apply Kd.R_alloc | apply Kd.R_drewN | apply Kd.R_drew)); exact HO_8.out) hb); have n2_ := Aside0.mk (Kd.S_below (by (with_reducible repeat (first | apply Kd.S_alloc | apply Kd.S_drewN | apply Kd.S_drew)); exact HO_9.out) hb); have n3_ := Aside0.mk (blk_below (g := gb369) (o := .cells #[.string a0_0, .slice A0_1 l0_1.length c0_1, .string a0_2, .slice A0_3 l0_3.length c0_3, .slice A0_4 l0_4.length c0_4, .slice A0_5 l0_5.length c0_5] 26 (0, 0)) (by (with_reducible repeat (first | refine blk_drewN ?_ _ | refine blk_drew ?_ | refine blk_alloc ?_ _)); exact BK369.out) hb); have n4_ := Aside0.mk (below_step (by repeat (first | (with_reducible first | exact HB.out | apply below_alloc | apply pw_below_drewN | apply below_drew1 | refine below_set ?_ GE369.out) | exact HB.out)) hb); clear HO_7; clear HO_8; clear HO_9; clear BK369; clear HB; have HO_7 := n0_; have HO_8 := n1_; have HO_9 := n2_; have BK369 := n3_; have HB := n4_; clear n0_ n1_ n2_ n3_ n4_; (try clear hb); (try clear hb2); (try clear hk); (try clear hi))))
           go_ret
           exact ⟨by first | rfl | (simp [errW_none, errW_some] <;> rfl) | (simp [*, errW_none, errW_some] <;> rfl), by repeat (first | (with_reducible first | exact HB.out | apply below_alloc | apply pw_below_drewN | apply below_drew1 | refine below_set ?_ GE369.out) | exact HB.out)⟩
          ·rw [if_neg c72] at H
           exact absurd H (by simp)
        ·rw [if_neg c50] at H
         have c50b0 : decide (0 ≤ a1) = false := decide_eq_false c50
         clear c50
         by_cases c76 : x10_1 = 0
         ·rw [if_pos c76] at H
          have c76b0 : (x10_1 == 0) = true := beq_iff_eq.mpr c76
          have c76b1 : (x10_1 != 0) = false := bne_eq_false_iff_eq.mpr c76
          clear c76
          replace H := Option.bind_eq_some_iff.mp H
          obtain ⟨t398, A770, H⟩ := H
          replace H : (some (t398 == false)) = some r := H
          have A77 := Aside0.mk A770
          clear A770
          obtain rfl := Option.some.inj H
          have hcz78_0 : wr.cell? ⟨gb369, 0, none⟩ = some (.string a0_0) := (blk_cell BK369.out 0).trans rfl
          have hcz78_1 : wr.cell? ⟨gb369, 1, none⟩ = some (.slice A0_1 l0_1.length c0_1) := (blk_cell BK369.out 1).trans rfl
          have hcz78_2 : wr.cell? ⟨gb369, 2, none⟩ = some (.string a0_2) := (blk_cell BK369.out 2).trans rfl
          have hcz78_3 : wr.cell? ⟨gb369, 3, none⟩ = some (.slice A0_3 l0_3.length c0_3) := (blk_cell BK369.out 3).trans rfl
          have hcz78_4 : wr.cell? ⟨gb369, 4, none⟩ = some (.slice A0_4 l0_4.length c0_4) := (blk_cell BK369.out 4).trans rfl
          have hcz78_5 : wr.cell? ⟨gb369, 5, none⟩ = some (.slice A0_5 l0_5.length c0_5) := (blk_cell BK369.out 5).trans rfl
          have hfz78_0 := blk_frozen BK369.out 0
          have hfz78_1 := blk_frozen BK369.out 1
          have hfz78_2 := blk_frozen BK369.out 2
          have hfz78_3 := blk_frozen BK369.out 3
          have hfz78_4 := blk_frozen BK369.out 4
          have hfz78_5 := blk_frozen BK369.out 5
          go_wp2_with (first | (go_at_call 43; (with_reducible refine (dom_Is.calls a0_0 _ _ l0_1 a0_2 _ _ l0_3 _ _ l0_4 _ _ l0_5 a1 a2 t398 _ ?side1 ?side2 ?side3 ?side4 ?side5 ?side6 ?side7 ?side8 A77.out).mono ?_); (case side1 => repeat (first | exact (Kd.C_below HR0_1.out HB.out) | (with_reducible refine Kd.C_alloc ?_ _) | (with_reducible refine Kd.C_drewN ?_ _) | (with_reducible refine Kd.C_drew ?_))); (case side2 => exact HC0_1.out); (case side3 => repeat (first | exact (Kd.C_below HR0_3.out HB.out) | (with_reducible refine Kd.C_alloc ?_ _) | (with_reducible refine Kd.C_drewN ?_ _) | (with_reducible refine Kd.C_drew ?_))); (case side4 => exact HC0_3.out); (case side5 => repeat (first | exact (Kd.C_below HR0_4.out HB.out) | (with_reducible refine Kd.C_alloc ?_ _) | (with_reducible refine Kd.C_drewN ?_ _) | (with_reducible refine Kd.C_drew ?_))); (case side6 => exact HC0_4.out); (case side7 => repeat (first | exact (Kd.C_below HR0_5.out HB.out) | (with_reducible refine Kd.C_alloc ?_ _) | (with_reducible refine Kd.C_drewN ?_ _) | (with_reducible refine Kd.C_drew ?_))); (case side8 => exact HC0_5.out); rintro e w79 ⟨rfl, hb⟩; have n0_ := Aside0.mk (Kd.R_below (by (with_reducible repeat (first | apply Kd.R_alloc | apply Kd.R_drewN | apply Kd.R_drew)); exact HO_7.out) hb); have n1_ := Aside0.mk (Kd.R_below (by (with_reducible repeat (first | apply Kd.R_alloc | apply Kd.R_drewN | apply Kd.R_drew)); exact HO_8.out) hb); have n2_ := Aside0.mk (Kd.S_below (by (with_reducible repeat (first | apply Kd.S_alloc | apply Kd.S_drewN | apply Kd.S_drew)); exact HO_9.out) hb); have n3_ := Aside0.mk (blk_below (g := gb369) (o := .cells #[.string a0_0, .slice A0_1 l0_1.length c0_1, .string a0_2, .slice A0_3 l0_3.length c0_3, .slice A0_4 l0_4.length c0_4, .slice A0_5 l0_5.length c0_5] 26 (0, 0)) (by (with_reducible repeat (first | refine blk_drewN ?_ _ | refine blk_drew ?_ | refine blk_alloc ?_ _)); exact BK369.out) hb); have n4_ := Aside0.mk (below_step (by repeat (first | (with_reducible first | exact HB.out | apply below_alloc | apply pw_below_drewN | apply below_drew1 | refine below_set ?_ GE369.out) | exact HB.out)) hb); clear HO_7; clear HO_8; clear HO_9; clear BK369; clear HB; have HO_7 := n0_; have HO_8 := n1_; have HO_9 := n2_; have BK369 := n3_; have HB := n4_; clear n0_ n1_ n2_ n3_ n4_; (try clear hb); (try clear hb2); (try clear hk); (try clear hi)))
          repeat (go_quiet (first | (go_at_call 43; (with_reducible refine (dom_Is.calls a0_0 _ _ l0_1 a0_2 _ _ l0_3 _ _ l0_4 _ _ l0_5 a1 a2 t398 _ ?side1 ?side2 ?side3 ?side4 ?side5 ?side6 ?side7 ?side8 A77.out).mono ?_); (case side1 => repeat (first | exact (Kd.C_below HR0_1.out HB.out) | (with_reducible refine Kd.C_alloc ?_ _) | (with_reducible refine Kd.C_drewN ?_ _) | (with_reducible refine Kd.C_drew ?_))); (case side2 => exact HC0_1.out); (case side3 => repeat (first | exact (Kd.C_below HR0_3.out HB.out) | (with_reducible refine Kd.C_alloc ?_ _) | (with_reducible refine Kd.C_drewN ?_ _) | (with_reducible refine Kd.C_drew ?_))); (case side4 => exact HC0_3.out); (case side5 => repeat (first | exact (Kd.C_below HR0_4.out HB.out) | (with_reducible refine Kd.C_alloc ?_ _) | (with_reducible refine Kd.C_drewN ?_ _) | (with_reducible refine Kd.C_drew ?_))); (case side6 => exact HC0_4.out); (case side7 => repeat (first | exact (Kd.C_below HR0_5.out HB.out) | (with_reducible refine Kd.C_alloc ?_ _) | (with_reducible refine Kd.C_drewN ?_ _) | (with_reducible refine Kd.C_drew ?_))); (case side8 => exact HC0_5.out); rintro e w79 ⟨rfl, hb⟩; have n0_ := Aside0.mk (Kd.R_below (by (with_reducible repeat (first | apply Kd.R_alloc | apply Kd.R_drewN | apply Kd.R_drew)); exact HO_7.out) hb); have n1_ := Aside0.mk (Kd.R_below (by (with_reducible repeat (first | apply Kd.R_alloc | apply Kd.R_drewN | apply Kd.R_drew)); exact HO_8.out) hb); have n2_ := Aside0.mk (Kd.S_below (by (with_reducible repeat (first | apply Kd.S_alloc | apply Kd.S_drewN | apply Kd.S_drew)); exact HO_9.out) hb); have n3_ := Aside0.mk (blk_below (g := gb369) (o := .cells #[.string a0_0, .slice A0_1 l0_1.length c0_1, .string a0_2, .slice A0_3 l0_3.length c0_3, .slice A0_4 l0_4.length c0_4, .slice A0_5 l0_5.length c0_5] 26 (0, 0)) (by (with_reducible repeat (first | refine blk_drewN ?_ _ | refine blk_drew ?_ | refine blk_alloc ?_ _)); exact BK369.out) hb); have n4_ := Aside0.mk (below_step (by repeat (first | (with_reducible first | exact HB.out | apply below_alloc | apply pw_below_drewN | apply below_drew1 | refine below_set ?_ GE369.out) | exact HB.out)) hb); clear HO_7; clear HO_8; clear HO_9; clear BK369; clear HB; have HO_7 := n0_; have HO_8 := n1_; have HO_9 := n2_; have BK369 := n3_; have HB := n4_; clear n0_ n1_ n2_ n3_ n4_; (try clear hb); (try clear hb2); (try clear hk); (try clear hi))); try go_wp2_with (first | (go_at_call 43; (with_reducible refine (dom_Is.calls a0_0 _ _ l0_1 a0_2 _ _ l0_3 _ _ l0_4 _ _ l0_5 a1 a2 t398 _ ?side1 ?side2 ?side3 ?side4 ?side5 ?side6 ?side7 ?side8 A77.out).mono ?_); (case side1 => repeat (first | exact (Kd.C_below HR0_1.out HB.out) | (with_reducible refine Kd.C_alloc ?_ _) | (with_reducible refine Kd.C_drewN ?_ _) | (with_reducible refine Kd.C_drew ?_))); (case side2 => exact HC0_1.out); (case side3 => repeat (first | exact (Kd.C_below HR0_3.out HB.out) | (with_reducible refine Kd.C_alloc ?_ _) | (with_reducible refine Kd.C_drewN ?_ _) | (with_reducible refine Kd.C_drew ?_))); (case side4 => exact HC0_3.out); (case side5 => repeat (first | exact (Kd.C_below HR0_4.out HB.out) | (with_reducible refine Kd.C_alloc ?_ _) | (with_reducible refine Kd.C_drewN ?_ _) | (with_reducible refine Kd.C_drew ?_))); (case side6 => exact HC0_4.out); (case side7 => repeat (first | exact (Kd.C_below HR0_5.out HB.out) | (with_reducible refine Kd.C_alloc ?_ _) | (with_reducible refine Kd.C_drewN ?_ _) | (with_reducible refine Kd.C_drew ?_))); (case side8 => exact HC0_5.out); rintro e w79 ⟨rfl, hb⟩; have n0_ := Aside0.mk (Kd.R_below (by (with_reducible repeat (first | apply Kd.R_alloc | apply Kd.R_drewN | apply Kd.R_drew)); exact HO_7.out) hb); have n1_ := Aside0.mk (Kd.R_below (by (with_reducible repeat (first | apply Kd.R_alloc | apply Kd.R_drewN | apply Kd.R_drew)); exact HO_8.out) hb); have n2_ := Aside0.mk (Kd.S_below (by (with_reducible repeat (first | apply Kd.S_alloc | apply Kd.S_drewN | apply Kd.S_drew)); exact HO_9.out) hb); have n3_ := Aside0.mk (blk_below (g := gb369) (o := .cells #[.string a0_0, .slice A0_1 l0_1.length c0_1, .string a0_2, .slice A0_3 l0_3.length c0_3, .slice A0_4 l0_4.length c0_4, .slice A0_5 l0_5.length c0_5] 26 (0, 0)) (by (with_reducible repeat (first | refine blk_drewN ?_ _ | refine blk_drew ?_ | refine blk_alloc ?_ _)); exact BK369.out) hb); have n4_ := Aside0.mk (below_step (by repeat (first | (with_reducible first | exact HB.out | apply below_alloc | apply pw_below_drewN | apply below_drew1 | refine below_set ?_ GE369.out) | exact HB.out)) hb); clear HO_7; clear HO_8; clear HO_9; clear BK369; clear HB; have HO_7 := n0_; have HO_8 := n1_; have HO_9 := n2_; have BK369 := n3_; have HB := n4_; clear n0_ n1_ n2_ n3_ n4_; (try clear hb); (try clear hb2); (try clear hk); (try clear hi))))
          go_ret
          exact ⟨by first | rfl | (simp [errW_none, errW_some] <;> rfl) | (simp [*, errW_none, errW_some] <;> rfl), by repeat (first | (with_reducible first | exact HB.out | apply below_alloc | apply pw_below_drewN | apply below_drew1 | refine below_set ?_ GE369.out) | exact HB.out)⟩
         ·rw [if_neg c76] at H
          exact absurd H (by simp)
    ·rw [if_neg c16] at H
     exact absurd H (by simp)
   ·rw [if_neg c15] at H
    exact absurd H (by simp)
 ·replace c5 := Bool.eq_false_iff.mpr c5
  subst c5
  have H1 : (none) = some r := by rw [if_neg (show ¬ (false = true) by decide)] at H; exact H
  clear H
  have H := H1
  clear H1
  exact absurd H (by simp)

end Go.Proofs.Ytclhjalgflebfaa.Q

/- How an argument of a type reads: out of the form's reading comes the value that the printed walks take. -/
namespace Go.Proofs.Ytclhjalgflebfaa.Q
open Go.RowKit Go.Proofs.YtclhjalgflebfaaW.PrintWords Go.Proofs.YtclhjalgflebfaaW.PrintLast Go.Proofs.YtclhjalgflebfaaW.PrintMore
set_option linter.unusedVariables false
set_option linter.unusedSimpArgs false
/-- What reads at type t reads as a value of kind K, of which Q holds. -/
structure Opens {α : Type} (P : Program) (t : TypeId) (K : Kd α) (Q : α → Prop) : Prop where
 out : ∀ {H : Type} {enc : TypeId × Value → H} {W : World} {base : Nat} {sp : Nat → Bool} {held : Bool} {fuel : Nat} {cs : List Value} {x : DataW H × List MemPlace},
  (∀ n ∈ x.1.weights P t, n ≤ reachBytes) → DataW.trod enc P W base sp held fuel t cs = some x → ∃ y, K.K W y cs ∧ Q y
section
variable {P : Program}
theorem opens_string {t : TypeId} (ht : P.underlying t = some .string) : Opens P t Kd.string (fun s => s.size ≤ 140737488351232) := by
 constructor
 intro H enc W base sp held fuel cs x hw h
 obtain ⟨s, rfl, rfl, hs⟩ : ∃ s : ByteArray, cs = [.string s] ∧ x = (.lit (.string s.data.toList), []) ∧ s.size ≤ maxLen := by
  cases fuel with
  | zero => simp [DataW.trod] at h
  | succ n =>
   unfold DataW.trod at h
   rw [ht] at h
   split at h <;> simp_all
 refine ⟨s, rfl, ?_⟩
 have := hw s.data.toList.length (by simp [DataW.weights])
 rw [Array.length_toList] at this
 exact this
theorem opens_int {t : TypeId} {q : IntKind} (ht : P.underlying t = some (.int q)) : Opens P t (Kd.int q) (fun n => (Lit.int q n).wf = true) := by
 constructor
 intro H enc W base sp held fuel cs x hw h
 obtain ⟨n, rfl, hs⟩ : ∃ n : Int, cs = [.int q n] ∧ (Lit.int q n).wf = true := by
  cases fuel with
  | zero => simp [DataW.trod] at h
  | succ n =>
   unfold DataW.trod at h
   rw [ht] at h
   split at h <;> simp_all
 exact ⟨n, rfl, hs⟩
theorem weights_all {H : Type} {e : TypeId} : ∀ {ds : List (DataW H)} {d : DataW H}, d ∈ ds → ∀ n ∈ d.weights P e, n ∈ DataW.weightsAll P e ds
 | d0 :: ds, d, hd, n, hn => by
  simp only [DataW.weightsAll, List.mem_append]
  rcases List.mem_cons.mp hd with rfl | h
  ·exact .inl hn
  ·exact .inr (weights_all h n hn)
theorem choose_list {α : Type} {p : Nat → α → Prop} : ∀ {n : Nat}, (∀ i, i < n → ∃ y, p i y) → ∃ ys : List α, ys.length = n ∧ ∀ i y, ys[i]? = some y → p i y
 | 0, _ => ⟨[], rfl, fun i y h => by simp at h⟩
 | n + 1, h => by
  obtain ⟨ys, hl, hy⟩ := choose_list (n := n) (fun i hi => h i (by omega))
  obtain ⟨y, hp⟩ := h n (by omega)
  refine ⟨ys ++ [y], by simp [hl], fun i z hz => ?_⟩
  by_cases hi : i < n
  ·rw [List.getElem?_append_left (by omega)] at hz
   exact hy i z hz
  ·have := (List.getElem?_eq_some_iff.mp hz).1
   simp at this
   have e : i = n := by omega
   subst e
   rw [List.getElem?_append_right (by omega)] at hz
   simp [hl] at hz
   subst hz
   exact hp
theorem opens_slice {α : Type} {t e : TypeId} {K : Kd α} {Q : α → Prop} (he : Opens P e K Q) (ht : P.underlying t = some (.slice e)) (hc : P.cellsOf e = K.sz) (bytes : Nat) (hb : P.bytesOf e = bytes) :
  Opens P t (Kd.slice e K) (fun l => l.length * bytes ≤ 140737488351232 ∧ ∀ x ∈ l, Q x) := by
 constructor
 intro H enc W base sp held fuel cs x hw h
 rcases Deep.open_slice ht h with ⟨rfl, rfl⟩ | ⟨a, len, cap, m, n, D, Pl, rfl, _, hl, hm, hmm, rfl, hel⟩
 ·exact ⟨[], ⟨none, 0, rfl, Nat.le_refl _, Kd.C_nil K W⟩, by simp, by simp⟩
 ·have hlm : len ≤ m := by rw [hmm]; split <;> omega
  have hw' : ∀ i, i < len → ∀ k ∈ (D i).weights P e, k ≤ reachBytes := fun i hi k hk => hw k (by
   simp only [DataW.weights, ht, List.mem_cons, List.mem_append]
   exact .inr (.inl (weights_all (List.mem_map.mpr ⟨i, by simpa using hi, rfl⟩) k hk)))
  obtain ⟨ys, hys, hY⟩ := choose_list (n := len) (p := fun i y => (∃ c, c.length = K.sz ∧ K.K W y c ∧ ∀ j u, c[j]? = some u → W.cell? (a.add (i * K.sz + j)) = some u) ∧ Q y) (fun i hi => by
   obtain ⟨c, h1, h2⟩ := hel i (by omega)
   obtain ⟨y, hy, hq⟩ := he.out (hw' i hi) h2
   obtain ⟨_, h3, h4⟩ := World.cells?_some h1
   rw [hc] at h3 h4
   refine ⟨y, ⟨c, h3, hy, fun j u hu => ?_⟩, hq⟩
   have hj : j < K.sz := by
    have := (List.getElem?_eq_some_iff.mp hu).1
    omega
   have h5 := h4 j hj
   rw [Addr.add_add] at h5
   rw [h5, hu])
  have hlen : len ≤ maxLen := by omega
  refine ⟨ys, ⟨some a, cap, by rw [hys], by omega, rfl, by rw [hys]; unfold maxLen at hlen; omega, fun _ => ⟨a, rfl, fun j p hj => (hY j p hj).1⟩⟩, ?_, ?_⟩
  ·have := hw ((((List.range len).map D).length + ((List.range (m - len)).map fun j => D (len + j)).length) * P.bytesOf e) (by simp [DataW.weights, ht])
   rw [hb] at this
   simp only [List.length_map, List.length_range] at this
   have h2 : len * bytes ≤ (len + (m - len)) * bytes := Nat.mul_le_mul_right _ (by omega)
   rw [hys]
   unfold reachBytes at this
   omega
  ·intro x hx
   obtain ⟨i, hi, rfl⟩ := List.mem_iff_getElem.mp hx
   exact (hY i _ (List.getElem?_eq_getElem hi)).2
/-- The fields from one on. -/
structure OpensF {α : Type} (P : Program) (fs : List Field) (off : Nat) (K : Kd α) (Q : α → Prop) : Prop where
 out : ∀ {H : Type} {enc : TypeId × Value → H} {W : World} {base : Nat} {sp : Nat → Bool} {held : Bool} {fuel : Nat} {cs : List Value} {xs : List (DataW H × List MemPlace)},
  cs.length = off + K.sz → (∀ n ∈ DataW.weightsEach P (fs.map (·.type)) (xs.map (·.1)), n ≤ reachBytes) → (fs.mapM fun f => DataW.trod enc P W base sp held fuel f.type ((cs.drop f.offset).take (P.cellsOf f.type))) = some xs → ∃ y, K.K W y (cs.drop off) ∧ Q y
theorem opensF_last {α : Type} {f : Field} {off t : Nat} {K : Kd α} {Q : α → Prop} (h : Opens P t K Q) (h0 : f.type = t) (hc : P.cellsOf t = K.sz) (ho : f.offset = off) : OpensF P [f] off K Q := by
 constructor
 intro H enc W base sp held fuel cs xs hl hw hm
 subst h0
 simp only [List.mapM_cons, List.mapM_nil, Option.pure_def, Option.bind_eq_bind, Option.bind_some] at hm
 obtain ⟨x, hx, hm⟩ := Option.bind_eq_some_iff.mp hm
 obtain rfl := Option.some.inj hm
 rw [hc, ho, List.take_of_length_le (by rw [List.length_drop]; omega)] at hx
 exact h.out (fun n hn => hw n (by simp [DataW.weightsEach, hn])) hx
theorem opensF_cons {α β : Type} {f : Field} {fs : List Field} {off t : Nat} {K : Kd α} {K1 : Kd β} {Q : α → Prop} {Q1 : β → Prop} (h : Opens P t K Q) (h0 : f.type = t) (hc : P.cellsOf t = K.sz) (ho : f.offset = off) (h1 : OpensF P fs (off + K.sz) K1 Q1) :
  OpensF P (f :: fs) off (Kd.pair K K1) (fun p => Q p.1 ∧ Q1 p.2) := by
 constructor
 intro H enc W base sp held fuel cs xs hl hw hm
 subst h0
 have hl : cs.length = off + (K.sz + K1.sz) := hl
 rw [List.mapM_cons] at hm
 simp only [Option.pure_def, Option.bind_eq_bind] at hm
 obtain ⟨x, hx, hm⟩ := Option.bind_eq_some_iff.mp hm
 obtain ⟨xs', hxs, hm⟩ := Option.bind_eq_some_iff.mp hm
 obtain rfl := Option.some.inj hm
 rw [hc, ho] at hx
 obtain ⟨y, hy, hq⟩ := h.out (fun n hn => hw n (by simp only [List.map_cons, DataW.weightsEach, List.mem_append]; exact .inl hn)) hx
 obtain ⟨z, hz, hq1⟩ := h1.out (by omega) (fun n hn => hw n (by simp only [List.map_cons, DataW.weightsEach, List.mem_append]; exact .inr hn)) hxs
 refine ⟨(y, z), ⟨(cs.drop off).take K.sz, cs.drop (off + K.sz), ?_, hy, hz⟩, hq, hq1⟩
 rw [← List.drop_drop, List.take_append_drop]
theorem opens_struct {α β : Type} {t : TypeId} {fs : Array Field} {K : Kd α} {Q : α → Prop} (ht : P.underlying t = some (.struct fs)) (h : OpensF P fs.toList 0 K Q) (hc : P.cellsOf t = K.sz) (g : β → α) (g' : α → β) (hg : ∀ y, g (g' y) = y) : Opens P t (Kd.iso K g) (fun x => Q (g x)) := by
 constructor
 intro H enc W base sp held fuel cs x hw hm
 cases fuel with
 | zero => simp [DataW.trod] at hm
 | succ n =>
  unfold DataW.trod at hm
  rw [ht] at hm
  simp only at hm
  split at hm
  ·rename_i hl
   obtain ⟨xs, hxs, rfl⟩ := Option.map_eq_some_iff.mp hm
   obtain ⟨y, hy, hq⟩ := h.out (cs := cs) (xs := xs) (by rw [hl, hc]; omega) (fun n hn => hw n (by simp only [DataW.weights, ht]; exact hn)) hxs
   exact ⟨g' y, by show K.K W (g (g' y)) cs; rw [hg]; simpa using hy, by show Q (g (g' y)); rw [hg]; exact hq⟩
  ·cases hm
theorem opens_array2 {α β : Type} {t e : TypeId} {K : Kd α} {Q : α → Prop} {k : Kd β} {WF : β → Prop} (mk : α → α → β) (g : β → α × α) (he : Opens P e K Q) (ht : P.underlying t = some (.array 2 e)) (hsz : K.sz = 1) (hce : P.cellsOf e = 1) (hct : P.cellsOf t = 2) (hk : k = Kd.iso (Kd.pair K K) g) (hg : ∀ x y, g (mk x y) = (x, y)) (hQ : ∀ x y, Q x → Q y → WF (mk x y)) : Opens P t k WF := by
 subst hk
 constructor
 intro H enc W base sp held fuel cs x hw hm
 obtain ⟨xs, m, rfl, rfl, hl, hn, hi⟩ := DataW.trod_array ht hm
 rw [hct] at hl
 have hwx : ∀ d, d ∈ xs.map (·.1) → ∀ n ∈ d.weights P e, n ≤ reachBytes := fun d hd n hn => hw n (by simp only [DataW.weights, ht]; exact weights_all hd n hn)
 obtain ⟨d0, d1, rfl⟩ : ∃ d0 d1, xs = [d0, d1] := by
  match xs, hn with
  | [a, b], _ => exact ⟨a, b, rfl⟩
 obtain ⟨c0, c1, rfl⟩ : ∃ c0 c1, cs = [c0, c1] := by
  match cs, hl with
  | [a, b], _ => exact ⟨a, b, rfl⟩
 have h0 := hi 0 (by omega)
 have h1 := hi 1 (by omega)
 rw [hce] at h0 h1
 obtain ⟨y0, hy0, q0⟩ := he.out (hwx d0.1 (by simp)) (show _ = some d0 from h0)
 obtain ⟨y1, hy1, q1⟩ := he.out (hwx d1.1 (by simp)) (show _ = some d1 from h1)
 refine ⟨mk y0 y1, ?_, hQ _ _ q0 q1⟩
 show (Kd.pair K K).K W (g (mk y0 y1)) [c0, c1]
 rw [hg]
 exact ⟨[c0], [c1], rfl, hy0, hy1⟩
theorem opens_struct' {α β : Type} {t : TypeId} {fs : Array Field} {K : Kd α} {Q : α → Prop} {k : Kd β} {WF : β → Prop} (g' : α → β) (g : β → α) (ht : P.underlying t = some (.struct fs)) (h : OpensF P fs.toList 0 K Q) (hc : P.cellsOf t = K.sz) (hk : k = Kd.iso K g) (hg : ∀ y, g (g' y) = y) (hQ : ∀ x, Q (g x) → WF x) : Opens P t k WF := by
 subst hk
 constructor
 intro H enc W base sp held fuel cs x hw hm
 obtain ⟨y, h1, h2⟩ := (opens_struct ht h hc g g' hg).out hw hm
 exact ⟨y, h1, hQ y h2⟩
end
end Go.Proofs.Ytclhjalgflebfaa.Q

namespace Go.Proofs.Ytclhjalgflebfaa.Q
open Go.RowKit Go.Proofs.YtclhjalgflebfaaW.PrintWords Go.Proofs.YtclhjalgflebfaaW.PrintLast Go.Proofs.YtclhjalgflebfaaW.PrintMore
set_option linter.unusedVariables false
set_option linter.unusedSimpArgs false

def WF58 (x : S58) : Prop := ((fun n : Int => (Lit.int .i64 n).wf = true) x.f0) ∧ ((fun s : ByteArray => s.size ≤ 140737488351232) x.f1) ∧ ((fun l : List Int => l.length * 8 ≤ 140737488351232 ∧ ∀ x ∈ l, (fun n : Int => (Lit.int .i64 n).wf = true) x) x.f2) ∧ ((fun n : Int => (Lit.int .i64 n).wf = true) x.f3) ∧ ((fun s : ByteArray => s.size ≤ 140737488351232) x.f4)
theorem opens58 : Opens Try.prog 58 k58 WF58 :=
 opens_struct' (fun p : (Int) × (ByteArray) × (List Int) × (Int) × (ByteArray) => (⟨p.1, p.2.1, p.2.2.1, p.2.2.2.1, p.2.2.2.2⟩ : S58)) (fun x : S58 => (x.f0, x.f1, x.f2, x.f3, x.f4)) Try.underlying58 (opensF_cons (opens_int Try.underlying3) rfl (by kernel_rfl) rfl (opensF_cons (opens_string Try.underlying9) rfl (by kernel_rfl) rfl (opensF_cons (opens_slice (opens_int Try.underlying3) Try.underlying34 (by kernel_rfl) 8 (by kernel_rfl)) rfl (by kernel_rfl) rfl (opensF_cons (opens_int Try.underlying3) rfl (by kernel_rfl) rfl (opensF_last (opens_string Try.underlying9) rfl (by kernel_rfl) rfl))))) (by kernel_rfl) rfl (fun _ => rfl) (fun _ h => h)
def WF38 (x : S38) : Prop := ((fun n : Int => (Lit.int .i64 n).wf = true) x.f0) ∧ ((fun n : Int => (Lit.int .i64 n).wf = true) x.f1)
theorem opens38 : Opens Try.prog 38 k38 WF38 :=
 opens_array2 (fun x y => (⟨x, y⟩ : S38)) (fun x : S38 => (x.f0, x.f1)) (opens_int Try.underlying3) Try.underlying38 rfl (by kernel_rfl) (by kernel_rfl) rfl (fun _ _ => rfl) (fun _ _ hx hy => ⟨hx, hy⟩)
def WF40 (x : S40) : Prop := ((fun l : List Int => l.length * 8 ≤ 140737488351232 ∧ ∀ x ∈ l, (fun n : Int => (Lit.int .i64 n).wf = true) x) x.f0) ∧ ((fun n : Int => (Lit.int .i64 n).wf = true) x.f1) ∧ ((fun n : Int => (Lit.int .i64 n).wf = true) x.f2) ∧ (WF38 x.f3)
theorem opens40 : Opens Try.prog 40 k40 WF40 :=
 opens_struct' (fun p : (List Int) × (Int) × (Int) × (S38) => (⟨p.1, p.2.1, p.2.2.1, p.2.2.2⟩ : S40)) (fun x : S40 => (x.f0, x.f1, x.f2, x.f3)) Try.underlying40 (opensF_cons (opens_slice (opens_int Try.underlying3) Try.underlying34 (by kernel_rfl) 8 (by kernel_rfl)) rfl (by kernel_rfl) rfl (opensF_cons (opens_int Try.underlying3) rfl (by kernel_rfl) rfl (opensF_cons (opens_int Try.underlying3) rfl (by kernel_rfl) rfl (opensF_last opens38 rfl (by kernel_rfl) rfl)))) (by kernel_rfl) rfl (fun _ => rfl) (fun _ h => h)
def WF26 (x : S26) : Prop := ((fun s : ByteArray => s.size ≤ 140737488351232) x.f0) ∧ ((fun l : List ByteArray => l.length * 16 ≤ 140737488351232 ∧ ∀ x ∈ l, (fun s : ByteArray => s.size ≤ 140737488351232) x) x.f1) ∧ ((fun s : ByteArray => s.size ≤ 140737488351232) x.f2) ∧ ((fun l : List ByteArray => l.length * 16 ≤ 140737488351232 ∧ ∀ x ∈ l, (fun s : ByteArray => s.size ≤ 140737488351232) x) x.f3) ∧ ((fun l : List (S58) => l.length * 72 ≤ 140737488351232 ∧ ∀ x ∈ l, WF58 x) x.f4) ∧ ((fun l : List (S40) => l.length * 56 ≤ 140737488351232 ∧ ∀ x ∈ l, WF40 x) x.f5)
theorem opens26 : Opens Try.prog 26 k26 WF26 :=
 opens_struct' (fun p : (ByteArray) × (List ByteArray) × (ByteArray) × (List ByteArray) × (List (S58)) × (List (S40)) => (⟨p.1, p.2.1, p.2.2.1, p.2.2.2.1, p.2.2.2.2.1, p.2.2.2.2.2⟩ : S26)) (fun x : S26 => (x.f0, x.f1, x.f2, x.f3, x.f4, x.f5)) Try.underlying26 (opensF_cons (opens_string Try.underlying9) rfl (by kernel_rfl) rfl (opensF_cons (opens_slice (opens_string Try.underlying9) Try.underlying22 (by kernel_rfl) 16 (by kernel_rfl)) rfl (by kernel_rfl) rfl (opensF_cons (opens_string Try.underlying9) rfl (by kernel_rfl) rfl (opensF_cons (opens_slice (opens_string Try.underlying9) Try.underlying22 (by kernel_rfl) 16 (by kernel_rfl)) rfl (by kernel_rfl) rfl (opensF_cons (opens_slice opens58 Try.underlying23 (by kernel_rfl) 72 (by kernel_rfl)) rfl (by kernel_rfl) rfl (opensF_last (opens_slice opens40 Try.underlying24 (by kernel_rfl) 56 (by kernel_rfl)) rfl (by kernel_rfl) rfl)))))) (by kernel_rfl) rfl (fun _ => rfl) (fun _ h => h)
end Go.Proofs.Ytclhjalgflebfaa.Q

namespace Go.Proofs.Ytclhjalgflebfaa.Q
open Go.RowKit Go.Proofs.YtclhjalgflebfaaW.PrintWords Go.Proofs.YtclhjalgflebfaaW.PrintLast Go.Proofs.YtclhjalgflebfaaW.PrintMore
set_option linter.unusedVariables false
set_option linter.unusedSimpArgs false
noncomputable def DomExact.Pure : Prop := ∀ (a0_0 : ByteArray) (l0_1 : List ByteArray) (a0_2 : ByteArray) (l0_3 : List ByteArray) (l0_4 : List (S58)) (l0_5 : List (S40)) (a1 : Int) (a2 : Int), WF26 ⟨a0_0, l0_1, a0_2, l0_3, l0_4, l0_5⟩ → (fun n : Int => (Lit.int .i64 n).wf = true) a1 → (fun n : Int => (Lit.int .i64 n).wf = true) a2 → ∃ k, truantlaw10_DomExact.f k a0_0 l0_1 a0_2 l0_3 l0_4 l0_5 a1 a2 = some true
end Go.Proofs.Ytclhjalgflebfaa.Q

/- Who is on each way: the nearest ones, round by round; told of any graph whose blocks stand in an order in which each has one of those that lead to it ahead. -/

namespace Go.Proofs.Ytclhjalgflebfaa.Q
open Go.RowKit Go.Proofs.YtclhjalgflebfaaW.PrintWords Go.Proofs.YtclhjalgflebfaaW.PrintLast Go.Proofs.YtclhjalgflebfaaW.PrintMore
set_option linter.unusedVariables false
set_option linter.unusedSimpArgs false
/-- at: the place of each that is reached; -1: it isn't. -/
structure Gr (prev : Int → List Int) (at_ : Int → Int) : Prop where
 none : at_ (-1) = -1
 zero : at_ 0 = 0
 inj : ∀ x y, at_ x ≠ -1 → at_ x = at_ y → x = y
 pos : ∀ x, at_ x ≠ -1 → 0 ≤ at_ x
 up : ∀ b, at_ b ≠ -1 → b ≠ 0 → ∃ p ∈ prev b, at_ p ≠ -1 ∧ at_ p < at_ b
 fwd : ∀ b p, p ∈ prev b → at_ p ≠ -1 → at_ b ≠ -1
section
variable {prev : Int → List Int} {at_ nr : Int → Int}
/-- It is come to by a way without y that steps back r times. -/
inductive AvR (prev : Int → List Int) (at_ : Int → Int) (y : Int) : Nat → Int → Prop
 | zero (h : (0 : Int) ≠ y) : AvR prev at_ y 0 0
 | fwd {r : Nat} {p b : Int} (h : AvR prev at_ y r p) (hp : p ∈ prev b) (hb : b ≠ y) (ha : at_ p < at_ b) : AvR prev at_ y r b
 | ret {r : Nat} {p b : Int} (h : AvR prev at_ y r p) (hp : p ∈ prev b) (hb : b ≠ y) (ha : at_ b ≤ at_ p) : AvR prev at_ y (r + 1) b
def Av (prev : Int → List Int) (at_ : Int → Int) (y x : Int) : Prop := ∃ r, AvR prev at_ y r x
/-- d stands on each way to x. -/
def Domi (prev : Int → List Int) (at_ : Int → Int) (d x : Int) : Prop := at_ x ≠ -1 ∧ ¬ Av prev at_ d x
theorem Av.step {y p b : Int} (h : Av prev at_ y p) (hp : p ∈ prev b) (hb : b ≠ y) : Av prev at_ y b := by
 obtain ⟨r, h⟩ := h
 by_cases ha : at_ p < at_ b
 ·exact ⟨r, .fwd h hp hb ha⟩
 ·exact ⟨r + 1, .ret h hp hb (by omega)⟩
theorem AvR.ne {y x : Int} {r : Nat} (h : AvR prev at_ y r x) : x ≠ y := by
 cases h with
 | zero h => exact h
 | fwd _ _ hb _ => exact hb
 | ret _ _ hb _ => exact hb
theorem AvR.reached (g : Gr prev at_) {y x : Int} {r : Nat} (h : AvR prev at_ y r x) : at_ x ≠ -1 := by
 induction h with
 | zero _ => rw [g.zero]; decide
 | fwd _ hp _ _ ih => exact g.fwd _ _ hp ih
 | ret _ hp _ _ ih => exact g.fwd _ _ hp ih
theorem Domi.self {x : Int} (hx : at_ x ≠ -1) : Domi prev at_ x x := ⟨hx, fun ⟨_, h⟩ => h.ne rfl⟩
theorem zero_dom {x : Int} (hx : at_ x ≠ -1) : Domi prev at_ 0 x := ⟨hx, fun ⟨_, h⟩ => by
 have key : ∀ {r : Nat} {z : Int}, AvR prev at_ 0 r z → False := by
  intro r z h
  induction h with
  | zero h => exact h rfl
  | fwd _ _ _ _ ih => exact ih
  | ret _ _ _ _ ih => exact ih
 exact key h⟩
/-- Of those that lead to x, too, if it isn't x itself. -/
theorem Domi.prev_ {d x p : Int} (h : Domi prev at_ d x) (hne : d ≠ x) (hp : p ∈ prev x) (hr : at_ p ≠ -1) : Domi prev at_ d p := ⟨hr, fun k => h.2 (k.step hp (Ne.symm hne))⟩
/-- A way by which places rise. -/
theorem rising (g : Gr prev at_) (d : Int) : ∀ (n : Nat) (x : Int), at_ x ≠ -1 → at_ x ≤ n → at_ x < at_ d → Av prev at_ d x := by
 intro n
 induction n with
 | zero =>
  intro x hx hn hd
  have h0 := g.pos x hx
  have : x = 0 := g.inj x 0 hx (by rw [g.zero]; omega)
  subst this
  exact ⟨0, .zero (fun e => by rw [← e] at hd; omega)⟩
 | succ n ih =>
  intro x hx hn hd
  by_cases h0 : x = 0
  ·subst h0
   exact ⟨0, .zero (fun e => by rw [← e] at hd; omega)⟩
  ·obtain ⟨p, hp, hr, ha⟩ := g.up x hx h0
   exact (ih p hr (by omega) (by omega)).step hp (fun e => by rw [e] at hd; omega)
theorem Domi.le (g : Gr prev at_) {d x : Int} (h : Domi prev at_ d x) : at_ d ≤ at_ x := by
 rcases (show at_ x < at_ d ∨ at_ d ≤ at_ x by omega) with hlt | hge
 ·exact absurd (rising g d (at_ x).toNat x h.1 (by have := g.pos x h.1; omega) hlt) h.2
 ·exact hge
theorem dom_zero (g : Gr prev at_) {d : Int} (hd : at_ d ≠ -1) (h : Domi prev at_ d 0) : d = 0 := by
 have h1 := h.le g
 rw [g.zero] at h1
 exact g.inj d 0 hd (by rw [g.zero]; have := g.pos d hd; omega)
/-! the nearest ones: a tree -/
/-- What is known of the nearest ones: each stands ahead. -/
structure Tr (at_ nr : Int → Int) : Prop where
 zero : nr 0 = 0
 known : ∀ x, nr x ≠ -1 → at_ x ≠ -1
 up : ∀ x, x ≠ 0 → nr x ≠ -1 → at_ (nr x) < at_ x ∧ nr (nr x) ≠ -1
inductive On (nr : Int → Int) (a : Int) : Int → Prop
 | self : On nr a a
 | up {x : Int} (h0 : x ≠ 0) (h : On nr a (nr x)) : On nr a x
theorem On.trans {a b x : Int} (h : On nr a b) (k : On nr b x) : On nr a x := by
 induction k with
 | self => exact h
 | up h0 _ ih => exact .up h0 ih
theorem On.le (t : Tr at_ nr) {a x : Int} (h : On nr a x) : nr x ≠ -1 → at_ a ≤ at_ x ∧ nr a ≠ -1 := by
 induction h with
 | self => exact fun h => ⟨Int.le_refl _, h⟩
 | up h0 _ ih =>
  intro hx
  have h1 := t.up _ h0 hx
  have h2 := ih h1.2
  exact ⟨by omega, h2.2⟩
theorem On.next {a x : Int} (h : On nr a x) (hne : a ≠ x) : x ≠ 0 ∧ On nr a (nr x) := by
 cases h with
 | self => exact absurd rfl hne
 | up h0 h => exact ⟨h0, h⟩
/-- Whoever is on each way stands among the nearest ones upwards. -/
def Jn (prev : Int → List Int) (at_ nr : Int → Int) : Prop := ∀ x, x ≠ 0 → nr x ≠ -1 → ∀ d, at_ d ≠ -1 → Domi prev at_ d x → d ≠ x → Domi prev at_ d (nr x)
theorem Jn.on (g : Gr prev at_) (t : Tr at_ nr) (j : Jn prev at_ nr) (d : Int) (hd : at_ d ≠ -1) : ∀ (n : Nat) (x : Int), at_ x ≤ n → nr x ≠ -1 → Domi prev at_ d x → On nr d x := by
 intro n
 induction n with
 | zero =>
  intro x hn hx h
  by_cases hz : x = 0
  ·subst hz
   rw [dom_zero g hd h]; exact .self
  ·have h1 := t.up x hz hx
   have := g.pos (nr x) (t.known _ h1.2)
   omega
 | succ n ih =>
  intro x hn hx h
  by_cases hz : x = 0
  ·subst hz
   rw [dom_zero g hd h]; exact .self
  ·by_cases he : d = x
   ·subst he; exact .self
   ·have h1 := t.up x hz hx
    exact .up hz (ih (nr x) (by omega) h1.2 (j x hz hx d hd h he))
/-- Once the nearest one of c is another. -/
def putI (nr : Int → Int) (c m : Int) : Int → Int := fun x => if x = c then m else nr x
theorem put_same (nr : Int → Int) (c m : Int) : putI nr c m c = m := if_pos rfl
theorem put_other (nr : Int → Int) {c m x : Int} (h : x ≠ c) : putI nr c m x = nr x := if_neg h
/-- Above those that stand ahead of c nothing changes. -/
theorem On.put (t : Tr at_ nr) {c m a x : Int} (h : On nr a x) : nr x ≠ -1 → at_ x < at_ c → On (putI nr c m) a x := by
 induction h with
 | self => exact fun _ _ => .self
 | @up x h0 h ih =>
  intro hx hc
  have h1 := t.up x h0 hx
  refine .up h0 ?_
  rw [put_other nr (fun e => by rw [e] at hc; omega)]
  exact ih h1.2 (by omega)
theorem On.unput (t : Tr at_ nr) {c m a x : Int} (h : On (putI nr c m) a x) : nr x ≠ -1 → at_ x < at_ c → On nr a x := by
 induction h with
 | self => exact fun _ _ => .self
 | @up x h0 h ih =>
  intro hx hc
  have h1 := t.up x h0 hx
  rw [put_other nr (fun e => by rw [e] at hc; omega)] at ih
  exact .up h0 (ih h1.2 (by omega))
theorem On.part {c m a x : Int} (h : On (putI nr c m) a x) : On nr c x → On nr a x ∨ On (putI nr c m) a c := by
 induction h with
 | self => exact fun _ => .inl .self
 | @up x h0 h ih =>
  intro hc
  by_cases e : x = c
  ·subst e
   exact .inr (.up h0 h)
  ·rw [put_other nr e] at ih
   rcases ih (hc.next (Ne.symm e)).2 with k | k
   ·exact .inl (.up h0 k)
   ·exact .inr k
theorem On.whole {c m a x : Int} (h : On (putI nr c m) a x) : ¬ On nr c x → On nr a x := by
 induction h with
 | self => exact fun _ => .self
 | @up x h0 h ih =>
  intro hc
  have e : x ≠ c := fun e => hc (by subst e; exact .self)
  rw [put_other nr e] at ih
  exact .up h0 (ih (fun k => hc (.up h0 k)))
/-- A way to x passes c, or it is a way without c. -/
theorem AvR.passes {y c x : Int} {q : Nat} (h : AvR prev at_ y q x) : (∃ q', q' ≤ q ∧ AvR prev at_ y q' c) ∨ AvR prev at_ c q x := by
 induction h with
 | zero h =>
  by_cases e : (0 : Int) = c
  ·subst e; exact .inl ⟨0, Nat.le_refl _, .zero h⟩
  ·exact .inr (.zero e)
 | @fwd r p b h hp hb ha ih =>
  by_cases e : b = c
  ·subst e; exact .inl ⟨r, Nat.le_refl _, .fwd h hp hb ha⟩
  ·rcases ih with ⟨q', h1, h2⟩ | k
   ·exact .inl ⟨q', h1, h2⟩
   ·exact .inr (.fwd k hp e ha)
 | @ret r p b h hp hb ha ih =>
  by_cases e : b = c
  ·subst e; exact .inl ⟨r + 1, Nat.le_refl _, .ret h hp hb ha⟩
  ·rcases ih with ⟨q', h1, h2⟩ | k
   ·exact .inl ⟨q', by omega, h2⟩
   ·exact .inr (.ret k hp e ha)
/-- Behind r rounds, and the blocks up to place i of the next one, it is told of x that y isn't on each way. -/
def Est (prev : Int → List Int) (at_ : Int → Int) (r : Nat) (i : Int) (y x : Int) : Prop := ∃ q, AvR prev at_ y q x ∧ (q + 1 ≤ r ∨ (q ≤ r ∧ at_ x ≤ i))
def Sn (prev : Int → List Int) (at_ nr : Int → Int) (r : Nat) (i : Int) : Prop := ∀ y x, nr x ≠ -1 → Est prev at_ r i y x → ¬ On nr y x
/-- What is told of a block's nearest one, by those that lead to it. -/
structure Found (prev : Int → List Int) (at_ nr : Int → Int) (c m : Int) : Prop where
 known : nr m ≠ -1
 on : ∀ p ∈ prev c, at_ p ≠ -1 → nr p ≠ -1 → On nr m p
 dom : ∀ d, at_ d ≠ -1 → (∀ p ∈ prev c, at_ p ≠ -1 → Domi prev at_ d p) → Domi prev at_ d m
/-- One block's step keeps all three. -/
theorem step_keeps (g : Gr prev at_) (t : Tr at_ nr) (j : Jn prev at_ nr) {r : Nat} {i : Int} (s : Sn prev at_ nr r i) {c m : Int} (hc0 : c ≠ 0) (hcr : at_ c ≠ -1) (hci : at_ c = i + 1)
  (hk : ∀ x, at_ x ≠ -1 → (at_ x ≤ i ∨ 1 ≤ r) → nr x ≠ -1) (f : Found prev at_ nr c m) :
  Tr at_ (putI nr c m) ∧ Jn prev at_ (putI nr c m) ∧ Sn prev at_ (putI nr c m) r (i + 1) ∧ (∀ x, at_ x ≠ -1 → (at_ x ≤ i + 1 ∨ 1 ≤ r) → putI nr c m x ≠ -1) := by
 have hmr := t.known _ f.known
 have hm1 : m ≠ -1 := fun e => hmr (by rw [e]; exact g.none)
 obtain ⟨p0, hp0, hr0, ha0⟩ := g.up c hcr hc0
 have hm0 := ((f.on p0 hp0 hr0 (hk p0 hr0 (.inl (by omega)))).le t (hk p0 hr0 (.inl (by omega)))).1
 have hmc : at_ m < at_ c := by omega
 have hne : m ≠ c := fun e => by rw [e] at hmc; omega
 have hC : ∀ y, Est prev at_ r (i + 1) y c → ¬ On (putI nr c m) y c := by
  rintro y ⟨q, hq, hcond⟩ hon
  have hyc := hq.ne
  have h1 := (hon.next (Ne.symm hyc)).2
  rw [put_same] at h1
  have h2 := h1.unput t f.known hmc
  cases hq with
  | zero _ => exact hc0 rfl
  | @fwd _ p _ h hp hb ha =>
   have hpr := h.reached g
   have hpk := hk p hpr (.inl (by omega))
   exact s y p hpk ⟨q, h, .inr ⟨by omega, by omega⟩⟩ (h2.trans (f.on p hp hpr hpk))
  | @ret q' p _ h hp hb ha =>
   have hpr := h.reached g
   have hpk := hk p hpr (.inr (by omega))
   exact s y p hpk ⟨q', h, .inl (by omega)⟩ (h2.trans (f.on p hp hpr hpk))
 refine ⟨⟨?_, ?_, ?_⟩, ?_, ?_, ?_⟩
 ·rw [put_other nr (Ne.symm hc0)]; exact t.zero
 ·intro x hx
  by_cases e : x = c
  ·rw [e]; exact hcr
  ·rw [put_other nr e] at hx; exact t.known x hx
 ·intro x hx0 hx
  by_cases e : x = c
  ·subst e
   rw [put_same, put_other nr hne]
   exact ⟨hmc, f.known⟩
  ·rw [put_other nr e] at hx ⊢
   have h1 := t.up x hx0 hx
   refine ⟨h1.1, ?_⟩
   by_cases e2 : nr x = c
   ·rw [e2, put_same]; exact hm1
   ·rw [put_other nr e2]; exact h1.2
 ·intro x hx0 hx d hd hdom hdx
  by_cases e : x = c
  ·subst e
   rw [put_same]
   exact f.dom d hd (fun p hp hr => hdom.prev_ hdx hp hr)
  ·rw [put_other nr e] at hx ⊢
   exact j x hx0 hx d hd hdom hdx
 ·intro y x hx he hon
  by_cases e : x = c
  ·subst e; exact hC y he hon
  ·rw [put_other nr e] at hx
   obtain ⟨q, hq, hcond⟩ := he
   have hax : at_ x ≠ i + 1 := fun e2 => e (g.inj x c (hq.reached g) (by rw [e2, hci]))
   have hcond2 : q + 1 ≤ r ∨ (q ≤ r ∧ at_ x ≤ i) := by omega
   have hs := s y x hx ⟨q, hq, hcond2⟩
   by_cases hcx : On nr c x
   ·rcases hq.passes (c := c) with ⟨q', hle, h'⟩ | k
    ·rcases hon.part hcx with k | k
     ·exact hs k
     ·exact hC y ⟨q', h', by omega⟩ k
    ·exact s c x hx ⟨q, k, hcond2⟩ hcx
   ·exact hs (hon.whole hcx)
 ·intro x hxr hx
  by_cases e : x = c
  ·rw [e, put_same]; exact hm1
  ·rw [put_other nr e]
   have hax : at_ x ≠ i + 1 := fun e2 => e (g.inj x c hxr (by rw [e2, hci]))
   exact hk x hxr (by omega)
/-- Behind enough rounds the nearest ones are those that stand on each way. -/
theorem on_iff (g : Gr prev at_) (t : Tr at_ nr) (j : Jn prev at_ nr) {r : Nat} {i : Int} (s : Sn prev at_ nr r i) (hall : ∀ y x, Av prev at_ y x → Est prev at_ r i y x) {d x : Int} (hd : at_ d ≠ -1) (hx : nr x ≠ -1) : On nr d x ↔ Domi prev at_ d x := by
 constructor
 ·intro h
  refine ⟨t.known x hx, fun k => ?_⟩
  exact s d x hx (hall d x k) h
 ·intro h
  exact j.on g t d hd (at_ x).toNat x (by have := g.pos x h.1; omega) hx h
/-- Two trees that tell the same tell the same nearest ones. -/
theorem nearest_same (g : Gr prev at_) {nr' : Int → Int} (t : Tr at_ nr) (t' : Tr at_ nr') {x : Int} (hx0 : x ≠ 0) (hx : nr x ≠ -1) (hx' : nr' x ≠ -1) (h : ∀ d, at_ d ≠ -1 → (On nr d x ↔ On nr' d x)) : nr x = nr' x := by
 have h1 := t.up x hx0 hx
 have h1' := t'.up x hx0 hx'
 have r1 := t.known _ h1.2
 have r1' := t'.known _ h1'.2
 have a1 : On nr (nr x) x := .up hx0 .self
 have a1' : On nr' (nr' x) x := .up hx0 .self
 have b1 := (((h _ r1).mp a1).next (fun e => by rw [e] at h1; omega)).2.le t' h1'.2
 have b2 := (((h _ r1').mpr a1').next (fun e => by rw [e] at h1'; omega)).2.le t h1.2
 exact g.inj _ _ r1 (by omega)
end
end Go.Proofs.Ytclhjalgflebfaa.Q

/- meet, and what is found of a block by those that lead to it; told of the rows. -/

namespace Go.Proofs.Ytclhjalgflebfaa.Q
open Go.RowKit Go.Proofs.YtclhjalgflebfaaW.PrintWords Go.Proofs.YtclhjalgflebfaaW.PrintLast Go.Proofs.YtclhjalgflebfaaW.PrintMore
set_option linter.unusedVariables false
set_option linter.unusedSimpArgs false
def fnI (n : Nat) (l : List Int) (x : Int) : Int := if 0 ≤ x ∧ x < (n : Int) then rd l x else -1
theorem fnI_in {n : Nat} {l : List Int} {x : Int} (h : fnI n l x ≠ -1) : 0 ≤ x ∧ x < (n : Int) := by
 unfold fnI at h
 split at h
 ·assumption
 ·exact absurd rfl h
theorem fnI_rd {n : Nat} {l : List Int} {x : Int} (h0 : 0 ≤ x) (h1 : x < (n : Int)) : fnI n l x = rd l x := if_pos ⟨h0, h1⟩
section
variable {prev : Int → List Int} {n : Nat} {at_ nr : List Int}
theorem up_spec (g : Gr prev (fnI n at_)) (t : Tr (fnI n at_) (fnI n nr)) (j : Jn prev (fnI n at_) (fnI n nr)) (ha : at_.length = n) (hn : nr.length = n) (lim : Int) (hl : 0 ≤ lim) :
  ∀ (k : Nat) (a : Int), fnI n nr a ≠ -1 → fnI n at_ a < k → ∃ a', upO at_ nr k lim a = some a' ∧ On (fnI n nr) a' a ∧ fnI n nr a' ≠ -1 ∧ fnI n at_ a' ≤ lim ∧ (fnI n at_ a ≤ lim → a' = a) ∧ (∀ d, fnI n at_ d ≠ -1 → Domi prev (fnI n at_) d a → fnI n at_ d ≤ lim → Domi prev (fnI n at_) d a') := by
 intro k
 induction k with
 | zero =>
  intro a hk hlt
  have := g.pos a (t.known a hk)
  omega
 | succ k ih =>
  intro a hk hlt
  obtain ⟨h0, h1⟩ := fnI_in hk
  have e1 : rd at_ a = fnI n at_ a := (fnI_rd h0 h1).symm
  have e2 : rd nr a = fnI n nr a := (fnI_rd h0 h1).symm
  rw [upO, if_pos ⟨h0, by rw [ha]; exact h1⟩, e1]
  by_cases hgt : lim < fnI n at_ a
  ·have hz : a ≠ 0 := fun e => by rw [e, g.zero] at hgt; omega
   have h2 := t.up a hz hk
   rw [if_pos hgt, if_pos (by rw [hn]; exact h1), e2]
   obtain ⟨a', q1, q2, q3, q4, _, q6⟩ := ih (fnI n nr a) h2.2 (by omega)
   refine ⟨a', q1, .up hz q2, q3, q4, fun h => by omega, fun d hd hdom hdl => q6 d hd ?_ hdl⟩
   exact j a hz hk d hd hdom (fun e => by rw [e] at hdl; omega)
  ·rw [if_neg hgt]
   exact ⟨a, rfl, .self, hk, by omega, fun _ => rfl, fun d _ h _ => h⟩
theorem meet_spec (g : Gr prev (fnI n at_)) (t : Tr (fnI n at_) (fnI n nr)) (j : Jn prev (fnI n at_) (fnI n nr)) (ha : at_.length = n) (hn : nr.length = n) :
  ∀ (k : Nat) (a b : Int), fnI n nr a ≠ -1 → fnI n nr b ≠ -1 → fnI n at_ a + fnI n at_ b + 2 ≤ k → ∃ m, meetO at_ nr k a b = some m ∧ On (fnI n nr) m a ∧ On (fnI n nr) m b ∧ fnI n nr m ≠ -1 ∧ (∀ d, fnI n at_ d ≠ -1 → Domi prev (fnI n at_) d a → Domi prev (fnI n at_) d b → Domi prev (fnI n at_) d m) := by
 intro k
 induction k with
 | zero =>
  intro a b hka hkb hk
  have h1 := g.pos a (t.known a hka)
  have h2 := g.pos b (t.known b hkb)
  omega
 | succ k ih =>
  intro a b hka hkb hk
  have h1 := g.pos a (t.known a hka)
  have h2 := g.pos b (t.known b hkb)
  rw [meetO]
  by_cases hab : a = b
  ·rw [if_pos hab]
   subst hab
   exact ⟨a, rfl, .self, .self, hka, fun d _ h _ => h⟩
  ·rw [if_neg hab]
   obtain ⟨hb0, hb1⟩ := fnI_in hkb
   have e1 : rd at_ b = fnI n at_ b := (fnI_rd hb0 hb1).symm
   rw [if_pos ⟨hb0, by rw [ha]; exact hb1⟩, e1]
   obtain ⟨a', p1, p2, p3, p4, p5, p6⟩ := up_spec g t j ha hn (fnI n at_ b) h2 k a hka (by omega)
   obtain ⟨ha0, ha1⟩ := fnI_in p3
   have e2 : rd at_ a' = fnI n at_ a' := (fnI_rd ha0 ha1).symm
   have h3 := g.pos a' (t.known a' p3)
   obtain ⟨b', q1, q2, q3, q4, q5, q6⟩ := up_spec g t j ha hn (fnI n at_ a') h3 k b hkb (by omega)
   have h4 := g.pos b' (t.known b' q3)
   have hle := (p2.le t hka).1
   have hne : fnI n at_ a ≠ fnI n at_ b := fun e => hab (g.inj a b (t.known a hka) e)
   have hlt : fnI n at_ a' + fnI n at_ b' < fnI n at_ a + fnI n at_ b := by omega
   obtain ⟨m, r1, r2, r3, r4, r5⟩ := ih a' b' p3 q3 (by omega)
   refine ⟨m, ?_, r2.trans p2, r3.trans q2, r4, fun d hd da db => ?_⟩
   ·rw [p1, Option.bind_some, if_pos ⟨ha0, by rw [ha]; exact ha1⟩, e2, q1, Option.bind_some]
    exact r1
   ·have da' := p6 d hd da (db.le g)
    exact r5 d hd da' (q6 d hd db (da'.le g))
/-- The fold over those that lead to a block. -/
theorem fold_spec (g : Gr prev (fnI n at_)) (t : Tr (fnI n at_) (fnI n nr)) (j : Jn prev (fnI n at_) (fnI n nr)) (ha : at_.length = n) (hn : nr.length = n) (K : Nat) (hK : ∀ x, fnI n at_ x ≠ -1 → fnI n at_ x < n) (hK2 : 2 * n + 2 ≤ K) :
  ∀ (ps : List Int) (nx : Int), (∀ p ∈ ps, 0 ≤ p ∧ p < (n : Int)) → (nx = -1 ∨ fnI n nr nx ≠ -1) → ∃ m, ps.foldlM (predO at_ nr K) nx = some m ∧ (m = -1 → nx = -1 ∧ ∀ p ∈ ps, fnI n at_ p ≠ -1 → fnI n nr p = -1) ∧
   (m ≠ -1 → fnI n nr m ≠ -1 ∧ (nx ≠ -1 → On (fnI n nr) m nx) ∧ (∀ p ∈ ps, fnI n at_ p ≠ -1 → fnI n nr p ≠ -1 → On (fnI n nr) m p) ∧ (∀ d, fnI n at_ d ≠ -1 → (nx ≠ -1 → Domi prev (fnI n at_) d nx) → (∀ p ∈ ps, fnI n at_ p ≠ -1 → Domi prev (fnI n at_) d p) → Domi prev (fnI n at_) d m)) := by
 intro ps
 induction ps with
 | nil =>
  intro nx _ hnx
  refine ⟨nx, rfl, (fun h => ⟨h, (fun p hp => by cases hp)⟩), fun h => ⟨hnx.resolve_left h, fun _ => .self, (fun p hp => by cases hp), fun d _ h1 _ => h1 h⟩⟩
 | cons p ps ih =>
  intro nx hps hnx
  obtain ⟨hp0, hp1⟩ := hps p List.mem_cons_self
  have hps' : ∀ q ∈ ps, 0 ≤ q ∧ q < (n : Int) := fun q hq => hps q (List.mem_cons_of_mem _ hq)
  have e1 : rd at_ p = fnI n at_ p := (fnI_rd hp0 hp1).symm
  have e2 : rd nr p = fnI n nr p := (fnI_rd hp0 hp1).symm
  have hstep : predO at_ nr K nx p = if fnI n at_ p = -1 then some nx else if fnI n nr p = -1 then some nx else if nx = -1 then some p else meetO at_ nr K nx p := by
   unfold predO
   rw [if_pos ⟨hp0, by rw [ha]; exact hp1⟩, e1, e2]
   by_cases h1 : fnI n at_ p = -1
   ·rw [if_pos h1, if_pos h1]
   ·rw [if_neg h1, if_neg h1, if_pos (by rw [hn]; exact hp1)]
  rw [List.foldlM_cons, hstep]
  by_cases h1 : fnI n at_ p = -1
  ·rw [if_pos h1]
   obtain ⟨m, q1, q2, q3⟩ := ih nx hps' hnx
   refine ⟨m, q1, fun h => ⟨(q2 h).1, fun q hq hr => ?_⟩, fun h => ⟨(q3 h).1, (q3 h).2.1, fun q hq hr hk => ?_, fun d hd h2 h3 => (q3 h).2.2.2 d hd h2 (fun q hq hr => h3 q (List.mem_cons_of_mem _ hq) hr)⟩⟩
   ·rcases List.mem_cons.mp hq with rfl | hq
    ·exact absurd h1 hr
    ·exact (q2 h).2 q hq hr
   ·rcases List.mem_cons.mp hq with rfl | hq
    ·exact absurd h1 hr
    ·exact (q3 h).2.2.1 q hq hr hk
  ·rw [if_neg h1]
   by_cases h2 : fnI n nr p = -1
   ·rw [if_pos h2]
    obtain ⟨m, q1, q2, q3⟩ := ih nx hps' hnx
    refine ⟨m, q1, fun h => ⟨(q2 h).1, fun q hq hr => ?_⟩, fun h => ⟨(q3 h).1, (q3 h).2.1, fun q hq hr hk => ?_, fun d hd h2 h3 => (q3 h).2.2.2 d hd h2 (fun q hq hr => h3 q (List.mem_cons_of_mem _ hq) hr)⟩⟩
    ·rcases List.mem_cons.mp hq with rfl | hq
     ·exact h2
     ·exact (q2 h).2 q hq hr
    ·rcases List.mem_cons.mp hq with rfl | hq
     ·exact absurd h2 hk
     ·exact (q3 h).2.2.1 q hq hr hk
   ·rw [if_neg h2]
    -- the new one, known: on the way up from p, and from nx
    have key : ∀ z, fnI n nr z ≠ -1 → On (fnI n nr) z p → (nx ≠ -1 → On (fnI n nr) z nx) → (∀ d, fnI n at_ d ≠ -1 → (nx ≠ -1 → Domi prev (fnI n at_) d nx) → Domi prev (fnI n at_) d p → Domi prev (fnI n at_) d z) →
      ∃ m, ps.foldlM (predO at_ nr K) z = some m ∧ (m = -1 → nx = -1 ∧ ∀ q ∈ p :: ps, fnI n at_ q ≠ -1 → fnI n nr q = -1) ∧
      (m ≠ -1 → fnI n nr m ≠ -1 ∧ (nx ≠ -1 → On (fnI n nr) m nx) ∧ (∀ q ∈ p :: ps, fnI n at_ q ≠ -1 → fnI n nr q ≠ -1 → On (fnI n nr) m q) ∧ (∀ d, fnI n at_ d ≠ -1 → (nx ≠ -1 → Domi prev (fnI n at_) d nx) → (∀ q ∈ p :: ps, fnI n at_ q ≠ -1 → Domi prev (fnI n at_) d q) → Domi prev (fnI n at_) d m)) := by
     intro z hz hzp hzn hzd
     have hz1 : z ≠ -1 := fun e => by
      have := (fnI_in hz).1
      omega
     obtain ⟨m, q1, q2, q3⟩ := ih z hps' (.inr hz)
     refine ⟨m, q1, fun h => absurd (q2 h).1 hz1, fun h => ⟨(q3 h).1, fun hx => ((q3 h).2.1 hz1).trans (hzn hx), fun q hq hr hk => ?_, fun d hd h3 h4 => ?_⟩⟩
     ·rcases List.mem_cons.mp hq with rfl | hq
      ·exact ((q3 h).2.1 hz1).trans hzp
      ·exact (q3 h).2.2.1 q hq hr hk
     ·exact (q3 h).2.2.2 d hd (fun _ => hzd d hd h3 (h4 p List.mem_cons_self h1)) (fun q hq hr => h4 q (List.mem_cons_of_mem _ hq) hr)
    by_cases h3 : nx = -1
    ·rw [if_pos h3]
     exact key p h2 .self (fun h => absurd h3 h) (fun d _ _ h => h)
    ·rw [if_neg h3]
     have hnk := hnx.resolve_left h3
     have b1 := hK nx (t.known nx hnk)
     have b2 := hK p h1
     obtain ⟨z, r1, r2, r3, r4, r5⟩ := meet_spec g t j ha hn K nx p hnk h2 (by omega)
     rw [r1]
     exact key z r4 r3 (fun _ => r2) (fun d hd h4 h5 => r5 d hd (h4 h3) h5)
end
end Go.Proofs.Ytclhjalgflebfaa.Q

/- Rounds: the nearest ones come to stand still, and are those that stand on each way. -/

namespace Go.Proofs.Ytclhjalgflebfaa.Q
open Go.RowKit Go.Proofs.YtclhjalgflebfaaW.PrintWords Go.Proofs.YtclhjalgflebfaaW.PrintLast Go.Proofs.YtclhjalgflebfaaW.PrintMore
set_option linter.unusedVariables false
set_option linter.unusedSimpArgs false
/-- Those that lead to a block. -/
def prevI (n : Nat) (h : List (List Int)) (b : Int) : List Int := if 0 ≤ b ∧ b < (n : Int) then rowOf h b else []
theorem prevI_in {n : Nat} {h : List (List Int)} {b : Int} (h0 : 0 ≤ b) (h1 : b < (n : Int)) : prevI n h b = rowOf h b := if_pos ⟨h0, h1⟩
structure Ord (n : Nat) (o at_ : List Int) (h : List (List Int)) : Prop where
 len : at_.length = n
 hlen : h.length = n
 gr : Gr (prevI n h) (fnI n at_)
 at_o : ∀ (i : Nat) (hi : i < o.length), fnI n at_ o[i] = i
 all : ∀ x, fnI n at_ x ≠ -1 → fnI n at_ x < o.length
 lt : ∀ x, fnI n at_ x ≠ -1 → fnI n at_ x < n
 rows : ∀ b, ∀ p ∈ prevI n h b, 0 ≤ p ∧ p < (n : Int)
 pos : 1 ≤ o.length
theorem fn_set {n : Nat} {nr : List Int} (hn : nr.length = n) {c m : Int} (h0 : 0 ≤ c) (h1 : c < (n : Int)) : fnI n (nr.set c.toNat m) = putI (fnI n nr) c m := by
 funext x
 unfold fnI putI
 dsimp only
 by_cases e : x = c
 ·subst e
  rw [if_pos ⟨h0, h1⟩, if_pos rfl]
  unfold rd
  rw [getD_at _ _ (by rw [List.length_set]; omega), List.getElem_set_self]
 ·rw [if_neg e]
  by_cases hx : 0 ≤ x ∧ x < (n : Int)
  ·rw [if_pos hx, if_pos hx]
   unfold rd
   rw [getD_at _ _ (by rw [List.length_set]; omega), getD_at _ _ (by omega), List.getElem_set_ne (by omega)]
  ·rw [if_neg hx, if_neg hx]
section
variable {n : Nat} {o at_ : List Int} {h : List (List Int)}
/-- All that is kept, behind r rounds and the blocks up to place i. -/
structure Inv (h : List (List Int)) (n : Nat) (at_ : List Int) (r : Nat) (i : Int) (nr : List Int) : Prop where
 len : nr.length = n
 tr : Tr (fnI n at_) (fnI n nr)
 jn : Jn (prevI n h) (fnI n at_) (fnI n nr)
 sn : Sn (prevI n h) (fnI n at_) (fnI n nr) r i
 known : ∀ x, fnI n at_ x ≠ -1 → (fnI n at_ x ≤ i ∨ 1 ≤ r) → fnI n nr x ≠ -1
/-- Whether r rounds are enough. -/
def Enough (h : List (List Int)) (n : Nat) (at_ : List Int) (r : Nat) : Prop := ∀ y x, Av (prevI n h) (fnI n at_) y x → ∃ q, AvR (prevI n h) (fnI n at_) y q x ∧ q + 1 ≤ r
theorem one_step (od : Ord n o at_ h) (K : Nat) (hK : 2 * n + 2 ≤ K) {r : Nat} {i : Nat} {nr : List Int} (f : Bool) (v : Inv h n at_ r i nr) (hi : i + 1 < o.length) :
  ∃ m, stepR at_ h K (nr, f) o[i + 1] = some (nr.set o[i + 1].toNat m, f || (rd nr o[i + 1] != m)) ∧ Inv h n at_ r ((i + 1 : Nat) : Int) (nr.set o[i + 1].toNat m) ∧ (Enough h n at_ r → rd nr o[i + 1] = m) := by
 obtain ⟨c, hc⟩ : ∃ c, c = o[i + 1] := ⟨_, rfl⟩
 rw [← hc]
 have hca : fnI n at_ c = ((i + 1 : Nat) : Int) := by rw [hc]; exact od.at_o _ hi
 have hcr : fnI n at_ c ≠ -1 := by rw [hca]; omega
 obtain ⟨c0, c1⟩ := fnI_in hcr
 have hc0 : c ≠ 0 := fun e => by rw [e, od.gr.zero] at hca; omega
 obtain ⟨m, q1, q2, q3⟩ := fold_spec od.gr v.tr v.jn od.len v.len K od.lt hK (prevI n h c) (-1) (od.rows c) (.inl rfl)
 have hm : m ≠ -1 := fun e => by
  obtain ⟨p, hp, hr, ha⟩ := od.gr.up c hcr hc0
  exact v.known p hr (.inl (by omega)) ((q2 e).2 p hp hr)
 obtain ⟨k1, _, k2, k3⟩ := q3 hm
 have hf : Found (prevI n h) (fnI n at_) (fnI n nr) c m := ⟨k1, k2, fun d hd hp => k3 d hd (fun e => absurd rfl e) hp⟩
 obtain ⟨t2, j2, s2, w2⟩ := step_keeps od.gr v.tr v.jn v.sn hc0 hcr (by rw [hca]; omega) v.known hf
 rw [← fn_set v.len c0 c1] at t2 j2 s2 w2
 refine ⟨m, ?_, ⟨by rw [List.length_set]; exact v.len, t2, j2, ?_, ?_⟩, fun en => ?_⟩
 ·unfold stepR
  rw [prevI_in c0 c1] at q1
  rw [if_pos ⟨c0, by rw [od.hlen]; exact c1, by show c < ((nr.length : Nat) : Int); rw [v.len]; exact c1⟩, q1]
  rfl
 ·rw [show ((i + 1 : Nat) : Int) = (i : Int) + 1 by omega]; exact s2
 ·rw [show ((i + 1 : Nat) : Int) = (i : Int) + 1 by omega]; exact w2
 ·have hall : ∀ (z : Int) y x, Av (prevI n h) (fnI n at_) y x → Est (prevI n h) (fnI n at_) r z y x := fun z y x k => by
   obtain ⟨q, a, b⟩ := en y x k
   exact ⟨q, a, .inl b⟩
  by_cases hr0 : r = 0
  ·exfalso
   obtain ⟨q, _, b⟩ := en (-1) 0 ⟨0, .zero (by decide)⟩
   omega
  ·have hkc := v.known c hcr (.inr (by omega))
   have hkc2 := w2 c hcr (.inr (by omega))
   have e := nearest_same od.gr v.tr t2 hc0 hkc hkc2 (fun d hd => (on_iff od.gr v.tr v.jn v.sn (hall _) hd hkc).trans (on_iff od.gr t2 j2 s2 (hall _) hd hkc2).symm)
   rw [← fnI_rd c0 c1, e, fn_set v.len c0 c1, put_same]
theorem rest_steps (od : Ord n o at_ h) (K : Nat) (hK : 2 * n + 2 ≤ K) {r : Nat} : ∀ (d i : Nat) (nr : List Int) (f : Bool), i + 1 + d = o.length → Inv h n at_ r i nr →
  ∃ nr' f', (o.drop (i + 1)).foldlM (stepR at_ h K) (nr, f) = some (nr', f') ∧ Inv h n at_ r ((o.length - 1 : Nat) : Int) nr' ∧ (f' = false → f = false ∧ nr' = nr) ∧ (Enough h n at_ r → f' = f) := by
 intro d
 induction d with
 | zero =>
  intro i nr f hd v
  rw [List.drop_eq_nil_of_le (by omega)]
  refine ⟨nr, f, rfl, ?_, fun h => ⟨h, rfl⟩, fun _ => rfl⟩
  rw [show o.length - 1 = i by omega]
  exact v
 | succ d ih =>
  intro i nr f hd v
  have hi : i + 1 < o.length := by omega
  obtain ⟨m, h1, h2, h3⟩ := one_step od K hK f v hi
  obtain ⟨nr', f', k1, k2, k3, k4⟩ := ih (i + 1) (nr.set o[i + 1].toNat m) (f || (rd nr o[i + 1] != m)) (by omega) h2
  refine ⟨nr', f', ?_, k2, fun hf => ?_, fun en => ?_⟩
  ·rw [List.drop_eq_getElem_cons hi, List.foldlM_cons, h1]
   exact k1
  ·obtain ⟨a, b⟩ := k3 hf
   rw [Bool.or_eq_false_iff] at a
   have e : rd nr o[i + 1] = m := by simpa using a.2
   refine ⟨a.1, ?_⟩
   rw [b, ← e]
   unfold rd
   by_cases hlt : o[i + 1].toNat < nr.length
   ·rw [getD_at _ _ hlt, List.set_getElem_self]
   ·rw [List.set_eq_of_length_le (by omega)]
  ·rw [k4 en, h3 en]
   simp
theorem one_round (od : Ord n o at_ h) (K : Nat) (hK : 2 * n + 2 ≤ K) {r : Nat} {nr : List Int} (v : Inv h n at_ r 0 nr) :
  ∃ nr' f', roundO o at_ h K nr = some (nr', f') ∧ Inv h n at_ (r + 1) 0 nr' ∧ (f' = false → nr' = nr) ∧ (Enough h n at_ r → f' = false) := by
 obtain ⟨nr', f', h1, h2, h3, h4⟩ := rest_steps od K hK (r := r) (o.length - 1) 0 nr false (by have := od.pos; omega) v
 refine ⟨nr', f', ?_, ⟨h2.len, h2.tr, h2.jn, ?_, ?_⟩, fun hf => (h3 hf).2, h4⟩
 ·unfold roundO
  rw [if_pos od.pos]
  exact h1
 ·rintro y x hx ⟨q, hq, hc⟩
  have hxr := hq.reached od.gr
  have hlt := od.all x hxr
  by_cases hz : x = 0
  ·subst hz
   have hy := hq.ne
   exact h2.sn y 0 hx ⟨0, .zero hy, .inr ⟨Nat.zero_le _, by rw [od.gr.zero]; omega⟩⟩
  ·have h0 : fnI n at_ x ≠ 0 := fun e => hz (od.gr.inj x 0 hxr (by rw [e, od.gr.zero]))
   have hp := od.gr.pos x hxr
   exact h2.sn y x hx ⟨q, hq, .inr ⟨by omega, by omega⟩⟩
 ·intro x hxr _
  have hlt := od.all x hxr
  exact h2.known x hxr (.inl (by omega))
/-- What the nearest ones tell at the end. -/
structure Good (h : List (List Int)) (n : Nat) (at_ nr : List Int) : Prop where
 len : nr.length = n
 tr : Tr (fnI n at_) (fnI n nr)
 known : ∀ x, fnI n at_ x ≠ -1 → fnI n nr x ≠ -1
 on : ∀ d x, fnI n at_ d ≠ -1 → fnI n at_ x ≠ -1 → (On (fnI n nr) d x ↔ Domi (prevI n h) (fnI n at_) d x)
theorem good_of (od : Ord n o at_ h) {r : Nat} {nr : List Int} (v : Inv h n at_ r 0 nr) (hr : 1 ≤ r) (en : Enough h n at_ r) : Good h n at_ nr :=
 ⟨v.len, v.tr, fun x hx => v.known x hx (.inr hr), fun d x hd hx => on_iff od.gr v.tr v.jn v.sn (fun y z k => by
  obtain ⟨q, a, b⟩ := en y z k
  exact ⟨q, a, .inl b⟩) hd (v.known x hx (.inr hr))⟩
theorem still (od : Ord n o at_ h) (K : Nat) (hK : 2 * n + 2 ≤ K) {nr : List Int} (hs : roundO o at_ h K nr = some (nr, false)) : ∀ (m r : Nat), Inv h n at_ r 0 nr → Inv h n at_ (r + m) 0 nr := by
 intro m
 induction m with
 | zero => exact fun r v => v
 | succ m ih =>
  intro r v
  obtain ⟨nr', f', h1, h2, _, _⟩ := one_round od K hK v
  rw [hs] at h1
  have e := Option.some.inj h1
  simp only [Prod.mk.injEq] at e
  rw [← e.1] at h2
  have := ih (r + 1) h2
  rwa [show r + 1 + m = r + (m + 1) by omega] at this
theorem rounds_end (od : Ord n o at_ h) (K : Nat) (hK : 2 * n + 2 ≤ K) {R : Nat} (en : ∀ r, R ≤ r → Enough h n at_ r) : ∀ (k r : Nat) (nr : List Int), Inv h n at_ r 0 nr → R + 1 ≤ r + k → 1 ≤ k → ∃ nr', roundsO o at_ h K k nr = some nr' ∧ Good h n at_ nr' := by
 intro k
 induction k with
 | zero => intro r nr _ _ hk; omega
 | succ k ih =>
  intro r nr v hk _
  obtain ⟨nr', f', h1, h2, h3, h4⟩ := one_round od K hK v
  rw [roundsO, h1, Option.bind_some]
  cases f' with
  | false =>
   have e := h3 rfl
   subst e
   refine ⟨nr', by simp, ?_⟩
   have v2 := still od K hK h1 (R + 1) r v
   exact good_of od v2 (by omega) (en _ (by omega))
  | true =>
   have hr : r < R := by
    rcases Nat.lt_or_ge r R with hlt | hge
    ·exact hlt
    ·have := h4 (en r hge); cases this
   obtain ⟨nr2, k1, k2⟩ := ih (r + 1) nr' h2 (by omega) (by omega)
   exact ⟨nr2, by simpa using k1, k2⟩
end
end Go.Proofs.Ytclhjalgflebfaa.Q

/- The tree that grow makes: places by the order, and the nearest ones. -/

namespace Go.Proofs.Ytclhjalgflebfaa.Q
open Go.RowKit Go.Proofs.YtclhjalgflebfaaW.PrintWords Go.Proofs.YtclhjalgflebfaaW.PrintLast Go.Proofs.YtclhjalgflebfaaW.PrintMore
set_option linter.unusedVariables false
set_option linter.unusedSimpArgs false
theorem places_spec {n : Nat} : ∀ (xs : List Int) (k : Nat) (a : List Int), a.length = n → xs.Nodup → (∀ x ∈ xs, 0 ≤ x ∧ x < (n : Int)) →
  ∃ a', (xs.zipIdx k).foldlM (fun (a : List Int) (x : Int × Nat) => if 0 ≤ x.1 ∧ x.1 < (a.length : Int) then some (a.set x.1.toNat (x.2 : Int)) else none) a = some a' ∧ a'.length = n ∧
   (∀ (i : Nat) (hi : i < xs.length), fnI n a' xs[i] = ((k + i : Nat) : Int)) ∧ (∀ x, x ∉ xs → fnI n a' x = fnI n a x)
 | [], k, a, ha, _, _ => ⟨a, rfl, ha, fun i hi => absurd hi (Nat.not_lt_zero _), fun _ _ => rfl⟩
 | x :: xs, k, a, ha, hnd, hr => by
  obtain ⟨h0, h1⟩ := hr x List.mem_cons_self
  obtain ⟨hx, hnd'⟩ := List.nodup_cons.mp hnd
  have hl : (a.set x.toNat (k : Int)).length = n := by rw [List.length_set]; exact ha
  obtain ⟨a', p1, p2, p3, p4⟩ := places_spec xs (k + 1) (a.set x.toNat (k : Int)) hl hnd' (fun y hy => hr y (List.mem_cons_of_mem _ hy))
  refine ⟨a', ?_, p2, fun i hi => ?_, fun y hy => ?_⟩
  ·rw [List.zipIdx_cons, List.foldlM_cons]
   simp only
   rw [if_pos ⟨h0, by rw [ha]; exact h1⟩]
   exact p1
  ·cases i with
   | zero =>
    rw [List.getElem_cons_zero, p4 x hx, fn_set ha h0 h1, put_same]
    rfl
   | succ i =>
    rw [List.getElem_cons_succ, p3 i (by simpa using hi)]
    omega
  ·rw [p4 y (fun q => hy (List.mem_cons_of_mem _ q)), fn_set ha h0 h1, put_other _ (fun e => hy (by rw [e]; exact List.mem_cons_self))]
theorem fn_none (n : Nat) (x : Int) : fnI n (List.replicate n (-1)) x = -1 := by
 unfold fnI
 split
 ·unfold rd
  rw [getD_at _ _ (by rw [List.length_replicate]; omega), List.getElem_replicate]
 ·rfl
theorem aheadTo_mem {l : List S40} {b i : Int} : ∀ n, i ∈ aheadTo l n b ↔ 0 ≤ i ∧ i < (n : Int) ∧ b ∈ nextOf l i := by
 intro n
 induction n with
 | zero => simp [aheadTo]; omega
 | succ n ih =>
  unfold aheadTo
  rw [List.mem_append, ih]
  constructor
  ·rintro (⟨h0, h1, h2⟩ | h)
   ·exact ⟨h0, by omega, h2⟩
   ·obtain ⟨y, hy, rfl⟩ := List.mem_map.mp h
    obtain ⟨hy1, hy2⟩ := List.mem_filter.mp hy
    have : y = b := by simpa using hy2
    subst this
    exact ⟨by omega, by omega, hy1⟩
  ·rintro ⟨h0, h1, h2⟩
   by_cases e : i = (n : Int)
   ·subst e
    exact .inr (List.mem_map.mpr ⟨b, List.mem_filter.mpr ⟨h2, by simp⟩, rfl⟩)
   ·exact .inl ⟨h0, by omega, h2⟩
theorem rows_mem {l : List S40} {b p : Int} (h0 : 0 ≤ b) (h1 : b < (l.length : Int)) : p ∈ rowOf (aheadRows l) b ↔ 0 ≤ p ∧ p < (l.length : Int) ∧ b ∈ nextOf l p := by
 unfold rowOf aheadRows
 rw [getD_at _ _ (by simp; omega)]
 simp only [List.getElem_map, List.getElem_range]
 rw [aheadTo_mem, show ((b.toNat : Nat) : Int) = b by omega]
theorem rows_none {l : List S40} {b : Int} (h : ¬ b < (l.length : Int)) (h0 : 0 ≤ b) : rowOf (aheadRows l) b = [] := by
 unfold rowOf
 rw [List.getD_eq_getElem?_getD, List.getElem?_eq_none (by simp [aheadRows]; omega)]
 rfl
theorem reach_bound {prev : Int → List Int} {at_ : Int → Int} (g : Gr prev at_) (n : Nat) (hlt : ∀ x, at_ x ≠ -1 → 0 ≤ x ∧ x < (n : Int)) (y : Int) : ∀ x, Av prev at_ y x → ∃ q, AvR prev at_ y q x ∧ q ≤ n + 1 := by
 have filt : ∀ {α : Type} (p q : α → Bool) (l : List α), (∀ x ∈ l, p x = true → q x = true) → (l.filter p).length ≤ (l.filter q).length ∧ ((∃ x ∈ l, q x = true ∧ p x = false) → (l.filter p).length + 1 ≤ (l.filter q).length) := by
  intro α p q l
  induction l with
  | nil => intro _; exact ⟨Nat.le_refl _, fun ⟨x, hx, _⟩ => by cases hx⟩
  | cons a l ih =>
   intro h
   obtain ⟨i1, i2⟩ := ih (fun x hx => h x (List.mem_cons_of_mem _ hx))
   have ha := h a List.mem_cons_self
   rw [List.filter_cons, List.filter_cons]
   cases hp : p a with
   | true =>
    rw [ha hp]
    simp only [if_true, List.length_cons]
    refine ⟨by omega, ?_⟩
    rintro ⟨x, hx, h1, h2⟩
    rcases List.mem_cons.mp hx with rfl | hx
    ·rw [hp] at h2; cases h2
    ·have := i2 ⟨x, hx, h1, h2⟩; omega
   | false =>
    cases hq : q a with
    | true =>
     simp only [if_true, Bool.false_eq_true, if_false, List.length_cons]
     exact ⟨by omega, fun _ => by omega⟩
    | false =>
     simp only [Bool.false_eq_true, if_false]
     refine ⟨i1, ?_⟩
     rintro ⟨x, hx, h1, h2⟩
     rcases List.mem_cons.mp hx with rfl | hx
     ·rw [hq] at h1; cases h1
     ·exact i2 ⟨x, hx, h1, h2⟩
 let P : Nat → Int → Prop := fun q x => ∃ q', q' ≤ q ∧ AvR prev at_ y q' x
 let cnt : Nat → Nat := fun q => ((List.range n).filter (fun x : Nat => decB (P q (x : Int)))).length
 have cnt_le : ∀ q, cnt q ≤ n := fun q => by
  have := List.length_filter_le (fun x : Nat => decB (P q (x : Int))) (List.range n)
  rwa [List.length_range] at this
 have tr : ∀ {p : Prop}, decB p = true → p := fun {p} h => by
  by_cases hp : p
  ·exact hp
  ·rw [decB_false hp] at h; cases h
 have fl : ∀ {p : Prop}, decB p = false → ¬ p := fun {p} h hp => by rw [decB_true hp] at h; cases h
 have key : ∀ q, (∀ q' x, AvR prev at_ y q' x → P q x) ∨ q ≤ cnt q := by
  intro q
  induction q with
  | zero => exact .inr (Nat.zero_le _)
  | succ q ih =>
   rcases ih with h | h
   ·exact .inl (fun q' x k => by obtain ⟨a, b, c⟩ := h q' x k; exact ⟨a, by omega, c⟩)
   ·by_cases hs : ∀ x, P (q + 1) x → P q x
    ·left
     intro q' x k
     have : P q x := by
      induction k with
      | zero h => exact ⟨0, Nat.zero_le _, .zero h⟩
      | fwd _ hp hb ha ih => obtain ⟨a, b, c⟩ := ih; exact ⟨a, b, .fwd c hp hb ha⟩
      | ret _ hp hb ha ih => obtain ⟨a, b, c⟩ := ih; exact hs _ ⟨a + 1, by omega, .ret c hp hb ha⟩
     obtain ⟨a, b, c⟩ := this
     exact ⟨a, by omega, c⟩
    ·right
     have hex : ∃ x, P (q + 1) x ∧ ¬ P q x := Classical.byContradiction (fun hn => hs (fun x hx => Classical.byContradiction (fun hp => hn ⟨x, hx, hp⟩)))
     obtain ⟨x, h1, h2⟩ := hex
     obtain ⟨a, b, c⟩ := h1
     obtain ⟨x0, x1⟩ := hlt x (c.reached g)
     have := (filt (fun x : Nat => decB (P q (x : Int))) (fun x : Nat => decB (P (q + 1) (x : Int))) (List.range n) (fun z _ hz => decB_true (by obtain ⟨a, b, c⟩ := tr hz; exact ⟨a, by omega, c⟩))).2
      ⟨x.toNat, List.mem_range.mpr (by omega), by rw [show ((x.toNat : Nat) : Int) = x by omega]; exact decB_true ⟨a, b, c⟩, by rw [show ((x.toNat : Nat) : Int) = x by omega]; exact decB_false h2⟩
     show q + 1 ≤ cnt (q + 1)
     have h3 : cnt q + 1 ≤ cnt (q + 1) := this
     omega
 rintro x ⟨q, hq⟩
 rcases key (n + 1) with h | h
 ·obtain ⟨a, b, c⟩ := h q x hq
  exact ⟨a, c, b⟩
 ·have := cnt_le (n + 1)
  omega
section
variable (a0 : ByteArray) (l1 : List ByteArray) (a2 : ByteArray) (l3 : List ByteArray) (l4 : List S58) (l : List S40)
theorem ord_of (hn : 1 ≤ l.length) {s : List Bool} {e : List Int} (A : Adds l (List.replicate l.length false) s [0] (e ++ [0])) :
  ∃ at_, placesO (0 :: e.reverse) (List.replicate l.length (-1)) = some at_ ∧ Ord l.length (0 :: e.reverse) at_ (aheadRows l) ∧ (∀ x, fnI l.length at_ x ≠ -1 ↔ hasR s x) := by
 obtain ⟨o, ho⟩ : ∃ o, o = 0 :: e.reverse := ⟨_, rfl⟩
 have hrev : o = (e ++ [0]).reverse := by rw [ho]; simp
 have hmem : ∀ x, x ∈ o ↔ x ∈ e ++ [0] := fun x => by rw [hrev, List.mem_reverse]
 have hs : ∀ x, hasR s x ↔ x ∈ o := fun x => by
  rw [A.mem x, hmem x]
  exact ⟨fun h => h.resolve_left (hasR_none _ _), .inr⟩
 have hsl : s.length = l.length := by have := A.len; rwa [List.length_replicate] at this
 have hrange : ∀ x ∈ o, 0 ≤ x ∧ x < (l.length : Int) := fun x hx => by
  obtain ⟨h0, h1, _⟩ := (hs x).mpr hx
  exact ⟨h0, by rw [hsl] at h1; exact h1⟩
 have hnd : o.Nodup := by rw [hrev]; exact List.pairwise_reverse.mpr (A.nodup.imp (fun h e => h e.symm))
 obtain ⟨at_, p1, p2, p3, p4⟩ := places_spec o 0 (List.replicate l.length (-1)) List.length_replicate hnd hrange
 have hin : ∀ x, fnI l.length at_ x ≠ -1 ↔ x ∈ o := fun x => by
  constructor
  ·intro h
   exact Classical.byContradiction (fun hx => h (by rw [p4 x hx]; exact fn_none _ _))
  ·intro h
   obtain ⟨i, hi, rfl⟩ := List.mem_iff_getElem.mp h
   rw [p3 i hi]; omega
 have hat : ∀ (i : Nat) (hi : i < o.length), fnI l.length at_ o[i] = i := fun i hi => by rw [p3 i hi]; omega
 have hprev : ∀ b p, p ∈ prevI l.length (aheadRows l) b ↔ 0 ≤ p ∧ p < (l.length : Int) ∧ b ∈ nextOf l p := fun b p => by
  unfold prevI
  by_cases hb : 0 ≤ b ∧ b < (l.length : Int)
  ·rw [if_pos hb, rows_mem hb.1 hb.2]
  ·rw [if_neg hb]
   exact ⟨(fun h => by cases h), fun h => absurd (next_in h.2.2) hb⟩
 have hlen : o.length ≤ l.length := by
  have h1 := A.count
  rw [unseen_none] at h1
  rw [hrev, List.length_reverse]
  omega
 have hlt : ∀ x, fnI l.length at_ x ≠ -1 → fnI l.length at_ x < o.length := fun x hx => by
  obtain ⟨i, hi, rfl⟩ := List.mem_iff_getElem.mp ((hin x).mp hx)
  rw [hat i hi]; omega
 rw [← ho]
 refine ⟨at_, p1, ⟨p2, by simp [aheadRows], ⟨?_, ?_, ?_, ?_, ?_, ?_⟩, hat, hlt, fun x hx => by have := hlt x hx; omega, fun b p hp => ⟨((hprev b p).mp hp).1, ((hprev b p).mp hp).2.1⟩, by rw [ho]; simp⟩, fun x => (hin x).trans (hs x).symm⟩
 ·unfold fnI
  rw [if_neg (by omega)]
 ·have h0 : 0 < o.length := by rw [ho]; simp
  have := hat 0 h0
  simp only [ho, List.getElem_cons_zero] at this
  simpa using this
 ·intro x y hx hxy
  obtain ⟨i, hi, rfl⟩ := List.mem_iff_getElem.mp ((hin x).mp hx)
  obtain ⟨j, hj, rfl⟩ := List.mem_iff_getElem.mp ((hin y).mp (by rw [← hxy]; exact hx))
  rw [hat i hi, hat j hj] at hxy
  have : i = j := by omega
  subst this
  rfl
 ·intro x hx
  obtain ⟨i, hi, rfl⟩ := List.mem_iff_getElem.mp ((hin x).mp hx)
  rw [hat i hi]; omega
 ·intro b hb hb0
  obtain ⟨e1, e2, he⟩ := List.append_of_mem ((hmem b).mp ((hin b).mp hb))
  rcases A.led e1 b e2 he with h | ⟨p, hp, hpb⟩
  ·exact absurd (List.mem_singleton.mp h) hb0
  ·have hoe : o = e2.reverse ++ b :: e1.reverse := by rw [hrev, he]; simp
   have hpo : p ∈ o := by rw [hoe]; exact List.mem_append_left _ (List.mem_reverse.mpr hp)
   obtain ⟨j, hj, hjp⟩ := List.mem_iff_getElem.mp (List.mem_reverse.mpr hp)
   have hjl : j < e2.length := by rwa [List.length_reverse] at hj
   have hjo : j < o.length := by rw [hoe, List.length_append, List.length_reverse]; omega
   have hbo : e2.length < o.length := by rw [hoe, List.length_append, List.length_reverse, List.length_cons]; omega
   have ep : o[j] = p := by simp only [hoe]; rw [List.getElem_append_left hj]; exact hjp
   have eb : o[e2.length] = b := by simp only [hoe]; rw [List.getElem_append_right (by simp)]; simp
   have ap := hat j hjo
   have ab := hat e2.length hbo
   rw [ep] at ap
   rw [eb] at ab
   have hpr := hrange p hpo
   exact ⟨p, (hprev b p).mpr ⟨hpr.1, hpr.2, hpb⟩, (hin p).mpr hpo, by rw [ap, ab]; omega⟩
 ·intro b p hp hpr
  have h1 := (hmem p).mp ((hin p).mp hpr)
  exact (hin b).mpr ((hs b).mp (A.goes p h1 b ((hprev b p).mp hp).2.2))
theorem inv_start {n : Nat} {o at_ : List Int} {h : List (List Int)} (od : Ord n o at_ h) (hn : 1 ≤ n) : Inv h n at_ 0 0 ((List.replicate n (-1)).set 0 0) := by
 have hf : fnI n ((List.replicate n (-1)).set 0 0) = putI (fnI n (List.replicate n (-1))) 0 0 := by
  have := fn_set (n := n) (nr := List.replicate n (-1)) List.length_replicate (c := 0) (m := 0) (Int.le_refl _) (by omega)
  exact this
 have hz : ∀ x, putI (fnI n (List.replicate n (-1))) 0 0 x ≠ -1 → x = 0 := fun x hx => by
  by_cases e : x = 0
  ·exact e
  ·rw [put_other _ e, fn_none] at hx; exact absurd rfl hx
 refine ⟨by rw [List.length_set, List.length_replicate], ?_, ?_, ?_, ?_⟩ <;> rw [hf]
 ·refine ⟨put_same _ _ _, fun x hx => ?_, fun x hx0 hx => absurd (hz x hx) hx0⟩
  rw [hz x hx, od.gr.zero]; decide
 ·intro x hx0 hx
  exact absurd (hz x hx) hx0
 ·rintro y x hx ⟨q, hq, _⟩ hon
  have e := hz x hx
  subst e
  exact (hon.next (Ne.symm hq.ne)).1 rfl
 ·intro x hx hc
  have h0 := od.gr.pos x hx
  have e : x = 0 := od.gr.inj x 0 hx (by rw [od.gr.zero]; omega)
  rw [e, put_same]
  decide
theorem enough_of {n : Nat} {o at_ : List Int} {h : List (List Int)} (od : Ord n o at_ h) : ∀ r, n + 2 ≤ r → Enough h n at_ r := fun r hr y x k => by
 obtain ⟨q, a, b⟩ := reach_bound od.gr n (fun x hx => fnI_in hx) y x k
 exact ⟨q, a, by omega⟩
/-- What grow makes of a function with blocks. -/
theorem grow_is (hn : 1 ≤ l.length) (hl : l.length ≤ 1000000) : ∃ o at_ nr s, growO a0 l1 a2 l3 l4 l = some (o, at_, aheadRows l, nr.set 0 (-1)) ∧ Ord l.length o at_ (aheadRows l) ∧ Good (aheadRows l) l.length at_ nr ∧
  flow_Reached.f a0 l1 a2 l3 l4 l = some s ∧ s.length = l.length ∧ (∀ x, fnI l.length at_ x ≠ -1 ↔ hasR s x) := by
 obtain ⟨s, e, h1, A, _⟩ := walk_facts l (by unfold LIMF; omega) (by omega)
 obtain ⟨at_, p1, od, hR⟩ := ord_of l hn A
 have hsl : s.length = l.length := by have := A.len; rwa [List.length_replicate] at this
 obtain ⟨nr, q1, q2⟩ := rounds_end od (fuelD l.length) (by unfold fuelD; omega) (enough_of od) (fuelD l.length) 0 _ (inv_start od hn) (by unfold fuelD; omega) (by unfold fuelD; omega)
 have hlen : (e ++ [0]).length < LIMF := by
  have h2 := A.count
  rw [unseen_none] at h2
  unfold LIMF; omega
 refine ⟨_, at_, nr, s, ?_, od, q2, ?_, hsl, hR⟩
 ·unfold growO flow_Order.f
  rw [h1, Option.bind_some, if_pos hlen, Option.bind_some]
  have e2 : (e ++ [0]).reverse = 0 :: e.reverse := by simp
  simp only [e2]
  rw [if_pos ⟨hn, hl, by simp⟩, p1, Option.bind_some, q1, Option.bind_some]
 ·unfold flow_Reached.f
  rw [h1]
  rfl
end
end Go.Proofs.Ytclhjalgflebfaa.Q

/- Is, and the way up by which Front goes. -/

namespace Go.Proofs.Ytclhjalgflebfaa.Q
open Go.RowKit Go.Proofs.YtclhjalgflebfaaW.PrintWords Go.Proofs.YtclhjalgflebfaaW.PrintLast Go.Proofs.YtclhjalgflebfaaW.PrintMore
set_option linter.unusedVariables false
set_option linter.unusedSimpArgs false
section
variable {n : Nat} {o at_ nr : List Int} {h : List (List Int)}
theorem rd_root (hn : nr.length = n) {x : Int} (h0 : 0 ≤ x) (h1 : x < (n : Int)) : rd (nr.set 0 (-1)) x = if x = 0 then -1 else fnI n nr x := by
 have := congrFun (fn_set (n := n) hn (c := 0) (m := -1) (Int.le_refl _) (by omega)) x
 rw [← fnI_rd (n := n) h0 h1]
 rw [show nr.set 0 (-1) = nr.set (0 : Int).toNat (-1) from rfl, this]
 rfl
theorem on_spec (od : Ord n o at_ h) (gd : Good h n at_ nr) {a : Int} (ha : fnI n at_ a ≠ -1) : ∀ (k : Nat) (b : Int), fnI n at_ b ≠ -1 → fnI n at_ b + 2 ≤ k → onO (nr.set 0 (-1)) k a b = some (decB (On (fnI n nr) a b)) := by
 have ha1 : a ≠ -1 := fun e => by have := (fnI_in ha).1; omega
 intro k
 induction k with
 | zero => intro b hb hk; have := od.gr.pos b hb; omega
 | succ k ih =>
  intro b hb hk
  obtain ⟨h0, h1⟩ := fnI_in hb
  have hp := od.gr.pos b hb
  rw [onO, if_neg (by omega)]
  by_cases e : b = a
  ·subst e
   rw [if_pos rfl, decB_true .self]
  ·rw [if_neg e, if_pos ⟨h0, by rw [List.length_set, gd.len]; exact h1⟩, rd_root gd.len h0 h1]
   by_cases hz : b = 0
   ·rw [if_pos hz]
    obtain ⟨k, rfl⟩ : ∃ m, k = m + 1 := ⟨k - 1, by omega⟩
    rw [onO, if_pos rfl, decB_false (fun q => (q.next (Ne.symm e)).1 hz)]
    congr 1
    exact beq_eq_false_iff_ne.mpr (Ne.symm ha1)
   ·rw [if_neg hz]
    have hk2 := gd.known b hb
    have hu := gd.tr.up b hz hk2
    rw [ih (fnI n nr b) (gd.tr.known _ hu.2) (by omega)]
    congr 1
    exact decB_iff ⟨fun q => .up hz q, fun q => (q.next (Ne.symm e)).2⟩
/-- Whether a dominates b. -/
theorem is_spec (od : Ord n o at_ h) (gd : Good h n at_ nr) (K : Nat) (hK : n + 2 ≤ K) {a b : Int} (a0 : 0 ≤ a) (a1 : a < (n : Int)) (b0 : 0 ≤ b) (b1 : b < (n : Int)) :
  isO at_ (nr.set 0 (-1)) K a b = some (decB (fnI n at_ a ≠ -1 ∧ Domi (prevI n h) (fnI n at_) a b)) := by
 have e1 : rd at_ a = fnI n at_ a := (fnI_rd a0 a1).symm
 have e2 : rd at_ b = fnI n at_ b := (fnI_rd b0 b1).symm
 unfold isO
 rw [if_pos ⟨a0, by rw [od.len]; exact a1⟩, e1]
 by_cases ha : fnI n at_ a = -1
 ·rw [if_pos ha, decB_false (fun q => q.1 ha)]
 ·rw [if_neg ha, if_pos ⟨b0, by rw [od.len]; exact b1⟩, e2]
  by_cases hb : fnI n at_ b = -1
  ·rw [if_pos hb, decB_false (fun q => q.2.1 hb)]
  ·rw [if_neg hb, on_spec od gd ha K b hb (by have := od.lt b hb; omega)]
   congr 1
   exact decB_iff ((gd.on a b ha hb).trans ⟨fun q => ⟨ha, q⟩, fun q => q.2⟩)
/-- Why x stands in a's front. -/
def Fr (n : Nat) (h : List (List Int)) (at_ : List Int) (a x : Int) : Prop := fnI n at_ a ≠ -1 ∧ ∃ p ∈ prevI n h x, fnI n at_ p ≠ -1 ∧ Domi (prevI n h) (fnI n at_) a p ∧ (a = x ∨ ¬ Domi (prevI n h) (fnI n at_) a x)
structure Snd (n : Nat) (h : List (List Int)) (at_ : List Int) (c : Nat) (out : List (List Int)) : Prop where
 len : out.length = n
 few : ∀ a, (rowOf out a).length ≤ c
 why : ∀ a, 0 ≤ a → a < (n : Int) → ∀ x ∈ rowOf out a, (0 ≤ x ∧ x < (n : Int)) ∧ Fr n h at_ a x
theorem row_set {out : List (List Int)} {x a : Int} {y : List Int} (h0 : 0 ≤ x) (h1 : x < (out.length : Int)) (a0 : 0 ≤ a) : rowOf (out.set x.toNat y) a = if a = x then y else rowOf out a := by
 unfold rowOf
 by_cases e : a = x
 ·subst e
  rw [if_pos rfl, getD_at _ _ (by rw [List.length_set]; omega), List.getElem_set_self]
 ·rw [if_neg e, List.getD_eq_getElem?_getD, List.getD_eq_getElem?_getD, List.getElem?_set_ne (by omega)]
theorem climb_spec (od : Ord n o at_ h) (gd : Good h n at_ nr) (K : Nat) (hK : n + 2 ≤ K) {b p : Int} (b0 : 0 ≤ b) (b1 : b < (n : Int)) (hp : p ∈ prevI n h b) (c : Nat) (hc : c + 1 < LIMF) :
  ∀ (k : Nat) (x : Int) (out : List (List Int)), (x = -1 ∨ (fnI n at_ x ≠ -1 ∧ On (fnI n nr) x p)) → fnI n at_ x + 3 ≤ k → Snd n h at_ (c + 1) out → (∀ a, 0 ≤ a → fnI n at_ a ≤ fnI n at_ x → (rowOf out a).length ≤ c) →
   ∃ out', climbO at_ (nr.set 0 (-1)) K b p k x out = some out' ∧ Snd n h at_ (c + 1) out' := by
 obtain ⟨p0, p1⟩ := od.rows b p hp
 have e1 : rd at_ p = fnI n at_ p := (fnI_rd p0 p1).symm
 intro k
 induction k with
 | zero =>
  intro x out hx hk _ _
  rcases hx with rfl | ⟨hx, _⟩
  ·have : fnI n at_ (-1) = -1 := od.gr.none
   omega
  ·have := od.gr.pos x hx; omega
 | succ k ih =>
  intro x out hx hk hs hlow
  have hstop : climbS at_ (nr.set 0 (-1)) K b p x = some false → ∃ out', climbO at_ (nr.set 0 (-1)) K b p (k + 1) x out = some out' ∧ Snd n h at_ (c + 1) out' := fun e => by
   refine ⟨out, ?_, hs⟩
   rw [climbO, e]
   rfl
  by_cases hpr : fnI n at_ p = -1
  ·refine hstop ?_
   unfold climbS
   rw [if_pos ⟨p0, by rw [od.len]; exact p1⟩, e1, if_pos hpr]
  ·rcases hx with rfl | ⟨hxr, hon⟩
   ·refine hstop ?_
    unfold climbS
    rw [if_pos ⟨p0, by rw [od.len]; exact p1⟩, e1, if_neg hpr, if_pos rfl]
   ·obtain ⟨x0, x1⟩ := fnI_in hxr
    have hxp := od.gr.pos x hxr
    have hdp : Domi (prevI n h) (fnI n at_) x p := (gd.on x p hxr hpr).mp hon
    have hgo : (x = b ∨ ¬ Domi (prevI n h) (fnI n at_) x b) → climbS at_ (nr.set 0 (-1)) K b p x = some true → ∃ out', climbO at_ (nr.set 0 (-1)) K b p (k + 1) x out = some out' ∧ Snd n h at_ (c + 1) out' := fun hwhy e => by
     have hrl := hlow x x0 (Int.le_refl _)
     have hs2 : Snd n h at_ (c + 1) (out.set x.toNat (rowOf out x ++ [b])) := by
      refine ⟨by rw [List.length_set]; exact hs.len, fun a => ?_, fun a a0 a1 z hz => ?_⟩
      ·by_cases a0 : 0 ≤ a
       ·rw [row_set x0 (by rw [hs.len]; exact x1) a0]
        split
        ·rw [List.length_append, List.length_singleton]; omega
        ·exact hs.few a
       ·have ea : rowOf (out.set x.toNat (rowOf out x ++ [b])) a = rowOf (out.set x.toNat (rowOf out x ++ [b])) 0 := by unfold rowOf; rw [show a.toNat = (0 : Int).toNat by omega]
        rw [ea, row_set x0 (by rw [hs.len]; exact x1) (Int.le_refl _)]
        split
        ·rw [List.length_append, List.length_singleton]; omega
        ·exact hs.few 0
      ·rw [row_set x0 (by rw [hs.len]; exact x1) a0] at hz
       split at hz
       ·rename_i e2
        subst e2
        rcases List.mem_append.mp hz with hz | hz
        ·exact hs.why a a0 a1 z hz
        ·obtain rfl := List.mem_singleton.mp hz
         exact ⟨⟨b0, b1⟩, hxr, p, hp, hpr, hdp, hwhy⟩
       ·exact hs.why a a0 a1 z hz
     have hnx : rd (nr.set 0 (-1)) x = if x = 0 then -1 else fnI n nr x := rd_root gd.len x0 x1
     have hnext : ∃ out', climbO at_ (nr.set 0 (-1)) K b p k (rd (nr.set 0 (-1)) x) (out.set x.toNat (rowOf out x ++ [b])) = some out' ∧ Snd n h at_ (c + 1) out' := by
      by_cases hz : x = 0
      ·rw [hnx, if_pos hz]
       have hm : fnI n at_ (-1) = -1 := od.gr.none
       refine ih (-1) _ (.inl rfl) (by omega) hs2 (fun a a0 hle => ?_)
       rw [row_set x0 (by rw [hs.len]; exact x1) a0]
       split
       ·rename_i e2
        subst e2
        omega
       ·exact hlow a a0 (by omega)
      ·rw [hnx, if_neg hz]
       have hu := gd.tr.up x hz (gd.known x hxr)
       have hur := gd.tr.known _ hu.2
       have hup := od.gr.pos _ hur
       refine ih (fnI n nr x) _ (.inr ⟨hur, ?_⟩) (by omega) hs2 (fun a a0 hle => ?_)
       ·exact (On.up hz .self : On (fnI n nr) (fnI n nr x) x).trans hon
       ·rw [row_set x0 (by rw [hs.len]; exact x1) a0]
        split
        ·rename_i e2
         subst e2
         omega
        ·exact hlow a a0 (by omega)
     obtain ⟨out', q1, q2⟩ := hnext
     refine ⟨out', ?_, q2⟩
     rw [climbO, e, Option.bind_some, if_pos rfl, if_pos ⟨x0, by rw [hs.len]; exact x1, by rw [List.length_set, gd.len]; exact x1, by omega⟩]
     exact q1
    have hcl : climbS at_ (nr.set 0 (-1)) K b p x = if x = b then some true else (isO at_ (nr.set 0 (-1)) K x b).map (fun r => !r) := by
     unfold climbS
     rw [if_pos ⟨p0, by rw [od.len]; exact p1⟩, e1, if_neg hpr, if_neg (by omega)]
    by_cases hxb : x = b
    ·exact hgo (.inl hxb) (by rw [hcl, if_pos hxb])
    ·rw [if_neg hxb, is_spec od gd K hK x0 x1 b0 b1] at hcl
     by_cases hd : fnI n at_ x ≠ -1 ∧ Domi (prevI n h) (fnI n at_) x b
     ·exact hstop (by rw [hcl, decB_true hd]; rfl)
     ·exact hgo (.inr (fun q => hd ⟨hxr, q⟩)) (by rw [hcl, decB_false hd]; rfl)
end
end Go.Proofs.Ytclhjalgflebfaa.Q

/- Front: each row holds those only of whom it is so. -/

namespace Go.Proofs.Ytclhjalgflebfaa.Q
open Go.RowKit Go.Proofs.YtclhjalgflebfaaW.PrintWords Go.Proofs.YtclhjalgflebfaaW.PrintLast Go.Proofs.YtclhjalgflebfaaW.PrintMore
set_option linter.unusedVariables false
set_option linter.unusedSimpArgs false
section
variable {n : Nat} {o at_ nr : List Int} {h : List (List Int)}
theorem Snd.more {c d : Nat} {out : List (List Int)} (s : Snd n h at_ c out) (hd : c ≤ d) : Snd n h at_ d out := ⟨s.len, fun a => Nat.le_trans (s.few a) hd, s.why⟩
theorem climb_one (od : Ord n o at_ h) (gd : Good h n at_ nr) (K : Nat) (hK : n + 2 ≤ K) {b p : Int} (b0 : 0 ≤ b) (b1 : b < (n : Int)) (hp : p ∈ prevI n h b) (c : Nat) (hc : c + 1 < LIMF) {out : List (List Int)} (hs : Snd n h at_ c out) :
  ∃ out', climbO at_ (nr.set 0 (-1)) K b p K p out = some out' ∧ Snd n h at_ (c + 1) out' := by
 obtain ⟨p0, p1⟩ := od.rows b p hp
 by_cases hpr : fnI n at_ p = -1
 ·obtain ⟨k, rfl⟩ : ∃ k, K = k + 1 := ⟨K - 1, by omega⟩
  refine ⟨out, ?_, hs.more (by omega)⟩
  rw [climbO]
  unfold climbS
  rw [if_pos ⟨p0, by rw [od.len]; exact p1⟩, ← fnI_rd p0 p1, if_pos hpr]
  rfl
 ·exact climb_spec od gd K hK b0 b1 hp c hc K p out (.inr ⟨hpr, .self⟩) (by have := od.lt p hpr; omega) (hs.more (by omega)) (fun a _ _ => hs.few a)
theorem climbs (od : Ord n o at_ h) (gd : Good h n at_ nr) (K : Nat) (hK : n + 2 ≤ K) {b : Int} (b0 : 0 ≤ b) (b1 : b < (n : Int)) : ∀ (ps : List Int) (c : Nat) (out : List (List Int)), (∀ p ∈ ps, p ∈ prevI n h b) → c + ps.length < LIMF → Snd n h at_ c out →
  ∃ out', ps.foldlM (fun out p => climbO at_ (nr.set 0 (-1)) K b p K p out) out = some out' ∧ Snd n h at_ (c + ps.length) out'
 | [], c, out, _, _, hs => ⟨out, rfl, hs⟩
 | p :: ps, c, out, hp, hc, hs => by
  rw [List.length_cons] at hc
  obtain ⟨out1, q1, q2⟩ := climb_one od gd K hK b0 b1 (hp p List.mem_cons_self) c (by omega) hs
  obtain ⟨out2, r1, r2⟩ := climbs od gd K hK b0 b1 ps (c + 1) out1 (fun x hx => hp x (List.mem_cons_of_mem _ hx)) (by omega) q2
  refine ⟨out2, ?_, ?_⟩
  ·rw [List.foldlM_cons, q1]
   exact r1
  ·rw [List.length_cons]
   exact r2.more (by omega)
theorem blocks (od : Ord n o at_ h) (gd : Good h n at_ nr) (K : Nat) (hK : n + 2 ≤ K) (hn : n ≤ 1000000) (hrow : ∀ b : Nat, (rowOf h b).length ≤ 2000000) : ∀ (d i : Nat) (out : List (List Int)), i + d = n → Snd n h at_ (i * 2000000) out →
  ∃ out', ((List.range n).drop i).foldlM (frontB at_ h (nr.set 0 (-1)) K) out = some out' ∧ Snd n h at_ (n * 2000000) out' := by
 intro d
 induction d with
 | zero =>
  intro i out hi hs
  rw [List.drop_eq_nil_of_le (by rw [List.length_range]; omega)]
  exact ⟨out, rfl, hs.more (by omega)⟩
 | succ d ih =>
  intro i out hi hs
  have hd : (List.range n).drop i = i :: (List.range n).drop (i + 1) := by rw [List.drop_eq_getElem_cons (by rw [List.length_range]; omega), List.getElem_range]
  have hr := hrow i
  obtain ⟨out1, q1, q2⟩ := climbs od gd K hK (b := (i : Int)) (by omega) (by omega) (rowOf h i) (i * 2000000) out (fun p hp => by rw [prevI_in (by omega) (by omega)]; exact hp) (by unfold LIMF; omega) hs
  obtain ⟨out2, r1, r2⟩ := ih (i + 1) out1 (by omega) (q2.more (by omega))
  refine ⟨out2, ?_, r2⟩
  rw [hd, List.foldlM_cons]
  unfold frontB at r1 ⊢
  rw [if_pos (by rw [od.hlen]; omega), q1]
  exact r1
end
section
variable (a0 : ByteArray) (l1 : List ByteArray) (a2 : ByteArray) (l3 : List ByteArray) (l4 : List S58) (l : List S40)
/-- All that the laws ask of the tree. -/
structure Dm (l : List S40) (o at_ nr : List Int) (s : List Bool) : Prop where
 od : Ord l.length o at_ (aheadRows l)
 gd : Good (aheadRows l) l.length at_ nr
 sl : s.length = l.length
 re : ∀ x, fnI l.length at_ x ≠ -1 ↔ hasR s x
theorem dm_all (hn : 1 ≤ l.length) (hl : l.length ≤ 30) : ∃ o at_ nr s out, Dm l o at_ nr s ∧ growO a0 l1 a2 l3 l4 l = some (o, at_, aheadRows l, nr.set 0 (-1)) ∧ flow_Reached.f a0 l1 a2 l3 l4 l = some s ∧
  dom_Front.f a0 l1 a2 l3 l4 l = some (out.map sortC) ∧ Snd l.length (aheadRows l) at_ (l.length * 2000000) out ∧ ((List.range l.length).foldlM (frontB at_ (aheadRows l) (nr.set 0 (-1)) (fuelD l.length)) (List.replicate l.length [])) = some out := by
 obtain ⟨o, at_, nr, s, g1, od, gd, r1, r2, r3⟩ := grow_is a0 l1 a2 l3 l4 l hn (by omega)
 have hrow : ∀ b : Nat, (rowOf (aheadRows l) b).length ≤ 2000000 := fun b => by
  by_cases hb : b < l.length
  ·have e : rowOf (aheadRows l) (b : Int) = aheadTo l l.length (b : Int) := by
    unfold rowOf aheadRows
    rw [getD_at _ _ (by simp; omega)]
    simp
   rw [e]
   have := ahead_len l (b : Int) l.length
   omega
  ·rw [rows_none (by omega) (by omega)]
   simp
 obtain ⟨out, f1, f2⟩ := blocks od gd (fuelD l.length) (by unfold fuelD; omega) (by omega) hrow l.length 0 (List.replicate l.length []) (by omega) ⟨List.length_replicate, fun a => by
   unfold rowOf; rw [List.getD_eq_getElem?_getD, List.getElem?_replicate]; split <;> simp, fun a a0 a1 x hx => by
   unfold rowOf at hx; rw [getD_at _ _ (by rw [List.length_replicate]; omega), List.getElem_replicate] at hx; cases hx⟩
 rw [List.drop_zero] at f1
 refine ⟨o, at_, nr, s, out, ⟨od, gd, r2, r3⟩, g1, r1, ?_, f2, f1⟩
 have hh : out.length = l.length ∧ ∀ r ∈ out, r.length < LIMF := ⟨f2.len, fun r hr => by
  obtain ⟨i, hi, rfl⟩ := List.mem_iff_getElem.mp hr
  have := f2.few (i : Int)
  unfold rowOf at this
  rw [Int.toNat_natCast, getD_at _ _ hi] at this
  exact Nat.lt_of_le_of_lt this (by unfold LIMF; omega)⟩
 unfold dom_Front.f
 rw [if_neg (by omega), if_neg (by omega), g1, Option.bind_some]
 simp only
 rw [f1, Option.bind_some, if_pos hh]
theorem is_all {o at_ nr : List Int} {s : List Bool} (D : Dm l o at_ nr s) (hg : growO a0 l1 a2 l3 l4 l = some (o, at_, aheadRows l, nr.set 0 (-1))) (a b : Int) : dom_Is.f a0 l1 a2 l3 l4 l a b = some (decB (fnI l.length at_ a ≠ -1 ∧ Domi (prevI l.length (aheadRows l)) (fnI l.length at_) a b)) := by
 unfold dom_Is.f
 split
 ·rename_i h
  rw [hg, Option.bind_some]
  exact is_spec D.od D.gd _ (by unfold fuelD; omega) h.1 h.2.2.1 h.2.1 h.2.2.2
 ·rename_i h
  rw [decB_false]
  rintro ⟨h1, h2⟩
  have q1 := fnI_in h1
  have q2 := fnI_in h2.1
  exact h ⟨q1.1, q2.1, q1.2, q2.2⟩
end
end Go.Proofs.Ytclhjalgflebfaa.Q

/- The document's Is: whom a way without a block comes to; and the nearest ones that it picks. -/

namespace Go.Proofs.Ytclhjalgflebfaa.Q
open Go.RowKit Go.Proofs.YtclhjalgflebfaaW.PrintWords Go.Proofs.YtclhjalgflebfaaW.PrintLast Go.Proofs.YtclhjalgflebfaaW.PrintMore
set_option linter.unusedVariables false
set_option linter.unusedSimpArgs false
theorem isRow' (l : List S40) {i : Nat} (hi : i < l.length) : rd_L7 ((List.range l.length).map (rowI l)) (i : Int) = rowI l i := by
 unfold rd_L7
 rw [Int.toNat_natCast, getD_at _ _ (by simpa using hi)]
 simp
theorem rowI_len' (l : List S40) (a : Nat) : (rowI l a).length = l.length := by
 unfold rowI
 split <;> simp
/-- Whether a dominates b, as Is tells it. -/
def DI (l : List S40) (at_ : List Int) (a b : Int) : Prop := fnI l.length at_ a ≠ -1 ∧ Domi (prevI l.length (aheadRows l)) (fnI l.length at_) a b
section
variable {l : List S40} {o at_ nr : List Int} {s : List Bool}
theorem prev_iff {b p : Int} : p ∈ prevI l.length (aheadRows l) b ↔ b ∈ nextOf l p := by
 constructor
 ·intro h
  unfold prevI at h
  split at h
  ·rename_i hb
   exact ((rows_mem hb.1 hb.2).mp h).2.2
  ·cases h
 ·intro h
  obtain ⟨h0, h1⟩ := next_in h
  obtain ⟨p0, p1⟩ := next_dom h
  rw [prevI_in h0 h1]
  exact (rows_mem h0 h1).mpr ⟨p0, p1, h⟩
theorem reachL_walk {l : List S40} (hn : 0 < l.length) (hl : l.length ≤ 1000000) : ∃ e, Adds l (List.replicate l.length false) (reachL l) [0] (e ++ [0]) := by
 obtain ⟨s, e, h1, h2, _⟩ := walk_facts l (by unfold LIMF; omega) hn
 refine ⟨e, ?_⟩
 have e1 : reachL l = s := by unfold reachL; rw [h1]; rfl
 rw [e1]; exact h2
theorem reachL_least {l : List S40} (hn : 0 < l.length) (hl : l.length ≤ 1000000) : hasR (reachL l) 0 ∧ closedR l (reachL l) ∧ ∀ C : Int → Prop, C 0 → (∀ p, C p → ∀ y ∈ nextOf l p, C y) → ∀ x, hasR (reachL l) x → C x := by
 obtain ⟨e, h⟩ := reachL_walk hn hl
 have hm : ∀ x, hasR (reachL l) x ↔ x ∈ e ++ [0] := fun x => by rw [h.mem]; exact ⟨fun h => h.resolve_left (hasR_none _ _), .inr⟩
 exact ⟨(hm 0).mpr (by simp), fun x hx y hy => h.goes x ((hm x).mp hx) y hy, fun C h0 hC x hx => led_all h C (fun y hy => by rw [List.mem_singleton] at hy; subst hy; exact h0) hC x ((hm x).mp hx)⟩
theorem noJ_other {a : Nat} {p : Int} (hp : p ≠ (a : Int)) : nextOf (noJ l a) p = nextOf l p := by
 unfold nextOf
 rw [noJ_len]
 split
 ·rename_i h
  have e : rd_T40 (noJ l a) p = rd_T40 l p := by
   unfold rd_T40 noJ
   rw [List.getD_eq_getElem?_getD, List.getD_eq_getElem?_getD, List.getElem?_set_ne (by omega)]
  rw [e]
 ·rfl
theorem noJ_same {a : Nat} : nextOf (noJ l a) (a : Int) = [] := by
 unfold nextOf
 rw [noJ_len]
 split
 ·rename_i h
  have e : rd_T40 (noJ l a) (a : Int) = { rd_T40 l (a : Int) with f1 := 3 } := by
   conv => lhs; unfold rd_T40 noJ
   rw [Int.toNat_natCast, getD_at _ _ (by rw [List.length_set]; omega), List.getElem_set_self]
  rw [e]
  rfl
 ·rfl
/-- Without a: whom a way comes to that doesn't pass it. -/
theorem noJ_reach (hn : 0 < l.length) (hl : l.length ≤ 1000000) {a : Nat} (ha : a ≠ 0) {b : Int} (hb : b ≠ (a : Int)) : hasR (reachL (noJ l a)) b ↔ Av (prevI l.length (aheadRows l)) (fnI l.length at_) (a : Int) b := by
 obtain ⟨h0, hc, hl2⟩ := reachL_least (l := noJ l a) (by rw [noJ_len]; exact hn) (by rw [noJ_len]; exact hl)
 constructor
 ·intro h
  refine (hl2 (fun x => x = (a : Int) ∨ Av (prevI l.length (aheadRows l)) (fnI l.length at_) (a : Int) x) (.inr ⟨0, .zero (by omega)⟩) (fun p hp y hy => ?_) b h).resolve_left hb
  rcases hp with rfl | hp
  ·rw [noJ_same] at hy; cases hy
  ·by_cases e : y = (a : Int)
   ·exact .inl e
   ·have hpa : p ≠ (a : Int) := by obtain ⟨r, hr⟩ := hp; exact hr.ne
    rw [noJ_other hpa] at hy
    exact .inr (hp.step (prev_iff.mpr hy) e)
 ·rintro ⟨r, hr⟩
  induction hr with
  | zero _ => exact h0
  | fwd h hp hb2 _ ih => exact hc _ (ih h.ne) _ (by rw [noJ_other h.ne]; exact prev_iff.mp hp)
  | ret h hp hb2 _ ih => exact hc _ (ih h.ne) _ (by rw [noJ_other h.ne]; exact prev_iff.mp hp)
theorem reachL_is {a0 : ByteArray} {l1 : List ByteArray} {a2 : ByteArray} {l3 : List ByteArray} {l4 : List S58} (D : Dm l o at_ nr s) (h : flow_Reached.f a0 l1 a2 l3 l4 l = some s) : reachL l = s := by
 unfold flow_Reached.f at h
 unfold reachL
 rw [h]
 rfl
/-- An element of the document's table. -/
theorem cell_is (D : Dm l o at_ nr s) (hs : reachL l = s) (hn : 0 < l.length) (hl : l.length ≤ 1000000) {a b : Nat} (ha : a < l.length) (hb : b < l.length) : (rowI l a).getD b false = decB (DI l at_ (a : Int) (b : Int)) := by
 have hre : ∀ x : Nat, (reachL l).getD x false = true ↔ fnI l.length at_ (x : Int) ≠ -1 := fun x => by
  rw [D.re, hs]
  constructor
  ·exact fun h => hasR_at h
  ·intro h; have := h.2.2; rwa [rdOf_nat] at this
 unfold rowI
 by_cases h1 : (reachL l).getD a false = true
 ·rw [if_pos h1, getD_at _ _ (by simpa using hb)]
  simp only [List.getElem_map, List.getElem_range]
  have ra := (hre a).mp h1
  unfold cellI
  by_cases h2 : (reachL l).getD b false = true
  ·have rb := (hre b).mp h2
   rw [h2, Bool.true_and]
   by_cases e : a = b
   ·subst e
    rw [decide_eq_true rfl, decB_true (show DI l at_ a a from ⟨ra, .self ra⟩)]; rfl
   ·rw [decide_eq_false e, Bool.false_or]
    by_cases z : a = 0
    ·subst z
     rw [decide_eq_true rfl, decB_true (show DI l at_ ((0 : Nat) : Int) b from ⟨ra, zero_dom rb⟩)]; rfl
    ·rw [decide_eq_false z, Bool.false_or]
     have hk := noJ_reach (at_ := at_) hn hl z (b := (b : Int)) (by omega)
     have hk2 : (reachL (noJ l a)).getD b false = true ↔ hasR (reachL (noJ l a)) (b : Int) := ⟨fun h => hasR_at h, fun h => by have := h.2.2; rwa [rdOf_nat] at this⟩
     cases hv : (reachL (noJ l a)).getD b false with
     | true => rw [decB_false (fun h => h.2.2 (hk.mp (hk2.mp hv)))]; rfl
     | false => rw [decB_true (show DI l at_ (a : Int) (b : Int) from ⟨ra, rb, fun h => by rw [hk2.mpr (hk.mpr h)] at hv; cases hv⟩)]; rfl
  ·have e2 : (reachL l).getD b false = false := by simpa using h2
   rw [e2, Bool.false_and, decB_false (fun h => h2 ((hre b).mpr h.2.1))]
 ·rw [if_neg h1, decB_false (fun h => h1 ((hre a).mpr h.1)), getD_at _ _ (by simpa using hb)]
  simp
end
end Go.Proofs.Ytclhjalgflebfaa.Q

/- Whom the document picks as nearest; and those under a block. -/
namespace Go.Proofs.Ytclhjalgflebfaa.Q
open Go.RowKit Go.Proofs.YtclhjalgflebfaaW.PrintWords Go.Proofs.YtclhjalgflebfaaW.PrintLast Go.Proofs.YtclhjalgflebfaaW.PrintMore
set_option linter.unusedVariables false
set_option linter.unusedSimpArgs false
section
variable {l : List S40} {o at_ nr : List Int} {s : List Bool}
theorem On.total {nr : Int → Int} {a c x : Int} (h : On nr a x) : On nr c x → On nr a c ∨ On nr c a := by
 induction h with
 | self => exact fun k => .inr k
 | @up x h0 h ih =>
  intro k
  by_cases e : c = x
  ·subst e; exact .inl (.up h0 h)
  ·exact ih (k.next e).2
theorem DI_on (D : Dm l o at_ nr s) {a b : Int} (hb : fnI l.length at_ b ≠ -1) : DI l at_ a b ↔ (fnI l.length at_ a ≠ -1 ∧ On (fnI l.length nr) a b) :=
 ⟨fun h => ⟨h.1, (D.gd.on a b h.1 hb).mpr h.2⟩, fun h => ⟨h.1, (D.gd.on a b h.1 hb).mp h.2⟩⟩
theorem DI_self {b : Int} (hb : fnI l.length at_ b ≠ -1) : DI l at_ b b := ⟨hb, .self hb⟩
theorem DI_trans (D : Dm l o at_ nr s) {a c b : Int} (h : DI l at_ a c) (k : DI l at_ c b) : DI l at_ a b :=
 (DI_on D k.2.1).mpr ⟨h.1, ((DI_on D h.2.1).mp h).2.trans ((DI_on D k.2.1).mp k).2⟩
theorem DI_total (D : Dm l o at_ nr s) {a c b : Int} (h : DI l at_ a b) (k : DI l at_ c b) : DI l at_ a c ∨ DI l at_ c a := by
 rcases ((DI_on D h.2.1).mp h).2.total ((DI_on D k.2.1).mp k).2 with q | q
 ·exact .inl ((DI_on D k.1).mpr ⟨h.1, q⟩)
 ·exact .inr ((DI_on D h.1).mpr ⟨k.1, q⟩)
theorem DI_up (D : Dm l o at_ nr s) {a b : Int} (h : DI l at_ a b) (hne : a ≠ b) : b ≠ 0 ∧ DI l at_ a (fnI l.length nr b) := by
 have hb := h.2.1
 obtain ⟨h1, h2⟩ := ((DI_on D hb).mp h).2.next hne
 exact ⟨h1, (DI_on D (D.gd.tr.known _ (D.gd.tr.up b h1 (D.gd.known b hb)).2)).mpr ⟨h.1, h2⟩⟩
/-- The best one so far. -/
def Bst (l : List S40) (at_ : List Int) (b j : Nat) (best : Int) : Prop :=
 (best = -1 ∧ ∀ c : Nat, c < j → c ≠ b → ¬ DI l at_ c b) ∨ (∃ d : Nat, best = d ∧ d < j ∧ d ≠ b ∧ DI l at_ d b ∧ ∀ c : Nat, c < j → c ≠ b → DI l at_ c b → DI l at_ c d)
theorem bst_skip {b j : Nat} {best : Int} (h : Bst l at_ b j best) (hj : j = b ∨ ¬ DI l at_ j b) : Bst l at_ b (j + 1) best := by
 have key : ∀ c : Nat, c < j + 1 → c ≠ b → DI l at_ c b → c < j := fun c hc hcb hd => by
  rcases Nat.lt_or_ge c j with h1 | h1
  ·exact h1
  ·have e : c = j := by omega
   subst e
   rcases hj with rfl | hn
   ·exact absurd rfl hcb
   ·exact absurd hd hn
 rcases h with ⟨rfl, h⟩ | ⟨d, rfl, h1, h2, h3, h4⟩
 ·exact .inl ⟨rfl, fun c hc hcb hd => h c (key c hc hcb hd) hcb hd⟩
 ·exact .inr ⟨d, rfl, by omega, h2, h3, fun c hc hcb hd => h4 c (key c hc hcb hd) hcb hd⟩
theorem bst_first {b j : Nat} (h : Bst l at_ b j (-1)) (hj : j ≠ b) (hd : DI l at_ j b) : Bst l at_ b (j + 1) j := by
 rcases h with ⟨_, h⟩ | ⟨d, h, _⟩
 ·refine .inr ⟨j, rfl, by omega, hj, hd, fun c hc hcb hcd => ?_⟩
  by_cases e : c = j
  ·subst e; exact DI_self hd.1
  ·exact absurd hcd (h c (by omega) hcb)
 ·omega
theorem bst_turn (D : Dm l o at_ nr s) {b j d : Nat} (h : Bst l at_ b j d) (hj : j ≠ b) (hd : DI l at_ j b) (hk : DI l at_ d j) : Bst l at_ b (j + 1) j := by
 rcases h with ⟨h, _⟩ | ⟨d', e, h1, h2, h3, h4⟩
 ·omega
 ·have e : d = d' := by omega
  subst e
  refine .inr ⟨j, rfl, by omega, hj, hd, fun c hc hcb hcd => ?_⟩
  by_cases e : c = j
  ·subst e; exact DI_self hd.1
  ·exact DI_trans D (h4 c (by omega) hcb hcd) hk
theorem bst_stay (D : Dm l o at_ nr s) {b j d : Nat} (h : Bst l at_ b j d) (hd : DI l at_ j b) (hk : ¬ DI l at_ d j) : Bst l at_ b (j + 1) d := by
 rcases h with ⟨h, _⟩ | ⟨d', e, h1, h2, h3, h4⟩
 ·omega
 ·have e : d = d' := by omega
  subst e
  refine .inr ⟨d, rfl, by omega, h2, h3, fun c hc hcb hcd => ?_⟩
  by_cases e : c = j
  ·subst e
   exact (DI_total D hd h3).resolve_right hk
  ·exact h4 c (by omega) hcb hcd
theorem bst_end (D : Dm l o at_ nr s) {b : Nat} {best : Int} (hb : b < l.length) (h : Bst l at_ b l.length best) : best = rd (nr.set 0 (-1)) b := by
 rw [rd_root D.gd.len (by omega) (by omega)]
 by_cases hr : fnI l.length at_ (b : Int) ≠ -1
 ·by_cases hz : (b : Int) = 0
  ·rw [if_pos hz]
   rcases h with ⟨h, _⟩ | ⟨d, _, _, h2, h3, _⟩
   ·exact h
   ·rw [hz] at h3
    have := dom_zero D.od.gr h3.1 h3.2
    omega
  ·rw [if_neg hz]
   have hu := D.gd.tr.up _ hz (D.gd.known _ hr)
   have hur := D.gd.tr.known _ hu.2
   obtain ⟨u0, u1⟩ := fnI_in hur
   have hdi : DI l at_ (fnI l.length nr (b : Int)) b := (DI_on D hr).mpr ⟨hur, .up hz .self⟩
   have e : ((fnI l.length nr (b : Int)).toNat : Int) = fnI l.length nr (b : Int) := by omega
   have hne : (fnI l.length nr (b : Int)).toNat ≠ b := fun e2 => by
    have e3 : fnI l.length nr (b : Int) = (b : Int) := by omega
    rw [e3] at hu; omega
   rcases h with ⟨_, h⟩ | ⟨d, rfl, h1, h2, h3, h4⟩
   ·exact absurd (by rw [e]; exact hdi) (h _ (by omega) hne)
   ·have q1 := h4 _ (by omega) hne (by rw [e]; exact hdi)
    rw [e] at q1
    have q2 := (DI_up D h3 (by omega)).2
    have a1 := q1.2.le D.od.gr
    have a2 := q2.2.le D.od.gr
    exact D.od.gr.inj _ _ h3.1 (by omega)
 ·have e : fnI l.length nr (b : Int) = -1 := Classical.byContradiction (fun k => hr (D.gd.tr.known _ k))
  rw [e]
  have e2 : best = -1 := by
   rcases h with ⟨h, _⟩ | ⟨d, _, _, _, h3, _⟩
   ·exact h
   ·exact absurd h3.2.1 hr
  rw [e2]; split <;> rfl
end
section
variable (a0 : ByteArray) (l1 : List ByteArray) (a2 : ByteArray) (l3 : List ByteArray) (l4 : List S58) (l : List S40)
theorem wrap_small {x : Int} (h0 : -1000000 ≤ x) (h1 : x ≤ 1000000) : wrap64 x = x := by unfold wrap64; omega
theorem near_l1 {o at_ nr : List Int} {s : List Bool} (D : Dm l o at_ nr s) (hs : reachL l = s) (hn : 0 < l.length) (hl : l.length ≤ 1000000) (x4 : List Int) (hx : x4.length < 17592186044416) (b : Nat) (hb : b < l.length) (q : List Int)
  (hnext : Ev (fun n => truantref10_Nearest.l0 n ((List.range l.length).map (rowI l)) (x4 ++ [rd (nr.set 0 (-1)) b]) (wrap64 ((b : Int) + 1)) a0 l1 a2 l3 l4 l) q) :
  ∀ (d j : Nat) (best : Int), l.length - j = d → j ≤ l.length → Bst l at_ b j best → Ev (fun n => truantref10_Nearest.l1 n ((List.range l.length).map (rowI l)) x4 (b : Int) best (j : Int) a0 l1 a2 l3 l4 l) q := by
 have hlen : ((List.range l.length).map (rowI l)).length = l.length := by simp
 have hrow : ∀ x : Nat, x < l.length → rd_L7 ((List.range l.length).map (rowI l)) (x : Int) = rowI l x := fun x hx => isRow' l hx
 have hc : ∀ x y : Nat, x < l.length → y < l.length → rdOf false (rd_L7 ((List.range l.length).map (rowI l)) (x : Int)) (y : Int) = decB (DI l at_ x y) := fun x y hx hy => by
  rw [hrow x hx, rdOf_nat]; exact cell_is D hs hn hl hx hy
 have hrl : ∀ x : Nat, x < l.length → ((rd_L7 ((List.range l.length).map (rowI l)) (x : Int)).length : Int) = (l.length : Int) := fun x hx => by
  rw [hrow x hx, rowI_len']
 obtain ⟨IS, hIS⟩ : ∃ IS, IS = (List.range l.length).map (rowI l) := ⟨_, rfl⟩
 rw [← hIS] at hlen hrow hc hrl hnext ⊢
 clear hIS hrow
 intro d
 induction d with
 | zero =>
  intro j best hd hj hB
  have e : j = l.length := by omega
  subst e
  rw [← bst_end D hb hB] at hnext
  exact Ev.step (fun k => rfl) (Ev.neg (by omega) (Ev.pos hx hnext))
 | succ d ih =>
  intro j best hd hj hB
  have hlt : j < l.length := by omega
  have wj : wrap64 ((j : Int) + 1) = ((j + 1 : Nat) : Int) := by rw [wrap_small (by omega) (by omega)]; omega
  refine Ev.step (fun k => rfl) (Ev.pos (by omega) ?_)
  rw [wj]
  by_cases e : (j : Int) = (b : Int)
  ·exact Ev.pos e (ih (j + 1) best (by omega) (by omega) (bst_skip hB (.inl (by omega))))
  ·refine Ev.neg e (Ev.pos (by omega) (Ev.pos (by omega) (Ev.pos (by omega) (Ev.pos (by rw [hrl j hlt]; omega) ?_))))
   rw [hc j b hlt hb]
   by_cases h1 : DI l at_ (j : Int) (b : Int)
   ·refine Ev.pos (decB_true h1) ?_
    by_cases h2 : best < 0
    ·have e2 : best = -1 := by
      rcases hB with ⟨h, _⟩ | ⟨d, h, _⟩ <;> omega
     subst e2
     exact Ev.pos h2 (ih (j + 1) (j : Int) (by omega) (by omega) (bst_first hB (by omega) h1))
    ·obtain ⟨d, rfl, hdj⟩ : ∃ d : Nat, best = d ∧ d < j := by
      rcases hB with ⟨h, _⟩ | ⟨d, h, h3, _⟩
      ·omega
      ·exact ⟨d, h, h3⟩
     refine Ev.neg h2 (Ev.pos (by omega) (Ev.pos (by omega) (Ev.pos (by rw [hrl d (by omega)]; omega) ?_)))
     rw [hc d j (by omega) hlt]
     by_cases h3 : DI l at_ (d : Int) (j : Int)
     ·exact Ev.pos (decB_true h3) (ih (j + 1) (j : Int) (by omega) (by omega) (bst_turn D hB (by omega) h1 h3))
     ·exact Ev.neg (by rw [decB_false h3]; simp) (ih (j + 1) (d : Int) (by omega) (by omega) (bst_stay D hB h1 h3))
   ·exact Ev.neg (by rw [decB_false h1]; simp) (ih (j + 1) best (by omega) (by omega) (bst_skip hB (.inr h1)))
theorem refNear {o at_ nr : List Int} {s : List Bool} (D : Dm l o at_ nr s) (hs : reachL l = s) (hn : 0 < l.length) (hl : l.length ≤ 1000000) : Ev (fun k => truantref10_Nearest.f k a0 l1 a2 l3 l4 l) (nr.set 0 (-1)) := by
 unfold truantref10_Nearest.f
 refine Ev.one (show truantref10_Is.f a0 l1 a2 l3 l4 l = some _ from if_pos hl) ?_
 have hml : (nr.set 0 (-1)).length = l.length := by rw [List.length_set]; exact D.gd.len
 obtain ⟨m, hm⟩ : ∃ m, m = nr.set 0 (-1) := ⟨_, rfl⟩
 rw [← hm] at hml ⊢
 have key : ∀ (d b : Nat), l.length - b = d → b ≤ l.length → Ev (fun n => truantref10_Nearest.l0 n ((List.range l.length).map (rowI l)) (m.take b) (b : Int) a0 l1 a2 l3 l4 l) m := by
  intro d
  induction d with
  | zero =>
   intro b hd hb
   rw [List.take_of_length_le (by omega)]
   exact Ev.step (fun k => rfl) (Ev.neg (by omega) (Ev.now _))
  | succ d ih =>
   intro b hd hb
   have hlt : b < l.length := by omega
   have h2 := ih (b + 1) (by omega) (by omega)
   have e : m.take (b + 1) = m.take b ++ [rd (nr.set 0 (-1)) b] := by
    rw [← hm, List.take_succ_eq_append_getElem (by omega)]
    congr 2
    unfold rd
    rw [Int.toNat_natCast, getD_at _ _ (by omega)]
   rw [e] at h2
   have wj : wrap64 ((b : Int) + 1) = ((b + 1 : Nat) : Int) := by rw [wrap_small (by omega) (by omega)]; omega
   rw [← wj] at h2
   exact Ev.step (fun k => rfl) (Ev.pos (by omega) (near_l1 a0 l1 a2 l3 l4 l D hs hn hl (m.take b) (by rw [List.length_take]; omega) b hlt m h2 _ 0 (-1) rfl (Nat.zero_le _) (.inl ⟨rfl, fun c hc => by omega⟩)))
 exact key _ 0 rfl (Nat.zero_le _)
/-- Those of whom x is the nearest one, of those below b. -/
def underTo (m : List Int) (x : Int) : Nat → List Int
 | 0 => []
 | b + 1 => if rd m (b : Int) = x then underTo m x b ++ [(b : Int)] else underTo m x b
def cntM (m : List Int) : Nat → Nat
 | 0 => 0
 | b + 1 => if rd m (b : Int) = -1 then cntM m b else cntM m b + 1
theorem cntM_le (m : List Int) : ∀ b, cntM m b ≤ b
 | 0 => Nat.le_refl _
 | b + 1 => by unfold cntM; have := cntM_le m b; split <;> omega
theorem under_len (m : List Int) (x : Int) : ∀ b, (underTo m x b).length ≤ b
 | 0 => Nat.le_refl _
 | b + 1 => by unfold underTo; have := under_len m x b; split <;> simp <;> omega
theorem under_mem (m : List Int) (x : Int) : ∀ b, ∀ y ∈ underTo m x b, 0 ≤ y ∧ y < (b : Int) ∧ rd m y = x
 | 0, y, h => by cases h
 | b + 1, y, h => by
  unfold underTo at h
  split at h
  ·rename_i e
   rcases List.mem_append.mp h with h | h
   ·have := under_mem m x b y h; exact ⟨this.1, by omega, this.2.2⟩
   ·rw [List.mem_singleton] at h; subst h; exact ⟨by omega, by omega, e⟩
  ·have := under_mem m x b y h; exact ⟨this.1, by omega, this.2.2⟩
theorem under_up (m : List Int) (x : Int) : ∀ b, (underTo m x b).Pairwise (· < ·)
 | 0 => List.Pairwise.nil
 | b + 1 => by
  unfold underTo
  split
  ·refine List.pairwise_append.mpr ⟨under_up m x b, List.pairwise_singleton _ _, fun y hy z hz => ?_⟩
   rw [List.mem_singleton] at hz; subst hz
   exact (under_mem m x b y hy).2.1
  ·exact under_up m x b
def sumR (u : List (List Int)) : Nat := (u.map List.length).sum
theorem sumR_set : ∀ (u : List (List Int)) (i : Nat) (r : List Int), i < u.length → sumR (u.set i r) + (u.getD i []).length = sumR u + r.length
 | [], i, r, h => by simp at h
 | a :: u, 0, r, _ => by simp [sumR]; omega
 | a :: u, i + 1, r, h => by
  have := sumR_set u i r (by simpa using h)
  simp only [sumR, List.set_cons_succ, List.map_cons, List.sum_cons, getD_succ] at this ⊢
  omega
theorem under_ev (m : List Int) (hml : m.length = l.length) (hl : l.length ≤ 1000000) (hm : ∀ b : Nat, b < l.length → rd m b = -1 ∨ (0 ≤ rd m b ∧ rd m b < (l.length : Int))) (hN : dom_Nearest.f a0 l1 a2 l3 l4 l = some m) :
  ∃ u, Ev (fun k => dom_Under.f k a0 l1 a2 l3 l4 l) u ∧ u.length = l.length ∧ (∀ x : Int, 0 ≤ x → x < (l.length : Int) → rd_L2 u x = underTo m x l.length) ∧ sumR u = cntM m l.length := by
 have key : ∀ (d b : Nat) (x3 : List (List Int)), l.length - b = d → b ≤ l.length → x3.length = l.length → (∀ x : Int, 0 ≤ x → x < (l.length : Int) → rd_L2 x3 x = underTo m x b) → sumR x3 = cntM m b →
   ∃ u, Ev (fun k => dom_Under.l0 k x3 m (m.length : Int) (b : Int)) u ∧ u.length = l.length ∧ (∀ x : Int, 0 ≤ x → x < (l.length : Int) → rd_L2 u x = underTo m x l.length) ∧ sumR u = cntM m l.length := by
  intro d
  induction d with
  | zero =>
   intro b x3 hd hb h1 h2 h3
   have e : b = l.length := by omega
   subst e
   exact ⟨x3, Ev.step (fun k => rfl) (Ev.neg (by omega) (Ev.now _)), h1, h2, h3⟩
  | succ d ih =>
   intro b x3 hd hb h1 h2 h3
   have hlt : b < l.length := by omega
   have wj : wrap64 ((b : Int) + 1) = ((b + 1 : Nat) : Int) := by rw [wrap_small (by omega) (by omega)]; omega
   by_cases e : rd m (b : Int) = -1
   ·obtain ⟨u, q1, q2, q3, q4⟩ := ih (b + 1) x3 (by omega) (by omega) h1 (fun x x0 x1 => by
     rw [h2 x x0 x1]; conv => rhs; unfold underTo
     rw [if_neg (by omega)]) (h3.trans (if_pos e).symm)
    refine ⟨u, Ev.step (fun k => rfl) (Ev.pos (by omega) (Ev.pos (by omega) (Ev.pos (by omega) (Ev.pos e ?_)))), q2, q3, q4⟩
    rw [wj]; exact q1
   ·obtain ⟨r0, r1⟩ := (hm b hlt).resolve_left e
    have hlen := under_len m (rd m (b : Int)) b
    have hrow := h2 _ r0 r1
    obtain ⟨u, q1, q2, q3, q4⟩ := ih (b + 1) (x3.set (rd m (b : Int)).toNat (rd_L2 x3 (rd m (b : Int)) ++ [(b : Int)])) (by omega) (by omega) (by rw [List.length_set]; exact h1) (fun x x0 x1 => by
     conv => rhs; unfold underTo
     by_cases ex : rd m (b : Int) = x
     ·rw [if_pos ex, ← ex, ← hrow]
      generalize rd_L2 x3 (rd m (b : Int)) ++ [(b : Int)] = R
      unfold rd_L2
      rw [getD_at _ _ (by rw [List.length_set]; omega), List.getElem_set_self]
     ·rw [if_neg ex, ← h2 x x0 x1]
      generalize rd_L2 x3 (rd m (b : Int)) ++ [(b : Int)] = R
      unfold rd_L2
      rw [List.getD_eq_getElem?_getD, List.getD_eq_getElem?_getD, List.getElem?_set_ne (by omega)]) (by
     have := sumR_set x3 (rd m (b : Int)).toNat (rd_L2 x3 (rd m (b : Int)) ++ [(b : Int)]) (by omega)
     have e2 : x3.getD (rd m (b : Int)).toNat [] = rd_L2 x3 (rd m (b : Int)) := rfl
     rw [e2, List.length_append, List.length_singleton] at this
     unfold cntM
     rw [if_neg e]
     omega)
    refine ⟨u, Ev.step (fun k => rfl) (Ev.pos (by omega) (Ev.pos (by omega) (Ev.pos (by omega) (Ev.neg e (Ev.pos r0 (Ev.pos (by omega) (Ev.pos (by rw [hrow]; omega) ?_))))))), q2, q3, q4⟩
    rw [wj]; exact q1
 obtain ⟨u, q1, q2⟩ := key _ 0 (List.replicate l.length []) rfl (Nat.zero_le _) List.length_replicate (fun x x0 x1 => by
  unfold rd_L2; rw [getD_at _ _ (by rw [List.length_replicate]; omega), List.getElem_replicate]; rfl) (by unfold sumR; simp [cntM])
 refine ⟨u, ?_, q2⟩
 unfold dom_Under.f
 refine Ev.pos (by omega) (Ev.pos (by omega) (Ev.one hN ?_))
 rw [Int.toNat_natCast]
 exact q1
end
end Go.Proofs.Ytclhjalgflebfaa.Q

/- Dom, plain law: the anchor, and what is more than is asked. -/

namespace Go.Proofs.Ytclhjalgflebfaa.Q
open Go.RowKit Go.Proofs.YtclhjalgflebfaaW.PrintWords Go.Proofs.YtclhjalgflebfaaW.PrintLast Go.Proofs.YtclhjalgflebfaaW.PrintMore
set_option linter.unusedVariables false
set_option linter.unusedSimpArgs false
theorem awake_true : Ev (fun k => truantlaw10_awake.f k) true := by
 have h : truantlaw10_awake.f 40 = some true := by kernel_rfl
 exact Ev.of (fun k => truantlaw10_awake.mono k) h
end Go.Proofs.Ytclhjalgflebfaa.Q

