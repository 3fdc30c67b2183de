/- What the row of DomMeets rests on, part 2: contracts of the functions that it reaches, and the plain law. -/
import Derived.Test.YtclhjalgflebfaaJDomMeets1
namespace Go.Proofs.Ytclhjalgflebfaa.Q
open Go.RowKit Go.Proofs.YtclhjalgflebfaaW.PrintWords Go.Proofs.YtclhjalgflebfaaW.PrintLast Go.Proofs.YtclhjalgflebfaaW.PrintMore
attribute [local go_sem] max2_int min2_int max_two min_two max_three min_three max_four min_four   -- for this text's walks alone
set_option linter.unusedVariables false
set_option linter.unusedSimpArgs false

/-! ### truantlaw10_wide: function 39 -/
def truantlaw10_wide.f (a0_0 : ByteArray) (l0_1 : List ByteArray) (a0_2 : ByteArray) (l0_3 : List ByteArray) (l0_4 : List (S58)) (l0_5 : List (S40)) : Option (Bool) := some (decide ((l0_5.length : Int) > 30))
set_option maxHeartbeats 8000000 in
set_option maxRecDepth 100000 in
theorem truantlaw10_wide.calls (a0_0 : ByteArray) (A0_1 : Option Addr) (c0_1 : Nat) (l0_1 : List ByteArray) (a0_2 : ByteArray) (A0_3 : Option Addr) (c0_3 : Nat) (l0_3 : List ByteArray) (A0_4 : Option Addr) (c0_4 : Nat) (l0_4 : List (S58)) (A0_5 : Option Addr) (c0_5 : Nat) (l0_5 : List (S40)) (r : Bool) (w : World) (hr0_1 : Kd.C Kd.string w A0_1 l0_1.length l0_1) (hc0_1 : l0_1.length ≤ c0_1) (hr0_3 : Kd.C Kd.string w A0_3 l0_3.length l0_3) (hc0_3 : l0_3.length ≤ c0_3) (hr0_4 : Kd.C k58 w A0_4 l0_4.length l0_4) (hc0_4 : l0_4.length ≤ c0_4) (hr0_5 : Kd.C k40 w A0_5 l0_5.length l0_5) (hc0_5 : l0_5.length ≤ c0_5) (h : truantlaw10_wide.f a0_0 l0_1 a0_2 l0_3 l0_4 l0_5 = some r) :
  Calls Try.prog 39 #[.agg #[.string a0_0, .slice A0_1 l0_1.length c0_1, .string a0_2, .slice A0_3 l0_3.length c0_3, .slice A0_4 l0_4.length c0_4, .slice A0_5 l0_5.length c0_5]] w fun e w' => e = .returned (.bool r) ∧ Below w.heap.size w w' := by
 have hu26 := Try.underlying26
 have HR0_1 := Aside0.mk hr0_1
 have HC0_1 := Aside0.mk hc0_1
 clear hr0_1 hc0_1
 have HR0_3 := Aside0.mk hr0_3
 have HC0_3 := Aside0.mk hc0_3
 clear hr0_3 hc0_3
 have HR0_4 := Aside0.mk hr0_4
 have HC0_4 := Aside0.mk hc0_4
 clear hr0_4 hc0_4
 have HR0_5 := Aside0.mk hr0_5
 have HC0_5 := Aside0.mk hc0_5
 clear hr0_5 hc0_5
 have HB := Aside0.mk (Below.refl w.heap.size w)
 have H : (some (decide ((l0_5.length : Int) > 30))) = some r := h
 clear h
 obtain rfl := Option.some.inj H
 go_enter Try.func39, Try.ntmps39
 go_wp2_with (first | ((with_reducible refine gate_dst (N := 1) rfl ?_); refine box_event ?hg (N := 1) ?hd (cs := #[.string a0_0, .slice A0_1 l0_1.length c0_1, .string a0_2, .slice A0_3 l0_3.length c0_3, .slice A0_4 l0_4.length c0_4, .slice A0_5 l0_5.length c0_5]) (t := 26) ?hr ?_; (case hd => rfl); (case hg => rfl); (case hr => first | (go_simp; done) | (go_simp; rfl)); intro gb328 hg w2 hbox hb; have n0_ := Aside0.mk (below_step (by repeat (first | (with_reducible first | exact HB.out | apply below_alloc | apply pw_below_drewN | apply below_drew1) | exact HB.out)) hb); have n1_ := Aside0.mk (hbox); have n2_ := Aside0.mk ((by rw [hg]; exact (below_size (by repeat (first | (with_reducible first | exact HB.out | apply below_alloc | apply pw_below_drewN | apply below_drew1) | exact HB.out))) : w.heap.size ≤ gb328)); have n3_ := Aside0.mk ((by rw [hg]; exact (below_size (by repeat (first | (with_reducible first | exact HB.out | apply below_alloc | apply pw_below_drewN | apply below_drew1) | exact HB.out))) : w.heap.size ≤ gb328)); clear HB; have HB := n0_; have BK328 := n1_; have GW328 := n2_; have GE328 := n3_; clear n0_ n1_ n2_ n3_; clear hb hbox hg; have hcz3_0 : w2.cell? ⟨gb328, 0, none⟩ = some (.string a0_0) := (blk_cell BK328.out 0).trans rfl; have hcz3_1 : w2.cell? ⟨gb328, 1, none⟩ = some (.slice A0_1 l0_1.length c0_1) := (blk_cell BK328.out 1).trans rfl; have hcz3_2 : w2.cell? ⟨gb328, 2, none⟩ = some (.string a0_2) := (blk_cell BK328.out 2).trans rfl; have hcz3_3 : w2.cell? ⟨gb328, 3, none⟩ = some (.slice A0_3 l0_3.length c0_3) := (blk_cell BK328.out 3).trans rfl; have hcz3_4 : w2.cell? ⟨gb328, 4, none⟩ = some (.slice A0_4 l0_4.length c0_4) := (blk_cell BK328.out 4).trans rfl; have hcz3_5 : w2.cell? ⟨gb328, 5, none⟩ = some (.slice A0_5 l0_5.length c0_5) := (blk_cell BK328.out 5).trans rfl; have hfz3_0 := blk_frozen BK328.out 0; have hfz3_1 := blk_frozen BK328.out 1; have hfz3_2 := blk_frozen BK328.out 2; have hfz3_3 := blk_frozen BK328.out 3; have hfz3_4 := blk_frozen BK328.out 4; have hfz3_5 := blk_frozen BK328.out 5))
 go_ret
 exact ⟨by first | rfl | (simp [errW_none, errW_some] <;> rfl) | (simp [*, errW_none, errW_some] <;> rfl), by repeat (first | (with_reducible first | exact HB.out | apply below_alloc | apply pw_below_drewN | apply below_drew1 | refine below_set ?_ GE328.out) | exact HB.out)⟩

end Go.Proofs.Ytclhjalgflebfaa.Q

namespace Go.Proofs.Ytclhjalgflebfaa.Q
open Go.RowKit Go.Proofs.YtclhjalgflebfaaW.PrintWords Go.Proofs.YtclhjalgflebfaaW.PrintLast Go.Proofs.YtclhjalgflebfaaW.PrintMore
attribute [local go_sem] max2_int min2_int max_two min_two max_three min_three max_four min_four   -- for this text's walks alone
set_option linter.unusedVariables false
set_option linter.unusedSimpArgs false

/-! ### truantlaw10_DomMeets: function 13 -/
mutual
def truantlaw10_DomMeets.l0 : Nat → List (List Int) → List Bool → List (List Int) → Int → ByteArray → List ByteArray → ByteArray → List ByteArray → List (S58) → List (S40) → Option (Bool)
 | 0, _, _, _, _, _, _, _, _, _, _ => none
 | k + 1, x3, x4, x5, x6, x467000, x467001, x467002, x467003, x467004, x467005 => if x6 < (x3.length : Int) then (truantlaw10_DomMeets.l1 k x3 x4 x5 x6 0 x467000 x467001 x467002 x467003 x467004 x467005) else (some true)
def truantlaw10_DomMeets.l1 : Nat → List (List Int) → List Bool → List (List Int) → Int → Int → ByteArray → List ByteArray → ByteArray → List ByteArray → List (S58) → List (S40) → Option (Bool)
 | 0, _, _, _, _, _, _, _, _, _, _, _ => none
 | k + 1, x3, x4, x5, x6, x7, x467000, x467001, x467002, x467003, x467004, x467005 => if 0 ≤ x6 then (if x6 < (x3.length : Int) then (if x7 < ((rd_L2 x3 x6).length : Int) then (if 0 ≤ x7 then (truantlaw10_DomMeets.l2 k x3 x4 x5 x6 x7 (rd (rd_L2 x3 x6) x7) 0 false 0 x467000 x467001 x467002 x467003 x467004 x467005) else (none)) else (truantlaw10_DomMeets.l0 k x3 x4 x5 (wrap64 (x6 + 1)) x467000 x467001 x467002 x467003 x467004 x467005)) else (none)) else (none)
def truantlaw10_DomMeets.l2 : Nat → List (List Int) → List Bool → List (List Int) → Int → Int → Int → Int → Bool → Int → ByteArray → List ByteArray → ByteArray → List ByteArray → List (S58) → List (S40) → Option (Bool)
 | 0, _, _, _, _, _, _, _, _, _, _, _, _, _, _, _ => none
 | k + 1, x3, x4, x5, x6, x7, x8, x9, x10, x11, x467000, x467001, x467002, x467003, x467004, x467005 => if 0 ≤ x8 then (if x8 < (x5.length : Int) then (if x11 < ((rd_L2 x5 x8).length : Int) then (if 0 ≤ x11 then (if 0 ≤ (rd (rd_L2 x5 x8) x11) then (if (rd (rd_L2 x5 x8) x11) < (x4.length : Int) then (if rdOf false x4 (rd (rd_L2 x5 x8) x11) = true then (if x10 = true then (truantlaw10_DomMeets.l2 k x3 x4 x5 x6 x7 x8 (wrap64 (x9 + 1)) true (wrap64 (x11 + 1)) x467000 x467001 x467002 x467003 x467004 x467005) else ((dom_Is.f x467000 x467001 x467002 x467003 x467004 x467005 x6 (rd (rd_L2 x5 x8) x11)).bind fun t487 => (truantlaw10_DomMeets.l2 k x3 x4 x5 x6 x7 x8 (wrap64 (x9 + 1)) t487 (wrap64 (x11 + 1)) x467000 x467001 x467002 x467003 x467004 x467005))) else (if x10 = true then (truantlaw10_DomMeets.l2 k x3 x4 x5 x6 x7 x8 x9 true (wrap64 (x11 + 1)) x467000 x467001 x467002 x467003 x467004 x467005) else ((dom_Is.f x467000 x467001 x467002 x467003 x467004 x467005 x6 (rd (rd_L2 x5 x8) x11)).bind fun t490 => (truantlaw10_DomMeets.l2 k x3 x4 x5 x6 x7 x8 x9 t490 (wrap64 (x11 + 1)) x467000 x467001 x467002 x467003 x467004 x467005)))) else (none)) else (none)) else (none)) else (if x10 = true then (if x8 = 0 then (truantlaw10_DomMeets.l1 k x3 x4 x5 x6 (wrap64 (x7 + 1)) x467000 x467001 x467002 x467003 x467004 x467005) else (if x9 < 2 then (none) else (truantlaw10_DomMeets.l1 k x3 x4 x5 x6 (wrap64 (x7 + 1)) x467000 x467001 x467002 x467003 x467004 x467005))) else (none))) else (none)) else (none)
end
def truantlaw10_DomMeets.f (k : Nat) (a0_0 : ByteArray) (l0_1 : List ByteArray) (a0_2 : ByteArray) (l0_3 : List ByteArray) (l0_4 : List (S58)) (l0_5 : List (S40)) : Option (Bool) := (truantlaw10_awake.f k).bind fun t467 => (if t467 = true then ((truantlaw10_wide.f a0_0 l0_1 a0_2 l0_3 l0_4 l0_5).bind fun t468 => (if t468 = true then (some true) else ((dom_Front.f a0_0 l0_1 a0_2 l0_3 l0_4 l0_5).bind fun t469 => ((flow_Reached.f a0_0 l0_1 a0_2 l0_3 l0_4 l0_5).bind fun t472 => ((flow_Ahead.f k a0_0 l0_1 a0_2 l0_3 l0_4 l0_5).bind fun t475 => (truantlaw10_DomMeets.l0 k t469 t472 t475 0 a0_0 l0_1 a0_2 l0_3 l0_4 l0_5)))))) else (none))
theorem truantlaw10_DomMeets.mono_l : ∀ k, (∀ y0 y1 y2 y3 y4 y5 y6 y7 y8 y9, LeO (truantlaw10_DomMeets.l0 k y0 y1 y2 y3 y4 y5 y6 y7 y8 y9) (truantlaw10_DomMeets.l0 (k + 1) y0 y1 y2 y3 y4 y5 y6 y7 y8 y9)) ∧ (∀ y0 y1 y2 y3 y4 y5 y6 y7 y8 y9 y10, LeO (truantlaw10_DomMeets.l1 k y0 y1 y2 y3 y4 y5 y6 y7 y8 y9 y10) (truantlaw10_DomMeets.l1 (k + 1) y0 y1 y2 y3 y4 y5 y6 y7 y8 y9 y10)) ∧ (∀ y0 y1 y2 y3 y4 y5 y6 y7 y8 y9 y10 y11 y12 y13 y14, LeO (truantlaw10_DomMeets.l2 k y0 y1 y2 y3 y4 y5 y6 y7 y8 y9 y10 y11 y12 y13 y14) (truantlaw10_DomMeets.l2 (k + 1) y0 y1 y2 y3 y4 y5 y6 y7 y8 y9 y10 y11 y12 y13 y14))
 | 0 => ⟨fun _ _ _ _ _ _ _ _ _ _ r h => by simp [truantlaw10_DomMeets.l0] at h, fun _ _ _ _ _ _ _ _ _ _ _ r h => by simp [truantlaw10_DomMeets.l1] at h, fun _ _ _ _ _ _ _ _ _ _ _ _ _ _ _ r h => by simp [truantlaw10_DomMeets.l2] at h⟩
 | k + 1 => by
  obtain ⟨ih0, ih1, ih2⟩ := truantlaw10_DomMeets.mono_l k
  refine ⟨?_, ?_, ?_⟩
  ·intro y0 y1 y2 y3 y4 y5 y6 y7 y8 y9
   unfold truantlaw10_DomMeets.l0
   repeat' first
   | (with_reducible exact ih0 _ _ _ _ _ _ _ _ _ _)
   | (with_reducible exact ih1 _ _ _ _ _ _ _ _ _ _ _)
   | (with_reducible exact ih2 _ _ _ _ _ _ _ _ _ _ _ _ _ _ _)
   | (with_reducible exact flow_Ahead.mono _ _ _ _ _ _ _)
   | (with_reducible exact truantlaw10_awake.mono _)
   | (with_reducible exact LeO.refl _)
   | (with_reducible exact LeO.none _)
   | (with_reducible refine LeO.ite ?_ ?_)
   | (with_reducible refine LeO.bind ?_ (fun _ => ?_))
   | exact ih0 _ _ _ _ _ _ _ _ _ _
   | exact ih1 _ _ _ _ _ _ _ _ _ _ _
   | exact ih2 _ _ _ _ _ _ _ _ _ _ _ _ _ _ _
   | exact flow_Ahead.mono _ _ _ _ _ _ _
   | exact truantlaw10_awake.mono _
   | exact LeO.none _
   | refine LeO.ite ?_ ?_
   | refine LeO.bind ?_ (fun _ => ?_)
  ·intro y0 y1 y2 y3 y4 y5 y6 y7 y8 y9 y10
   unfold truantlaw10_DomMeets.l1
   repeat' first
   | (with_reducible exact ih0 _ _ _ _ _ _ _ _ _ _)
   | (with_reducible exact ih1 _ _ _ _ _ _ _ _ _ _ _)
   | (with_reducible exact ih2 _ _ _ _ _ _ _ _ _ _ _ _ _ _ _)
   | (with_reducible exact flow_Ahead.mono _ _ _ _ _ _ _)
   | (with_reducible exact truantlaw10_awake.mono _)
   | (with_reducible exact LeO.refl _)
   | (with_reducible exact LeO.none _)
   | (with_reducible refine LeO.ite ?_ ?_)
   | (with_reducible refine LeO.bind ?_ (fun _ => ?_))
   | exact ih0 _ _ _ _ _ _ _ _ _ _
   | exact ih1 _ _ _ _ _ _ _ _ _ _ _
   | exact ih2 _ _ _ _ _ _ _ _ _ _ _ _ _ _ _
   | exact flow_Ahead.mono _ _ _ _ _ _ _
   | exact truantlaw10_awake.mono _
   | exact LeO.none _
   | refine LeO.ite ?_ ?_
   | refine LeO.bind ?_ (fun _ => ?_)
  ·intro y0 y1 y2 y3 y4 y5 y6 y7 y8 y9 y10 y11 y12 y13 y14
   unfold truantlaw10_DomMeets.l2
   repeat' first
   | (with_reducible exact ih0 _ _ _ _ _ _ _ _ _ _)
   | (with_reducible exact ih1 _ _ _ _ _ _ _ _ _ _ _)
   | (with_reducible exact ih2 _ _ _ _ _ _ _ _ _ _ _ _ _ _ _)
   | (with_reducible exact flow_Ahead.mono _ _ _ _ _ _ _)
   | (with_reducible exact truantlaw10_awake.mono _)
   | (with_reducible exact LeO.refl _)
   | (with_reducible exact LeO.none _)
   | (with_reducible refine LeO.ite ?_ ?_)
   | (with_reducible refine LeO.bind ?_ (fun _ => ?_))
   | exact ih0 _ _ _ _ _ _ _ _ _ _
   | exact ih1 _ _ _ _ _ _ _ _ _ _ _
   | exact ih2 _ _ _ _ _ _ _ _ _ _ _ _ _ _ _
   | exact flow_Ahead.mono _ _ _ _ _ _ _
   | exact truantlaw10_awake.mono _
   | exact LeO.none _
   | refine LeO.ite ?_ ?_
   | refine LeO.bind ?_ (fun _ => ?_)
theorem truantlaw10_DomMeets.mono : ∀ a0 a1 a2 a3 a4 a5 k, LeO (truantlaw10_DomMeets.f k a0 a1 a2 a3 a4 a5) (truantlaw10_DomMeets.f (k + 1) a0 a1 a2 a3 a4 a5) := by
 intro a0 a1 a2 a3 a4 a5 k
 obtain ⟨ih0, ih1, ih2⟩ := truantlaw10_DomMeets.mono_l k
 unfold truantlaw10_DomMeets.f
 repeat' first
   | (with_reducible exact ih0 _ _ _ _ _ _ _ _ _ _)
   | (with_reducible exact ih1 _ _ _ _ _ _ _ _ _ _ _)
   | (with_reducible exact ih2 _ _ _ _ _ _ _ _ _ _ _ _ _ _ _)
   | (with_reducible exact flow_Ahead.mono _ _ _ _ _ _ _)
   | (with_reducible exact truantlaw10_awake.mono _)
   | (with_reducible exact LeO.refl _)
   | (with_reducible exact LeO.none _)
   | (with_reducible refine LeO.ite ?_ ?_)
   | (with_reducible refine LeO.bind ?_ (fun _ => ?_))
   | exact ih0 _ _ _ _ _ _ _ _ _ _
   | exact ih1 _ _ _ _ _ _ _ _ _ _ _
   | exact ih2 _ _ _ _ _ _ _ _ _ _ _ _ _ _ _
   | exact flow_Ahead.mono _ _ _ _ _ _ _
   | exact truantlaw10_awake.mono _
   | exact LeO.none _
   | refine LeO.ite ?_ ?_
   | refine LeO.bind ?_ (fun _ => ?_)
def truantlaw10_DomMeets.T22 : Bool × List (List Nat × List Nat) := (true, [([], []), ([0], [0]), ([1], [1]), ([1], [1]), ([1], [1]), ([1], [1]), ([4, 5, 1], [1, 4, 5]), ([6, 1], [1, 6]), ([1], [1]), ([7, 8, 1], [1, 7, 8]), ([9, 1], [1, 9]), ([2, 3, 10, 1, 1], [1, 2, 3, 10]), ([1, 11], [1, 11]), ([12, 11, 0, 1, 2, 3, 4, 5, 6, 7, 8, 9, 10, 11, 12], [0, 12])])
def truantlaw10_DomMeets.B22 : List Nat := [0, 1, 3, 3, 3, 3, 51, 115, 3, 499, 1011, 2047, 4095, 8191]
theorem truantlaw10_DomMeets.tab22 : rtab .any (opsOf Try.f13 22) = truantlaw10_DomMeets.T22 := by kernel_rfl
theorem truantlaw10_DomMeets.bits22 : waitsOk truantlaw10_DomMeets.T22.2 truantlaw10_DomMeets.B22 = true := by kernel_rfl
set_option maxHeartbeats 8000000 in
set_option maxRecDepth 100000 in
theorem truantlaw10_DomMeets.calls (k : Nat) (a0_0 : ByteArray) (A0_1 : Option Addr) (c0_1 : Nat) (l0_1 : List ByteArray) (a0_2 : ByteArray) (A0_3 : Option Addr) (c0_3 : Nat) (l0_3 : List ByteArray) (A0_4 : Option Addr) (c0_4 : Nat) (l0_4 : List (S58)) (A0_5 : Option Addr) (c0_5 : Nat) (l0_5 : List (S40)) (r : Bool) (w : World) (hr0_1 : Kd.C Kd.string w A0_1 l0_1.length l0_1) (hc0_1 : l0_1.length ≤ c0_1) (hr0_3 : Kd.C Kd.string w A0_3 l0_3.length l0_3) (hc0_3 : l0_3.length ≤ c0_3) (hr0_4 : Kd.C k58 w A0_4 l0_4.length l0_4) (hc0_4 : l0_4.length ≤ c0_4) (hr0_5 : Kd.C k40 w A0_5 l0_5.length l0_5) (hc0_5 : l0_5.length ≤ c0_5) (h : truantlaw10_DomMeets.f k a0_0 l0_1 a0_2 l0_3 l0_4 l0_5 = some r) :
  Calls Try.prog 13 #[.agg #[.string a0_0, .slice A0_1 l0_1.length c0_1, .string a0_2, .slice A0_3 l0_3.length c0_3, .slice A0_4 l0_4.length c0_4, .slice A0_5 l0_5.length c0_5]] w fun e w' => e = .returned (.bool r) ∧ Below w.heap.size w w' := by
 have hu26 := Try.underlying26
 have HR0_1 := Aside0.mk hr0_1
 have HC0_1 := Aside0.mk hc0_1
 clear hr0_1 hc0_1
 have HR0_3 := Aside0.mk hr0_3
 have HC0_3 := Aside0.mk hc0_3
 clear hr0_3 hc0_3
 have HR0_4 := Aside0.mk hr0_4
 have HC0_4 := Aside0.mk hc0_4
 clear hr0_4 hc0_4
 have HR0_5 := Aside0.mk hr0_5
 have HC0_5 := Aside0.mk hc0_5
 clear hr0_5 hc0_5
 have HB := Aside0.mk (Below.refl w.heap.size w)
 have H : ((truantlaw10_awake.f k).bind fun t467 => (if t467 = true then ((truantlaw10_wide.f a0_0 l0_1 a0_2 l0_3 l0_4 l0_5).bind fun t468 => (if t468 = true then (some true) else ((dom_Front.f a0_0 l0_1 a0_2 l0_3 l0_4 l0_5).bind fun t469 => ((flow_Reached.f a0_0 l0_1 a0_2 l0_3 l0_4 l0_5).bind fun t472 => ((flow_Ahead.f k a0_0 l0_1 a0_2 l0_3 l0_4 l0_5).bind fun t475 => (truantlaw10_DomMeets.l0 k t469 t472 t475 0 a0_0 l0_1 a0_2 l0_3 l0_4 l0_5)))))) else (none))) = some r := h
 clear h
 replace H := Option.bind_eq_some_iff.mp H
 obtain ⟨t467, A20, H⟩ := H
 replace H : (if t467 = true then ((truantlaw10_wide.f a0_0 l0_1 a0_2 l0_3 l0_4 l0_5).bind fun t468 => (if t468 = true then (some true) else ((dom_Front.f a0_0 l0_1 a0_2 l0_3 l0_4 l0_5).bind fun t469 => ((flow_Reached.f a0_0 l0_1 a0_2 l0_3 l0_4 l0_5).bind fun t472 => ((flow_Ahead.f k a0_0 l0_1 a0_2 l0_3 l0_4 l0_5).bind fun t475 => (truantlaw10_DomMeets.l0 k t469 t472 t475 0 a0_0 l0_1 a0_2 l0_3 l0_4 l0_5)))))) else (none)) = some r := H
 have A2 := Aside0.mk A20
 clear A20
 by_cases c3 : t467 = true
 ·subst c3
  have H1 : ((truantlaw10_wide.f a0_0 l0_1 a0_2 l0_3 l0_4 l0_5).bind fun t468 => (if t468 = true then (some true) else ((dom_Front.f a0_0 l0_1 a0_2 l0_3 l0_4 l0_5).bind fun t469 => ((flow_Reached.f a0_0 l0_1 a0_2 l0_3 l0_4 l0_5).bind fun t472 => ((flow_Ahead.f k a0_0 l0_1 a0_2 l0_3 l0_4 l0_5).bind fun t475 => (truantlaw10_DomMeets.l0 k t469 t472 t475 0 a0_0 l0_1 a0_2 l0_3 l0_4 l0_5)))))) = some r := by rw [if_pos rfl] at H; exact H
  clear H
  have H := H1
  clear H1
  replace H := Option.bind_eq_some_iff.mp H
  obtain ⟨t468, A40, H⟩ := H
  replace H : (if t468 = true then (some true) else ((dom_Front.f a0_0 l0_1 a0_2 l0_3 l0_4 l0_5).bind fun t469 => ((flow_Reached.f a0_0 l0_1 a0_2 l0_3 l0_4 l0_5).bind fun t472 => ((flow_Ahead.f k a0_0 l0_1 a0_2 l0_3 l0_4 l0_5).bind fun t475 => (truantlaw10_DomMeets.l0 k t469 t472 t475 0 a0_0 l0_1 a0_2 l0_3 l0_4 l0_5))))) = some r := H
  have A4 := Aside0.mk A40
  clear A40
  by_cases c5 : t468 = true
  ·subst c5
   have H1 : (some true) = some r := by rw [if_pos rfl] at H; exact H
   clear H
   have H := H1
   clear H1
   obtain rfl := Option.some.inj H
   go_enter Try.func13, Try.ntmps13
   go_wp2_with (first | ((with_reducible refine gate_dst (N := 1) rfl ?_); refine box_event ?hg (N := 1) ?hd (cs := #[.string a0_0, .slice A0_1 l0_1.length c0_1, .string a0_2, .slice A0_3 l0_3.length c0_3, .slice A0_4 l0_4.length c0_4, .slice A0_5 l0_5.length c0_5]) (t := 26) ?hr ?_; (case hd => rfl); (case hg => rfl); (case hr => first | (go_simp; done) | (go_simp; rfl)); intro gb466 hg w6 hbox hb; have n0_ := Aside0.mk (below_step (by repeat (first | (with_reducible first | exact HB.out | apply below_alloc | apply pw_below_drewN | apply below_drew1) | exact HB.out)) hb); have n1_ := Aside0.mk (hbox); have n2_ := Aside0.mk ((by rw [hg]; exact (below_size (by repeat (first | (with_reducible first | exact HB.out | apply below_alloc | apply pw_below_drewN | apply below_drew1) | exact HB.out))) : w.heap.size ≤ gb466)); have n3_ := Aside0.mk ((by rw [hg]; exact (below_size (by repeat (first | (with_reducible first | exact HB.out | apply below_alloc | apply pw_below_drewN | apply below_drew1) | exact HB.out))) : w.heap.size ≤ gb466)); clear HB; have HB := n0_; have BK466 := n1_; have GW466 := n2_; have GE466 := n3_; clear n0_ n1_ n2_ n3_; clear hb hbox hg) | ((with_reducible refine gate_callee (f := 38) rfl ?_); refine goesL_ (some 12) rfl rfl Try.func38 (by kernel_rfl) rfl #[] rfl (by (try simp only [List.map_toArray, List.map_cons, List.map_nil]); first | done | rfl | (simp only [List.length_drop, List.length_take]; rfl)) ?_; (with_reducible refine (truantlaw10_awake.calls k  true _ A2.out).mono ?_); rintro e w7 ⟨rfl, hb⟩; refine ⟨_, rfl, ?_⟩; have n0_ := Aside0.mk (blk_below (g := gb466) (o := .cells #[.string a0_0, .slice A0_1 l0_1.length c0_1, .string a0_2, .slice A0_3 l0_3.length c0_3, .slice A0_4 l0_4.length c0_4, .slice A0_5 l0_5.length c0_5] 26 (0, 0)) (by (with_reducible repeat (first | refine blk_drewN ?_ _ | refine blk_drew ?_ | refine blk_alloc ?_ _)); exact BK466.out) hb); have n1_ := Aside0.mk (below_step (by repeat (first | (with_reducible first | exact HB.out | apply below_alloc | apply pw_below_drewN | apply below_drew1 | refine below_set ?_ GE466.out) | exact HB.out)) hb); clear BK466; clear HB; have BK466 := n0_; have HB := n1_; clear n0_ n1_; (try clear hb); (try clear hb2); (try clear hk); (try clear hi); have hcz8_0 : w7.cell? ⟨gb466, 0, none⟩ = some (.string a0_0) := (blk_cell BK466.out 0).trans rfl; have hcz8_1 : w7.cell? ⟨gb466, 1, none⟩ = some (.slice A0_1 l0_1.length c0_1) := (blk_cell BK466.out 1).trans rfl; have hcz8_2 : w7.cell? ⟨gb466, 2, none⟩ = some (.string a0_2) := (blk_cell BK466.out 2).trans rfl; have hcz8_3 : w7.cell? ⟨gb466, 3, none⟩ = some (.slice A0_3 l0_3.length c0_3) := (blk_cell BK466.out 3).trans rfl; have hcz8_4 : w7.cell? ⟨gb466, 4, none⟩ = some (.slice A0_4 l0_4.length c0_4) := (blk_cell BK466.out 4).trans rfl; have hcz8_5 : w7.cell? ⟨gb466, 5, none⟩ = some (.slice A0_5 l0_5.length c0_5) := (blk_cell BK466.out 5).trans rfl; have hfz8_0 := blk_frozen BK466.out 0; have hfz8_1 := blk_frozen BK466.out 1; have hfz8_2 := blk_frozen BK466.out 2; have hfz8_3 := blk_frozen BK466.out 3; have hfz8_4 := blk_frozen BK466.out 4; have hfz8_5 := blk_frozen BK466.out 5) | ((with_reducible refine gate_callee (f := 39) rfl ?_); refine goesL_ (some 15) rfl rfl Try.func39 (by kernel_rfl) rfl #[.agg #[.string a0_0, .slice A0_1 l0_1.length c0_1, .string a0_2, .slice A0_3 l0_3.length c0_3, .slice A0_4 l0_4.length c0_4, .slice A0_5 l0_5.length c0_5]] rfl (by (try simp only [List.map_toArray, List.map_cons, List.map_nil]); first | done | rfl | (simp only [List.length_drop, List.length_take]; rfl)) ?_; (with_reducible refine (truantlaw10_wide.calls a0_0 _ _ l0_1 a0_2 _ _ l0_3 _ _ l0_4 _ _ l0_5 true _ ?side1 ?side2 ?side3 ?side4 ?side5 ?side6 ?side7 ?side8 A4.out).mono ?_); (case side1 => repeat (first | exact (Kd.C_below HR0_1.out HB.out) | (with_reducible refine Kd.C_alloc ?_ _) | (with_reducible refine Kd.C_drewN ?_ _) | (with_reducible refine Kd.C_drew ?_))); (case side2 => exact HC0_1.out); (case side3 => repeat (first | exact (Kd.C_below HR0_3.out HB.out) | (with_reducible refine Kd.C_alloc ?_ _) | (with_reducible refine Kd.C_drewN ?_ _) | (with_reducible refine Kd.C_drew ?_))); (case side4 => exact HC0_3.out); (case side5 => repeat (first | exact (Kd.C_below HR0_4.out HB.out) | (with_reducible refine Kd.C_alloc ?_ _) | (with_reducible refine Kd.C_drewN ?_ _) | (with_reducible refine Kd.C_drew ?_))); (case side6 => exact HC0_4.out); (case side7 => repeat (first | exact (Kd.C_below HR0_5.out HB.out) | (with_reducible refine Kd.C_alloc ?_ _) | (with_reducible refine Kd.C_drewN ?_ _) | (with_reducible refine Kd.C_drew ?_))); (case side8 => exact HC0_5.out); rintro e w9 ⟨rfl, hb⟩; refine ⟨_, rfl, ?_⟩; have n0_ := Aside0.mk (blk_below (g := gb466) (o := .cells #[.string a0_0, .slice A0_1 l0_1.length c0_1, .string a0_2, .slice A0_3 l0_3.length c0_3, .slice A0_4 l0_4.length c0_4, .slice A0_5 l0_5.length c0_5] 26 (0, 0)) (by (with_reducible repeat (first | refine blk_drewN ?_ _ | refine blk_drew ?_ | refine blk_alloc ?_ _)); exact BK466.out) hb); have n1_ := Aside0.mk (below_step (by repeat (first | (with_reducible first | exact HB.out | apply below_alloc | apply pw_below_drewN | apply below_drew1 | refine below_set ?_ GE466.out) | exact HB.out)) hb); clear BK466; clear HB; have BK466 := n0_; have HB := n1_; clear n0_ n1_; (try clear hb); (try clear hb2); (try clear hk); (try clear hi)))
   go_ret
   exact ⟨by first | rfl | (simp [errW_none, errW_some] <;> rfl) | (simp [*, errW_none, errW_some] <;> rfl), by repeat (first | (with_reducible first | exact HB.out | apply below_alloc | apply pw_below_drewN | apply below_drew1 | refine below_set ?_ GE466.out) | exact HB.out)⟩
  ·replace c5 := Bool.eq_false_iff.mpr c5
   subst c5
   have H1 : ((dom_Front.f a0_0 l0_1 a0_2 l0_3 l0_4 l0_5).bind fun t469 => ((flow_Reached.f a0_0 l0_1 a0_2 l0_3 l0_4 l0_5).bind fun t472 => ((flow_Ahead.f k a0_0 l0_1 a0_2 l0_3 l0_4 l0_5).bind fun t475 => (truantlaw10_DomMeets.l0 k t469 t472 t475 0 a0_0 l0_1 a0_2 l0_3 l0_4 l0_5)))) = some r := by rw [if_neg (show ¬ (false = true) by decide)] at H; exact H
   clear H
   have H := H1
   clear H1
   replace H := Option.bind_eq_some_iff.mp H
   obtain ⟨t469, A100, H⟩ := H
   replace H : ((flow_Reached.f a0_0 l0_1 a0_2 l0_3 l0_4 l0_5).bind fun t472 => ((flow_Ahead.f k a0_0 l0_1 a0_2 l0_3 l0_4 l0_5).bind fun t475 => (truantlaw10_DomMeets.l0 k t469 t472 t475 0 a0_0 l0_1 a0_2 l0_3 l0_4 l0_5))) = some r := H
   have A10 := Aside0.mk A100
   clear A100
   replace H := Option.bind_eq_some_iff.mp H
   obtain ⟨t472, A110, H⟩ := H
   replace H : ((flow_Ahead.f k a0_0 l0_1 a0_2 l0_3 l0_4 l0_5).bind fun t475 => (truantlaw10_DomMeets.l0 k t469 t472 t475 0 a0_0 l0_1 a0_2 l0_3 l0_4 l0_5)) = some r := H
   have A11 := Aside0.mk A110
   clear A110
   replace H := Option.bind_eq_some_iff.mp H
   obtain ⟨t475, A120, H⟩ := H
   replace H : (truantlaw10_DomMeets.l0 k t469 t472 t475 0 a0_0 l0_1 a0_2 l0_3 l0_4 l0_5) = some r := H
   have A12 := Aside0.mk A120
   clear A120
   have H' := Aside0.mk H
   clear H
   go_enter Try.func13, Try.ntmps13
   go_wp2_with (first | ((with_reducible refine gate_dst (N := 1) rfl ?_); refine box_event ?hg (N := 1) ?hd (cs := #[.string a0_0, .slice A0_1 l0_1.length c0_1, .string a0_2, .slice A0_3 l0_3.length c0_3, .slice A0_4 l0_4.length c0_4, .slice A0_5 l0_5.length c0_5]) (t := 26) ?hr ?_; (case hd => rfl); (case hg => rfl); (case hr => first | (go_simp; done) | (go_simp; rfl)); intro gb466 hg w13 hbox hb; have n0_ := Aside0.mk (below_step (by repeat (first | (with_reducible first | exact HB.out | apply below_alloc | apply pw_below_drewN | apply below_drew1) | exact HB.out)) hb); have n1_ := Aside0.mk (hbox); have n2_ := Aside0.mk ((by rw [hg]; exact (below_size (by repeat (first | (with_reducible first | exact HB.out | apply below_alloc | apply pw_below_drewN | apply below_drew1) | exact HB.out))) : w.heap.size ≤ gb466)); have n3_ := Aside0.mk ((by rw [hg]; exact (below_size (by repeat (first | (with_reducible first | exact HB.out | apply below_alloc | apply pw_below_drewN | apply below_drew1) | exact HB.out))) : w.heap.size ≤ gb466)); clear HB; have HB := n0_; have BK466 := n1_; have GW466 := n2_; have GE466 := n3_; clear n0_ n1_ n2_ n3_; clear hb hbox hg) | ((with_reducible refine gate_callee (f := 38) rfl ?_); refine goesL_ (some 12) rfl rfl Try.func38 (by kernel_rfl) rfl #[] rfl (by (try simp only [List.map_toArray, List.map_cons, List.map_nil]); first | done | rfl | (simp only [List.length_drop, List.length_take]; rfl)) ?_; (with_reducible refine (truantlaw10_awake.calls k  true _ A2.out).mono ?_); rintro e w14 ⟨rfl, hb⟩; refine ⟨_, rfl, ?_⟩; have n0_ := Aside0.mk (blk_below (g := gb466) (o := .cells #[.string a0_0, .slice A0_1 l0_1.length c0_1, .string a0_2, .slice A0_3 l0_3.length c0_3, .slice A0_4 l0_4.length c0_4, .slice A0_5 l0_5.length c0_5] 26 (0, 0)) (by (with_reducible repeat (first | refine blk_drewN ?_ _ | refine blk_drew ?_ | refine blk_alloc ?_ _)); exact BK466.out) hb); have n1_ := Aside0.mk (below_step (by repeat (first | (with_reducible first | exact HB.out | apply below_alloc | apply pw_below_drewN | apply below_drew1 | refine below_set ?_ GE466.out) | exact HB.out)) hb); clear BK466; clear HB; have BK466 := n0_; have HB := n1_; clear n0_ n1_; (try clear hb); (try clear hb2); (try clear hk); (try clear hi); have hcz15_0 : w14.cell? ⟨gb466, 0, none⟩ = some (.string a0_0) := (blk_cell BK466.out 0).trans rfl; have hcz15_1 : w14.cell? ⟨gb466, 1, none⟩ = some (.slice A0_1 l0_1.length c0_1) := (blk_cell BK466.out 1).trans rfl; have hcz15_2 : w14.cell? ⟨gb466, 2, none⟩ = some (.string a0_2) := (blk_cell BK466.out 2).trans rfl; have hcz15_3 : w14.cell? ⟨gb466, 3, none⟩ = some (.slice A0_3 l0_3.length c0_3) := (blk_cell BK466.out 3).trans rfl; have hcz15_4 : w14.cell? ⟨gb466, 4, none⟩ = some (.slice A0_4 l0_4.length c0_4) := (blk_cell BK466.out 4).trans rfl; have hcz15_5 : w14.cell? ⟨gb466, 5, none⟩ = some (.slice A0_5 l0_5.length c0_5) := (blk_cell BK466.out 5).trans rfl; have hfz15_0 := blk_frozen BK466.out 0; have hfz15_1 := blk_frozen BK466.out 1; have hfz15_2 := blk_frozen BK466.out 2; have hfz15_3 := blk_frozen BK466.out 3; have hfz15_4 := blk_frozen BK466.out 4; have hfz15_5 := blk_frozen BK466.out 5) | ((with_reducible refine gate_callee (f := 39) rfl ?_); refine goesL_ (some 15) rfl rfl Try.func39 (by kernel_rfl) rfl #[.agg #[.string a0_0, .slice A0_1 l0_1.length c0_1, .string a0_2, .slice A0_3 l0_3.length c0_3, .slice A0_4 l0_4.length c0_4, .slice A0_5 l0_5.length c0_5]] rfl (by (try simp only [List.map_toArray, List.map_cons, List.map_nil]); first | done | rfl | (simp only [List.length_drop, List.length_take]; rfl)) ?_; (with_reducible refine (truantlaw10_wide.calls a0_0 _ _ l0_1 a0_2 _ _ l0_3 _ _ l0_4 _ _ l0_5 false _ ?side1 ?side2 ?side3 ?side4 ?side5 ?side6 ?side7 ?side8 A4.out).mono ?_); (case side1 => repeat (first | exact (Kd.C_below HR0_1.out HB.out) | (with_reducible refine Kd.C_alloc ?_ _) | (with_reducible refine Kd.C_drewN ?_ _) | (with_reducible refine Kd.C_drew ?_))); (case side2 => exact HC0_1.out); (case side3 => repeat (first | exact (Kd.C_below HR0_3.out HB.out) | (with_reducible refine Kd.C_alloc ?_ _) | (with_reducible refine Kd.C_drewN ?_ _) | (with_reducible refine Kd.C_drew ?_))); (case side4 => exact HC0_3.out); (case side5 => repeat (first | exact (Kd.C_below HR0_4.out HB.out) | (with_reducible refine Kd.C_alloc ?_ _) | (with_reducible refine Kd.C_drewN ?_ _) | (with_reducible refine Kd.C_drew ?_))); (case side6 => exact HC0_4.out); (case side7 => repeat (first | exact (Kd.C_below HR0_5.out HB.out) | (with_reducible refine Kd.C_alloc ?_ _) | (with_reducible refine Kd.C_drewN ?_ _) | (with_reducible refine Kd.C_drew ?_))); (case side8 => exact HC0_5.out); rintro e w16 ⟨rfl, hb⟩; refine ⟨_, rfl, ?_⟩; have n0_ := Aside0.mk (blk_below (g := gb466) (o := .cells #[.string a0_0, .slice A0_1 l0_1.length c0_1, .string a0_2, .slice A0_3 l0_3.length c0_3, .slice A0_4 l0_4.length c0_4, .slice A0_5 l0_5.length c0_5] 26 (0, 0)) (by (with_reducible repeat (first | refine blk_drewN ?_ _ | refine blk_drew ?_ | refine blk_alloc ?_ _)); exact BK466.out) hb); have n1_ := Aside0.mk (below_step (by repeat (first | (with_reducible first | exact HB.out | apply below_alloc | apply pw_below_drewN | apply below_drew1 | refine below_set ?_ GE466.out) | exact HB.out)) hb); clear BK466; clear HB; have BK466 := n0_; have HB := n1_; clear n0_ n1_; (try clear hb); (try clear hb2); (try clear hk); (try clear hi); have hcz17_0 : w16.cell? ⟨gb466, 0, none⟩ = some (.string a0_0) := (blk_cell BK466.out 0).trans rfl; have hcz17_1 : w16.cell? ⟨gb466, 1, none⟩ = some (.slice A0_1 l0_1.length c0_1) := (blk_cell BK466.out 1).trans rfl; have hcz17_2 : w16.cell? ⟨gb466, 2, none⟩ = some (.string a0_2) := (blk_cell BK466.out 2).trans rfl; have hcz17_3 : w16.cell? ⟨gb466, 3, none⟩ = some (.slice A0_3 l0_3.length c0_3) := (blk_cell BK466.out 3).trans rfl; have hcz17_4 : w16.cell? ⟨gb466, 4, none⟩ = some (.slice A0_4 l0_4.length c0_4) := (blk_cell BK466.out 4).trans rfl; have hcz17_5 : w16.cell? ⟨gb466, 5, none⟩ = some (.slice A0_5 l0_5.length c0_5) := (blk_cell BK466.out 5).trans rfl; have hfz17_0 := blk_frozen BK466.out 0; have hfz17_1 := blk_frozen BK466.out 1; have hfz17_2 := blk_frozen BK466.out 2; have hfz17_3 := blk_frozen BK466.out 3; have hfz17_4 := blk_frozen BK466.out 4; have hfz17_5 := blk_frozen BK466.out 5) | ((with_reducible refine gate_callee (f := 45) rfl ?_); refine goesL_ (some 17) rfl rfl Try.func45 (by kernel_rfl) rfl #[.agg #[.string a0_0, .slice A0_1 l0_1.length c0_1, .string a0_2, .slice A0_3 l0_3.length c0_3, .slice A0_4 l0_4.length c0_4, .slice A0_5 l0_5.length c0_5]] rfl (by (try simp only [List.map_toArray, List.map_cons, List.map_nil]); first | done | rfl | (simp only [List.length_drop, List.length_take]; rfl)) ?_; (with_reducible refine (dom_Front.calls a0_0 _ _ l0_1 a0_2 _ _ l0_3 _ _ l0_4 _ _ l0_5 t469 _ ?side1 ?side2 ?side3 ?side4 ?side5 ?side6 ?side7 ?side8 A10.out).mono ?_); (case side1 => repeat (first | exact (Kd.C_below HR0_1.out HB.out) | (with_reducible refine Kd.C_alloc ?_ _) | (with_reducible refine Kd.C_drewN ?_ _) | (with_reducible refine Kd.C_drew ?_))); (case side2 => exact HC0_1.out); (case side3 => repeat (first | exact (Kd.C_below HR0_3.out HB.out) | (with_reducible refine Kd.C_alloc ?_ _) | (with_reducible refine Kd.C_drewN ?_ _) | (with_reducible refine Kd.C_drew ?_))); (case side4 => exact HC0_3.out); (case side5 => repeat (first | exact (Kd.C_below HR0_4.out HB.out) | (with_reducible refine Kd.C_alloc ?_ _) | (with_reducible refine Kd.C_drewN ?_ _) | (with_reducible refine Kd.C_drew ?_))); (case side6 => exact HC0_4.out); (case side7 => repeat (first | exact (Kd.C_below HR0_5.out HB.out) | (with_reducible refine Kd.C_alloc ?_ _) | (with_reducible refine Kd.C_drewN ?_ _) | (with_reducible refine Kd.C_drew ?_))); (case side8 => exact HC0_5.out); rintro e w18 ⟨v470, rfl, ho0, hb⟩; refine ⟨_, rfl, ?_⟩; have n0_ := Aside0.mk (Kd.S_lower ho0 (below_size (by repeat (first | (with_reducible first | exact HB.out | apply below_alloc | apply pw_below_drewN | apply below_drew1 | refine below_set ?_ GE466.out) | exact HB.out)))); have n1_ := Aside0.mk (blk_below (g := gb466) (o := .cells #[.string a0_0, .slice A0_1 l0_1.length c0_1, .string a0_2, .slice A0_3 l0_3.length c0_3, .slice A0_4 l0_4.length c0_4, .slice A0_5 l0_5.length c0_5] 26 (0, 0)) (by (with_reducible repeat (first | refine blk_drewN ?_ _ | refine blk_drew ?_ | refine blk_alloc ?_ _)); exact BK466.out) hb); have n2_ := Aside0.mk (below_step (by repeat (first | (with_reducible first | exact HB.out | apply below_alloc | apply pw_below_drewN | apply below_drew1 | refine below_set ?_ GE466.out) | exact HB.out)) hb); clear BK466; clear HB; have HO471 := n0_; have BK466 := n1_; have HB := n2_; clear n0_ n1_ n2_; (try clear hb); (try clear hb2); (try clear hk); (try clear hi); (try clear ho0); have hcz19_0 : w18.cell? ⟨gb466, 0, none⟩ = some (.string a0_0) := (blk_cell BK466.out 0).trans rfl; have hcz19_1 : w18.cell? ⟨gb466, 1, none⟩ = some (.slice A0_1 l0_1.length c0_1) := (blk_cell BK466.out 1).trans rfl; have hcz19_2 : w18.cell? ⟨gb466, 2, none⟩ = some (.string a0_2) := (blk_cell BK466.out 2).trans rfl; have hcz19_3 : w18.cell? ⟨gb466, 3, none⟩ = some (.slice A0_3 l0_3.length c0_3) := (blk_cell BK466.out 3).trans rfl; have hcz19_4 : w18.cell? ⟨gb466, 4, none⟩ = some (.slice A0_4 l0_4.length c0_4) := (blk_cell BK466.out 4).trans rfl; have hcz19_5 : w18.cell? ⟨gb466, 5, none⟩ = some (.slice A0_5 l0_5.length c0_5) := (blk_cell BK466.out 5).trans rfl; have hfz19_0 := blk_frozen BK466.out 0; have hfz19_1 := blk_frozen BK466.out 1; have hfz19_2 := blk_frozen BK466.out 2; have hfz19_3 := blk_frozen BK466.out 3; have hfz19_4 := blk_frozen BK466.out 4; have hfz19_5 := blk_frozen BK466.out 5) | ((with_reducible refine gate_callee (f := 17) rfl ?_); refine goesL_ (some 19) rfl rfl Try.func17 (by kernel_rfl) rfl #[.agg #[.string a0_0, .slice A0_1 l0_1.length c0_1, .string a0_2, .slice A0_3 l0_3.length c0_3, .slice A0_4 l0_4.length c0_4, .slice A0_5 l0_5.length c0_5]] rfl (by (try simp only [List.map_toArray, List.map_cons, List.map_nil]); first | done | rfl | (simp only [List.length_drop, List.length_take]; rfl)) ?_; (with_reducible refine (flow_Reached.calls a0_0 _ _ l0_1 a0_2 _ _ l0_3 _ _ l0_4 _ _ l0_5 t472 _ ?side1 ?side2 ?side3 ?side4 ?side5 ?side6 ?side7 ?side8 A11.out).mono ?_); (case side1 => repeat (first | exact (Kd.C_below HR0_1.out HB.out) | (with_reducible refine Kd.C_alloc ?_ _) | (with_reducible refine Kd.C_drewN ?_ _) | (with_reducible refine Kd.C_drew ?_))); (case side2 => exact HC0_1.out); (case side3 => repeat (first | exact (Kd.C_below HR0_3.out HB.out) | (with_reducible refine Kd.C_alloc ?_ _) | (with_reducible refine Kd.C_drewN ?_ _) | (with_reducible refine Kd.C_drew ?_))); (case side4 => exact HC0_3.out); (case side5 => repeat (first | exact (Kd.C_below HR0_4.out HB.out) | (with_reducible refine Kd.C_alloc ?_ _) | (with_reducible refine Kd.C_drewN ?_ _) | (with_reducible refine Kd.C_drew ?_))); (case side6 => exact HC0_4.out); (case side7 => repeat (first | exact (Kd.C_below HR0_5.out HB.out) | (with_reducible refine Kd.C_alloc ?_ _) | (with_reducible refine Kd.C_drewN ?_ _) | (with_reducible refine Kd.C_drew ?_))); (case side8 => exact HC0_5.out); rintro e w20 ⟨v473, rfl, ho0, hb⟩; refine ⟨_, rfl, ?_⟩; have n0_ := Aside0.mk (Kd.S_below (by (with_reducible repeat (first | apply Kd.S_alloc | apply Kd.S_drewN | apply Kd.S_drew)); exact HO471.out) hb); have n1_ := Aside0.mk (Kd.R_lower ho0 (below_size (by repeat (first | (with_reducible first | exact HB.out | apply below_alloc | apply pw_below_drewN | apply below_drew1 | refine below_set ?_ GE466.out) | exact HB.out)))); have n2_ := Aside0.mk (blk_below (g := gb466) (o := .cells #[.string a0_0, .slice A0_1 l0_1.length c0_1, .string a0_2, .slice A0_3 l0_3.length c0_3, .slice A0_4 l0_4.length c0_4, .slice A0_5 l0_5.length c0_5] 26 (0, 0)) (by (with_reducible repeat (first | refine blk_drewN ?_ _ | refine blk_drew ?_ | refine blk_alloc ?_ _)); exact BK466.out) hb); have n3_ := Aside0.mk (below_step (by repeat (first | (with_reducible first | exact HB.out | apply below_alloc | apply pw_below_drewN | apply below_drew1 | refine below_set ?_ GE466.out) | exact HB.out)) hb); clear HO471; clear BK466; clear HB; have HO471 := n0_; have HO474 := n1_; have BK466 := n2_; have HB := n3_; clear n0_ n1_ n2_ n3_; (try clear hb); (try clear hb2); (try clear hk); (try clear hi); (try clear ho0); have hcz21_0 : w20.cell? ⟨gb466, 0, none⟩ = some (.string a0_0) := (blk_cell BK466.out 0).trans rfl; have hcz21_1 : w20.cell? ⟨gb466, 1, none⟩ = some (.slice A0_1 l0_1.length c0_1) := (blk_cell BK466.out 1).trans rfl; have hcz21_2 : w20.cell? ⟨gb466, 2, none⟩ = some (.string a0_2) := (blk_cell BK466.out 2).trans rfl; have hcz21_3 : w20.cell? ⟨gb466, 3, none⟩ = some (.slice A0_3 l0_3.length c0_3) := (blk_cell BK466.out 3).trans rfl; have hcz21_4 : w20.cell? ⟨gb466, 4, none⟩ = some (.slice A0_4 l0_4.length c0_4) := (blk_cell BK466.out 4).trans rfl; have hcz21_5 : w20.cell? ⟨gb466, 5, none⟩ = some (.slice A0_5 l0_5.length c0_5) := (blk_cell BK466.out 5).trans rfl; have hfz21_0 := blk_frozen BK466.out 0; have hfz21_1 := blk_frozen BK466.out 1; have hfz21_2 := blk_frozen BK466.out 2; have hfz21_3 := blk_frozen BK466.out 3; have hfz21_4 := blk_frozen BK466.out 4; have hfz21_5 := blk_frozen BK466.out 5) | ((with_reducible refine gate_callee (f := 16) rfl ?_); refine goesL_ (some 21) rfl rfl Try.func16 (by kernel_rfl) rfl #[.agg #[.string a0_0, .slice A0_1 l0_1.length c0_1, .string a0_2, .slice A0_3 l0_3.length c0_3, .slice A0_4 l0_4.length c0_4, .slice A0_5 l0_5.length c0_5]] rfl (by (try simp only [List.map_toArray, List.map_cons, List.map_nil]); first | done | rfl | (simp only [List.length_drop, List.length_take]; rfl)) ?_; (with_reducible refine (flow_Ahead.calls k a0_0 _ _ l0_1 a0_2 _ _ l0_3 _ _ l0_4 _ _ l0_5 t475 _ ?side1 ?side2 ?side3 ?side4 ?side5 ?side6 ?side7 ?side8 A12.out).mono ?_); (case side1 => repeat (first | exact (Kd.C_below HR0_1.out HB.out) | (with_reducible refine Kd.C_alloc ?_ _) | (with_reducible refine Kd.C_drewN ?_ _) | (with_reducible refine Kd.C_drew ?_))); (case side2 => exact HC0_1.out); (case side3 => repeat (first | exact (Kd.C_below HR0_3.out HB.out) | (with_reducible refine Kd.C_alloc ?_ _) | (with_reducible refine Kd.C_drewN ?_ _) | (with_reducible refine Kd.C_drew ?_))); (case side4 => exact HC0_3.out); (case side5 => repeat (first | exact (Kd.C_below HR0_4.out HB.out) | (with_reducible refine Kd.C_alloc ?_ _) | (with_reducible refine Kd.C_drewN ?_ _) | (with_reducible refine Kd.C_drew ?_))); (case side6 => exact HC0_4.out); (case side7 => repeat (first | exact (Kd.C_below HR0_5.out HB.out) | (with_reducible refine Kd.C_alloc ?_ _) | (with_reducible refine Kd.C_drewN ?_ _) | (with_reducible refine Kd.C_drew ?_))); (case side8 => exact HC0_5.out); rintro e w22 ⟨v476, rfl, ho0, hb⟩; refine ⟨_, rfl, ?_⟩; have n0_ := Aside0.mk (Kd.S_elder' (by (with_reducible repeat (first | apply Kd.S_alloc | apply Kd.S_drewN | apply Kd.S_drew)); exact HO471.out) (Kd.S_base ho0) hb); have n1_ := Aside0.mk (Kd.R_below (by (with_reducible repeat (first | apply Kd.R_alloc | apply Kd.R_drewN | apply Kd.R_drew)); exact HO474.out) hb); have n2_ := Aside0.mk (Kd.S_lower (Kd.S_new' ho0 (Kd.S_lt (by (with_reducible repeat (first | apply Kd.S_alloc | apply Kd.S_drewN | apply Kd.S_drew)); exact HO471.out))) (below_size (by repeat (first | (with_reducible first | exact HB.out | apply below_alloc | apply pw_below_drewN | apply below_drew1 | refine below_set ?_ GE466.out) | exact HB.out)))); have n3_ := Aside0.mk (blk_below (g := gb466) (o := .cells #[.string a0_0, .slice A0_1 l0_1.length c0_1, .string a0_2, .slice A0_3 l0_3.length c0_3, .slice A0_4 l0_4.length c0_4, .slice A0_5 l0_5.length c0_5] 26 (0, 0)) (by (with_reducible repeat (first | refine blk_drewN ?_ _ | refine blk_drew ?_ | refine blk_alloc ?_ _)); exact BK466.out) hb); have n4_ := Aside0.mk (below_step (by repeat (first | (with_reducible first | exact HB.out | apply below_alloc | apply pw_below_drewN | apply below_drew1 | refine below_set ?_ GE466.out) | exact HB.out)) hb); clear HO471; clear HO474; clear BK466; clear HB; have HO471 := n0_; have HO474 := n1_; have HO477 := n2_; have BK466 := n3_; have HB := n4_; clear n0_ n1_ n2_ n3_ n4_; (try clear hb); (try clear hb2); (try clear hk); (try clear hi); (try clear ho0)))
   go_loopg [6] k (fun kq v6 w' => ∃ (x6_1 : Int), v6 = .int .i64 x6_1 ∧ Aside0 (truantlaw10_DomMeets.l0 kq t469 t472 t475 x6_1 a0_0 l0_1 a0_2 l0_3 l0_4 l0_5 = some r) ∧ Aside0 (kq ≤ k) ∧ Aside0 (Kd.S (Kd.slice 3 (Kd.int .i64)) 34 w' w.heap.size (fun k_ => some k_ ≠ (v476 : Value).ownBlock) v470 t469) ∧ Aside0 (Kd.R Kd.bool 4 w' w.heap.size (fun _ => True) v473 t472) ∧ Aside0 (Kd.S (Kd.slice 3 (Kd.int .i64)) 34 w' w.heap.size (fun k_ => some k_ ≠ (v470 : Value).ownBlock) v476 t475) ∧ Aside0 (w'.heap[gb466]? = some (.cells #[.string a0_0, (.slice A0_1 l0_1.length c0_1), .string a0_2, (.slice A0_3 l0_3.length c0_3), (.slice A0_4 l0_4.length c0_4), (.slice A0_5 l0_5.length c0_5)] 26 (0, 0))) ∧ Aside0 (Below w.heap.size w w'))
   case atStart => exact ⟨(0), (by first | rfl | (simp; done) | (simp [*]; done)), H', ⟨Nat.le_refl _⟩, ⟨by (with_reducible repeat (first | apply Kd.S_alloc | apply Kd.S_drewN | apply Kd.S_drew)); exact Kd.S_mono HO471.out (fun _ hk => hk.2)⟩, ⟨by (with_reducible repeat (first | apply Kd.R_alloc | apply Kd.R_drewN | apply Kd.R_drew)); exact HO474.out⟩, ⟨by (with_reducible repeat (first | apply Kd.S_alloc | apply Kd.S_drewN | apply Kd.S_drew)); exact Kd.S_mono HO477.out (fun _ hk => hk.2)⟩, ⟨by (with_reducible repeat (first | refine blk_drewN ?_ _ | refine blk_drew ?_ | refine blk_alloc ?_ _)); exact BK466.out⟩, ⟨by repeat (first | (with_reducible first | exact HB.out | apply below_alloc | apply pw_below_drewN | apply below_drew1 | refine below_set ?_ GE466.out) | exact HB.out)⟩⟩
   case round =>
    clear H'
    try clear c1
    try clear p2
    try clear c3
    try clear c4
    try clear c5
    try clear c13
    try clear c16
    try clear c17
    try clear hcz15_0
    try clear hcz15_1
    try clear hcz15_2
    try clear hcz15_3
    try clear hcz15_4
    try clear hcz15_5
    try clear hcz17_0
    try clear hcz17_1
    try clear hcz17_2
    try clear hcz17_3
    try clear hcz17_4
    try clear hcz17_5
    try clear hcz19_0
    try clear hcz19_1
    try clear hcz19_2
    try clear hcz19_3
    try clear hcz19_4
    try clear hcz19_5
    try clear hcz21_0
    try clear hcz21_1
    try clear hcz21_2
    try clear hcz21_3
    try clear hcz21_4
    try clear hcz21_5
    try clear hcz8_0
    try clear hcz8_1
    try clear hcz8_2
    try clear hcz8_3
    try clear hcz8_4
    try clear hcz8_5
    try clear hfz15_0
    try clear hfz15_1
    try clear hfz15_2
    try clear hfz15_3
    try clear hfz15_4
    try clear hfz15_5
    try clear hfz17_0
    try clear hfz17_1
    try clear hfz17_2
    try clear hfz17_3
    try clear hfz17_4
    try clear hfz17_5
    try clear hfz19_0
    try clear hfz19_1
    try clear hfz19_2
    try clear hfz19_3
    try clear hfz19_4
    try clear hfz19_5
    try clear hfz21_0
    try clear hfz21_1
    try clear hfz21_2
    try clear hfz21_3
    try clear hfz21_4
    try clear hfz21_5
    try clear hfz8_0
    try clear hfz8_1
    try clear hfz8_2
    try clear hfz8_3
    try clear hfz8_4
    try clear hfz8_5
    obtain ⟨x6_1, rfl, HA, HK1, HO_3, HO_4, HO_5, BK466, HB⟩ := hrel
    cases gk with
    | zero => exact absurd HA.out (by simp [truantlaw10_DomMeets.l0])
    | succ k1 =>
     have H := HA.out
     clear HA
     simp only [truantlaw10_DomMeets.l0] at H
     by_cases c23 : x6_1 < (t469.length : Int)
     ·rw [if_pos c23] at H
      have c23b0 : decide (x6_1 < (t469.length : Int)) = true := decide_eq_true c23
      clear c23
      have H' := Aside0.mk H
      clear H
      obtain ⟨Ao24, co24, eo24⟩ := Kd.S_slice HO_3.out
      subst eo24
      go_wp2
      go_loopg [7] k1 (fun kq v7 w' => ∃ (x7_2 : Int), v7 = .int .i64 x7_2 ∧ Aside0 (truantlaw10_DomMeets.l1 kq t469 t472 t475 x6_1 x7_2 a0_0 l0_1 a0_2 l0_3 l0_4 l0_5 = some r) ∧ Aside0 (kq ≤ k1) ∧ Aside0 (Kd.S (Kd.slice 3 (Kd.int .i64)) 34 w' w.heap.size (fun k_ => some k_ ≠ (v476 : Value).ownBlock) (.slice Ao24 t469.length co24) t469) ∧ Aside0 (Kd.R Kd.bool 4 w' w.heap.size (fun _ => True) v473 t472) ∧ Aside0 (Kd.S (Kd.slice 3 (Kd.int .i64)) 34 w' w.heap.size (fun k_ => some k_ ≠ ((.slice Ao24 t469.length co24) : Value).ownBlock) v476 t475) ∧ Aside0 (w'.heap[gb466]? = some (.cells #[.string a0_0, (.slice A0_1 l0_1.length c0_1), .string a0_2, (.slice A0_3 l0_3.length c0_3), (.slice A0_4 l0_4.length c0_4), (.slice A0_5 l0_5.length c0_5)] 26 (0, 0))) ∧ Aside0 (Below w.heap.size w w'))
      case atStart => exact ⟨(0), (by first | rfl | (simp; done) | (simp [*]; done)), H', ⟨Nat.le_refl _⟩, ⟨by (with_reducible repeat (first | apply Kd.S_alloc | apply Kd.S_drewN | apply Kd.S_drew)); exact HO_3.out⟩, ⟨by (with_reducible repeat (first | apply Kd.R_alloc | apply Kd.R_drewN | apply Kd.R_drew)); exact HO_4.out⟩, ⟨by (with_reducible repeat (first | apply Kd.S_alloc | apply Kd.S_drewN | apply Kd.S_drew)); exact HO_5.out⟩, ⟨by (with_reducible repeat (first | refine blk_drewN ?_ _ | refine blk_drew ?_ | refine blk_alloc ?_ _)); exact BK466.out⟩, ⟨by repeat (first | (with_reducible first | exact HB.out | apply below_alloc | apply pw_below_drewN | apply below_drew1 | refine below_set ?_ GE466.out) | exact HB.out)⟩⟩
      case round =>
       clear H'
       try clear c1
       try clear c2
       try clear p2
       try clear c3
       try clear c4
       try clear c5
       try clear c13
       try clear c16
       try clear c17
       try clear c23
       try clear c23b0
       try clear hcz15_0
       try clear hcz15_1
       try clear hcz15_2
       try clear hcz15_3
       try clear hcz15_4
       try clear hcz15_5
       try clear hcz17_0
       try clear hcz17_1
       try clear hcz17_2
       try clear hcz17_3
       try clear hcz17_4
       try clear hcz17_5
       try clear hcz19_0
       try clear hcz19_1
       try clear hcz19_2
       try clear hcz19_3
       try clear hcz19_4
       try clear hcz19_5
       try clear hcz21_0
       try clear hcz21_1
       try clear hcz21_2
       try clear hcz21_3
       try clear hcz21_4
       try clear hcz21_5
       try clear hcz8_0
       try clear hcz8_1
       try clear hcz8_2
       try clear hcz8_3
       try clear hcz8_4
       try clear hcz8_5
       try clear hfz15_0
       try clear hfz15_1
       try clear hfz15_2
       try clear hfz15_3
       try clear hfz15_4
       try clear hfz15_5
       try clear hfz17_0
       try clear hfz17_1
       try clear hfz17_2
       try clear hfz17_3
       try clear hfz17_4
       try clear hfz17_5
       try clear hfz19_0
       try clear hfz19_1
       try clear hfz19_2
       try clear hfz19_3
       try clear hfz19_4
       try clear hfz19_5
       try clear hfz21_0
       try clear hfz21_1
       try clear hfz21_2
       try clear hfz21_3
       try clear hfz21_4
       try clear hfz21_5
       try clear hfz8_0
       try clear hfz8_1
       try clear hfz8_2
       try clear hfz8_3
       try clear hfz8_4
       try clear hfz8_5
       try clear p2
       obtain ⟨x7_2, rfl, HA, HK2, HO_3, HO_4, HO_5, BK466, HB⟩ := hrel
       cases gk with
       | zero => exact absurd HA.out (by simp [truantlaw10_DomMeets.l1])
       | succ k2 =>
        have H := HA.out
        clear HA
        simp only [truantlaw10_DomMeets.l1] at H
        by_cases c25 : 0 ≤ x6_1
        ·rw [if_pos c25] at H
         have c25b0 : decide (0 ≤ x6_1) = true := decide_eq_true c25
         clear c25
         by_cases c26 : x6_1 < (t469.length : Int)
         ·rw [if_pos c26] at H
          have c26b0 : decide (x6_1 < (t469.length : Int)) = true := decide_eq_true c26
          clear c26
          by_cases c27 : x7_2 < ((rd_L2 t469 x6_1).length : Int)
          ·rw [if_pos c27] at H
           have c27b0 : decide (x7_2 < ((rd_L2 t469 x6_1).length : Int)) = true := decide_eq_true c27
           clear c27
           by_cases c28 : 0 ≤ x7_2
           ·rw [if_pos c28] at H
            have c28b0 : decide (0 ≤ x7_2) = true := decide_eq_true c28
            clear c28
            have H' := Aside0.mk H
            clear H
            have p478 : 0 ≤ (x6_1 : Int) := of_decide_eq_true (by first | (with_reducible assumption) | assumption)
            have q478 : x6_1 < (t469.length : Int) := of_decide_eq_true (by first | (with_reducible assumption) | assumption)
            obtain ⟨ad478, A478_0, c478_0, e478, hx478_0, hl478_0, hi478_0⟩ := at_L2 (Kd.S_reads' HO_3.out).2.2 x6_1 p478 q478
            cases e478
            obtain ⟨ce478, hce478, hMe478, hcc478⟩ := Kd.S_get HO_3.out [] x6_1 p478 (by first | exact q478 | exact of_decide_eq_true (by first | (with_reducible assumption) | assumption) | (have e_ := (Kd.S_reads' HO_3.out).1; omega))
            obtain ⟨ve478_0, rfl, ge478_0⟩ := hMe478
            have hv478_0 := hcc478 0 _ rfl
            rw [Nat.add_zero, show ((Kd.slice 3 (Kd.int .i64))).sz = 1 from rfl, Nat.mul_one] at hv478_0
            replace hv478_0 := Option.some.inj (hv478_0.symm.trans hx478_0)
            rw [hv478_0] at ge478_0
            have HL478_0 := Aside0.mk (show Kd.R (Kd.int .i64) 3 _ _ _ _ (rd_L2 t469 x6_1) from ge478_0)
            clear hv478_0 ge478_0
            clear hcc478 hce478
            have HR478_0 := Aside0.mk hi478_0
            have HC478_0 := Aside0.mk hl478_0
            clear hi478_0 hl478_0
            replace p478 := eq_true p478
            replace q478 := eq_true q478
            have p479 : 0 ≤ (x6_1 : Int) := of_decide_eq_true (by first | (with_reducible assumption) | assumption)
            have q479 : x6_1 < (t469.length : Int) := of_decide_eq_true (by first | (with_reducible assumption) | assumption)
            obtain ⟨ad479, A479_0, c479_0, e479, hx479_0, hl479_0, hi479_0⟩ := at_L2 (Kd.S_reads' HO_3.out).2.2 x6_1 p479 q479
            obtain rfl : ad478 = ad479 := (by injection e479)
            obtain ⟨ce479, hce479, hMe479, hcc479⟩ := Kd.S_get HO_3.out [] x6_1 p479 (by first | exact q479 | exact of_decide_eq_true (by first | (with_reducible assumption) | assumption) | (have e_ := (Kd.S_reads' HO_3.out).1; omega))
            obtain ⟨ve479_0, rfl, ge479_0⟩ := hMe479
            have hv479_0 := hcc479 0 _ rfl
            rw [Nat.add_zero, show ((Kd.slice 3 (Kd.int .i64))).sz = 1 from rfl, Nat.mul_one] at hv479_0
            replace hv479_0 := Option.some.inj (hv479_0.symm.trans hx479_0)
            rw [hv479_0] at ge479_0
            have HL479_0 := Aside0.mk (show Kd.R (Kd.int .i64) 3 _ _ _ _ (rd_L2 t469 x6_1) from ge479_0)
            clear hv479_0 ge479_0
            clear hcc479 hce479
            have HR479_0 := Aside0.mk hi479_0
            have HC479_0 := Aside0.mk hl479_0
            clear hi479_0 hl479_0
            replace p479 := eq_true p479
            replace q479 := eq_true q479
            have ea_ := Option.some.inj (hx478_0.symm.trans hx479_0)
            injection ea_ with ea_ en_ ec_
            subst ea_
            subst ec_
            clear en_
            have p480 : 0 ≤ (x7_2 : Int) := of_decide_eq_true (by first | (with_reducible assumption) | assumption)
            have q480 : x7_2 < ((rd_L2 t469 x6_1).length : Int) := of_decide_eq_true (by first | (with_reducible assumption) | assumption)
            obtain ⟨ad480, e480, hx480_0⟩ := Kd.at_int (by repeat (first | (with_reducible exact HR479_0.out) | (with_reducible refine Kd.C_alloc ?_ _) | (with_reducible refine Kd.C_drewN ?_ _) | (with_reducible refine Kd.C_drew ?_) | exact HR479_0.out)) x7_2 p480 q480
            cases e480
            replace p480 := eq_true p480
            replace q480 := eq_true q480
            go_wp2
            go_loopg [9, 10, 11] k2 (fun kq v9 v10 v11 w' => ∃ (x9_3 : Int) (x10_3 : Bool) (x11_3 : Int), v9 = .int .i64 x9_3 ∧ v10 = .bool x10_3 ∧ v11 = .int .i64 x11_3 ∧ Aside0 (truantlaw10_DomMeets.l2 kq t469 t472 t475 x6_1 x7_2 (rd (rd_L2 t469 x6_1) x7_2) x9_3 x10_3 x11_3 a0_0 l0_1 a0_2 l0_3 l0_4 l0_5 = some r) ∧ Aside0 (kq ≤ k2) ∧ Aside0 (Kd.S (Kd.slice 3 (Kd.int .i64)) 34 w' w.heap.size (fun k_ => some k_ ≠ (v476 : Value).ownBlock) (.slice (some ad478) t469.length co24) t469) ∧ Aside0 (Kd.R Kd.bool 4 w' w.heap.size (fun _ => True) v473 t472) ∧ Aside0 (Kd.S (Kd.slice 3 (Kd.int .i64)) 34 w' w.heap.size (fun k_ => some k_ ≠ ((.slice (some ad478) t469.length co24) : Value).ownBlock) v476 t475) ∧ Aside0 (w'.heap[gb466]? = some (.cells #[.string a0_0, (.slice A0_1 l0_1.length c0_1), .string a0_2, (.slice A0_3 l0_3.length c0_3), (.slice A0_4 l0_4.length c0_4), (.slice A0_5 l0_5.length c0_5)] 26 (0, 0))) ∧ Aside0 (Kd.C (Kd.int .i64) w' (some ad480) (rd_L2 t469 x6_1).length (rd_L2 t469 x6_1)) ∧ Aside0 (Kd.C (Kd.int .i64) w' (some ad480) (rd_L2 t469 x6_1).length (rd_L2 t469 x6_1)) ∧ Aside0 (Below w.heap.size w w'))
            case atStart => exact ⟨(0), (false), (0), (by first | rfl | (simp; done) | (simp [*]; done)), (by first | rfl | (simp; done) | (simp [*]; done)), (by first | rfl | (simp; done) | (simp [*]; done)), H', ⟨Nat.le_refl _⟩, ⟨by (with_reducible repeat (first | apply Kd.S_alloc | apply Kd.S_drewN | apply Kd.S_drew)); exact HO_3.out⟩, ⟨by (with_reducible repeat (first | apply Kd.R_alloc | apply Kd.R_drewN | apply Kd.R_drew)); exact HO_4.out⟩, ⟨by (with_reducible repeat (first | apply Kd.S_alloc | apply Kd.S_drewN | apply Kd.S_drew)); exact HO_5.out⟩, ⟨by (with_reducible repeat (first | refine blk_drewN ?_ _ | refine blk_drew ?_ | refine blk_alloc ?_ _)); exact BK466.out⟩, ⟨by repeat (first | (with_reducible exact HR478_0.out) | (with_reducible refine Kd.C_alloc ?_ _) | (with_reducible refine Kd.C_drewN ?_ _) | (with_reducible refine Kd.C_drew ?_) | exact HR478_0.out)⟩, ⟨by repeat (first | (with_reducible exact HR479_0.out) | (with_reducible refine Kd.C_alloc ?_ _) | (with_reducible refine Kd.C_drewN ?_ _) | (with_reducible refine Kd.C_drew ?_) | exact HR479_0.out)⟩, ⟨by repeat (first | (with_reducible first | exact HB.out | apply below_alloc | apply pw_below_drewN | apply below_drew1 | refine below_set ?_ GE466.out) | exact HB.out)⟩⟩
            case round =>
             clear H'
             try clear c1
             try clear c2
             try clear p2
             try clear c3
             try clear c4
             try clear p4
             try clear q4
             try clear hx4
             try clear c5
             try clear c13
             try clear c16
             try clear c17
             try clear c23
             try clear c23b0
             try clear c25
             try clear c25b0
             try clear c26
             try clear c26b0
             try clear c27
             try clear c27b0
             try clear c28
             try clear c28b0
             try clear hcz15_0
             try clear hcz15_1
             try clear hcz15_2
             try clear hcz15_3
             try clear hcz15_4
             try clear hcz15_5
             try clear hcz17_0
             try clear hcz17_1
             try clear hcz17_2
             try clear hcz17_3
             try clear hcz17_4
             try clear hcz17_5
             try clear hcz19_0
             try clear hcz19_1
             try clear hcz19_2
             try clear hcz19_3
             try clear hcz19_4
             try clear hcz19_5
             try clear hcz21_0
             try clear hcz21_1
             try clear hcz21_2
             try clear hcz21_3
             try clear hcz21_4
             try clear hcz21_5
             try clear hcz8_0
             try clear hcz8_1
             try clear hcz8_2
             try clear hcz8_3
             try clear hcz8_4
             try clear hcz8_5
             try clear hfz15_0
             try clear hfz15_1
             try clear hfz15_2
             try clear hfz15_3
             try clear hfz15_4
             try clear hfz15_5
             try clear hfz17_0
             try clear hfz17_1
             try clear hfz17_2
             try clear hfz17_3
             try clear hfz17_4
             try clear hfz17_5
             try clear hfz19_0
             try clear hfz19_1
             try clear hfz19_2
             try clear hfz19_3
             try clear hfz19_4
             try clear hfz19_5
             try clear hfz21_0
             try clear hfz21_1
             try clear hfz21_2
             try clear hfz21_3
             try clear hfz21_4
             try clear hfz21_5
             try clear hfz8_0
             try clear hfz8_1
             try clear hfz8_2
             try clear hfz8_3
             try clear hfz8_4
             try clear hfz8_5
             try clear hx478_0
             try clear hx479_0
             try clear hx480_0
             try clear p2
             try clear p478
             try clear p479
             try clear p480
             try clear q478
             try clear q479
             try clear q480
             obtain ⟨x9_3, x10_3, x11_3, rfl, rfl, rfl, HA, HK3, HO_3, HO_4, HO_5, BK466, HR478_0, HR479_0, HB⟩ := hrel
             cases gk with
             | zero => exact absurd HA.out (by simp [truantlaw10_DomMeets.l2])
             | succ k3 =>
              have H := HA.out
              clear HA
              simp only [truantlaw10_DomMeets.l2] at H
              by_cases c29 : 0 ≤ (rd (rd_L2 t469 x6_1) x7_2)
              ·rw [if_pos c29] at H
               have c29b0 : decide (0 ≤ (rd (rd_L2 t469 x6_1) x7_2)) = true := decide_eq_true c29
               clear c29
               by_cases c30 : (rd (rd_L2 t469 x6_1) x7_2) < (t475.length : Int)
               ·rw [if_pos c30] at H
                have c30b0 : decide ((rd (rd_L2 t469 x6_1) x7_2) < (t475.length : Int)) = true := decide_eq_true c30
                clear c30
                by_cases c31 : x11_3 < ((rd_L2 t475 (rd (rd_L2 t469 x6_1) x7_2)).length : Int)
                ·rw [if_pos c31] at H
                 have c31b0 : decide (x11_3 < ((rd_L2 t475 (rd (rd_L2 t469 x6_1) x7_2)).length : Int)) = true := decide_eq_true c31
                 clear c31
                 by_cases c32 : 0 ≤ x11_3
                 ·rw [if_pos c32] at H
                  have c32b0 : decide (0 ≤ x11_3) = true := decide_eq_true c32
                  clear c32
                  by_cases c33 : 0 ≤ (rd (rd_L2 t475 (rd (rd_L2 t469 x6_1) x7_2)) x11_3)
                  ·rw [if_pos c33] at H
                   have c33b0 : decide (0 ≤ (rd (rd_L2 t475 (rd (rd_L2 t469 x6_1) x7_2)) x11_3)) = true := decide_eq_true c33
                   clear c33
                   by_cases c34 : (rd (rd_L2 t475 (rd (rd_L2 t469 x6_1) x7_2)) x11_3) < (t472.length : Int)
                   ·rw [if_pos c34] at H
                    have c34b0 : decide ((rd (rd_L2 t475 (rd (rd_L2 t469 x6_1) x7_2)) x11_3) < (t472.length : Int)) = true := decide_eq_true c34
                    clear c34
                    obtain ⟨bq35, hbq35⟩ : ∃ b_ : Bool, b_ = (rdOf false t472 (rd (rd_L2 t475 (rd (rd_L2 t469 x6_1) x7_2)) x11_3)) := ⟨_, rfl⟩
                    replace H : (if bq35 = true then (if x10_3 = true then (truantlaw10_DomMeets.l2 k3 t469 t472 t475 x6_1 x7_2 (rd (rd_L2 t469 x6_1) x7_2) (wrap64 (x9_3 + 1)) true (wrap64 (x11_3 + 1)) a0_0 l0_1 a0_2 l0_3 l0_4 l0_5) else ((dom_Is.f a0_0 l0_1 a0_2 l0_3 l0_4 l0_5 x6_1 (rd (rd_L2 t475 (rd (rd_L2 t469 x6_1) x7_2)) x11_3)).bind fun t487 => (truantlaw10_DomMeets.l2 k3 t469 t472 t475 x6_1 x7_2 (rd (rd_L2 t469 x6_1) x7_2) (wrap64 (x9_3 + 1)) t487 (wrap64 (x11_3 + 1)) a0_0 l0_1 a0_2 l0_3 l0_4 l0_5))) else (if x10_3 = true then (truantlaw10_DomMeets.l2 k3 t469 t472 t475 x6_1 x7_2 (rd (rd_L2 t469 x6_1) x7_2) x9_3 true (wrap64 (x11_3 + 1)) a0_0 l0_1 a0_2 l0_3 l0_4 l0_5) else ((dom_Is.f a0_0 l0_1 a0_2 l0_3 l0_4 l0_5 x6_1 (rd (rd_L2 t475 (rd (rd_L2 t469 x6_1) x7_2)) x11_3)).bind fun t490 => (truantlaw10_DomMeets.l2 k3 t469 t472 t475 x6_1 x7_2 (rd (rd_L2 t469 x6_1) x7_2) x9_3 t490 (wrap64 (x11_3 + 1)) a0_0 l0_1 a0_2 l0_3 l0_4 l0_5)))) = some r := by rw [← hbq35] at H; exact H
                    have Nbq35 := Aside0.mk hbq35
                    clear hbq35
                    by_cases c36 : bq35 = true
                    ·subst c36
                     have H1 : (if x10_3 = true then (truantlaw10_DomMeets.l2 k3 t469 t472 t475 x6_1 x7_2 (rd (rd_L2 t469 x6_1) x7_2) (wrap64 (x9_3 + 1)) true (wrap64 (x11_3 + 1)) a0_0 l0_1 a0_2 l0_3 l0_4 l0_5) else ((dom_Is.f a0_0 l0_1 a0_2 l0_3 l0_4 l0_5 x6_1 (rd (rd_L2 t475 (rd (rd_L2 t469 x6_1) x7_2)) x11_3)).bind fun t487 => (truantlaw10_DomMeets.l2 k3 t469 t472 t475 x6_1 x7_2 (rd (rd_L2 t469 x6_1) x7_2) (wrap64 (x9_3 + 1)) t487 (wrap64 (x11_3 + 1)) a0_0 l0_1 a0_2 l0_3 l0_4 l0_5))) = some r := by rw [if_pos rfl] at H; exact H
                     clear H
                     have H := H1
                     clear H1
                     by_cases c37 : x10_3 = true
                     ·subst c37
                      have H1 : (truantlaw10_DomMeets.l2 k3 t469 t472 t475 x6_1 x7_2 (rd (rd_L2 t469 x6_1) x7_2) (wrap64 (x9_3 + 1)) true (wrap64 (x11_3 + 1)) a0_0 l0_1 a0_2 l0_3 l0_4 l0_5) = some r := by rw [if_pos rfl] at H; exact H
                      clear H
                      have H := H1
                      clear H1
                      have H' := Aside0.mk H
                      clear H
                      obtain ⟨Ao38, co38, eo38⟩ := Kd.S_slice HO_5.out
                      subst eo38
                      have p481 : 0 ≤ ((rd (rd_L2 t469 x6_1) x7_2) : Int) := of_decide_eq_true (by first | (with_reducible assumption) | assumption)
                      have q481 : (rd (rd_L2 t469 x6_1) x7_2) < (t475.length : Int) := of_decide_eq_true (by first | (with_reducible assumption) | assumption)
                      obtain ⟨ad481, A481_0, c481_0, e481, hx481_0, hl481_0, hi481_0⟩ := at_L2 (Kd.S_reads' HO_5.out).2.2 (rd (rd_L2 t469 x6_1) x7_2) p481 q481
                      cases e481
                      obtain ⟨ce481, hce481, hMe481, hcc481⟩ := Kd.S_get HO_5.out [] (rd (rd_L2 t469 x6_1) x7_2) p481 (by first | exact q481 | exact of_decide_eq_true (by first | (with_reducible assumption) | assumption) | (have e_ := (Kd.S_reads' HO_5.out).1; omega))
                      obtain ⟨ve481_0, rfl, ge481_0⟩ := hMe481
                      have hv481_0 := hcc481 0 _ rfl
                      rw [Nat.add_zero, show ((Kd.slice 3 (Kd.int .i64))).sz = 1 from rfl, Nat.mul_one] at hv481_0
                      replace hv481_0 := Option.some.inj (hv481_0.symm.trans hx481_0)
                      rw [hv481_0] at ge481_0
                      have HL481_0 := Aside0.mk (show Kd.R (Kd.int .i64) 3 _ _ _ _ (rd_L2 t475 (rd (rd_L2 t469 x6_1) x7_2)) from ge481_0)
                      clear hv481_0 ge481_0
                      clear hcc481 hce481
                      have HR481_0 := Aside0.mk hi481_0
                      have HC481_0 := Aside0.mk hl481_0
                      clear hi481_0 hl481_0
                      replace p481 := eq_true p481
                      replace q481 := eq_true q481
                      have p482 : 0 ≤ ((rd (rd_L2 t469 x6_1) x7_2) : Int) := of_decide_eq_true (by first | (with_reducible assumption) | assumption)
                      have q482 : (rd (rd_L2 t469 x6_1) x7_2) < (t475.length : Int) := of_decide_eq_true (by first | (with_reducible assumption) | assumption)
                      obtain ⟨ad482, A482_0, c482_0, e482, hx482_0, hl482_0, hi482_0⟩ := at_L2 (Kd.S_reads' HO_5.out).2.2 (rd (rd_L2 t469 x6_1) x7_2) p482 q482
                      obtain rfl : ad481 = ad482 := (by injection e482)
                      obtain ⟨ce482, hce482, hMe482, hcc482⟩ := Kd.S_get HO_5.out [] (rd (rd_L2 t469 x6_1) x7_2) p482 (by first | exact q482 | exact of_decide_eq_true (by first | (with_reducible assumption) | assumption) | (have e_ := (Kd.S_reads' HO_5.out).1; omega))
                      obtain ⟨ve482_0, rfl, ge482_0⟩ := hMe482
                      have hv482_0 := hcc482 0 _ rfl
                      rw [Nat.add_zero, show ((Kd.slice 3 (Kd.int .i64))).sz = 1 from rfl, Nat.mul_one] at hv482_0
                      replace hv482_0 := Option.some.inj (hv482_0.symm.trans hx482_0)
                      rw [hv482_0] at ge482_0
                      have HL482_0 := Aside0.mk (show Kd.R (Kd.int .i64) 3 _ _ _ _ (rd_L2 t475 (rd (rd_L2 t469 x6_1) x7_2)) from ge482_0)
                      clear hv482_0 ge482_0
                      clear hcc482 hce482
                      have HR482_0 := Aside0.mk hi482_0
                      have HC482_0 := Aside0.mk hl482_0
                      clear hi482_0 hl482_0
                      replace p482 := eq_true p482
                      replace q482 := eq_true q482
                      have ea_ := Option.some.inj (hx481_0.symm.trans hx482_0)
                      injection ea_ with ea_ en_ ec_
                      subst ea_
                      subst ec_
                      clear en_
                      have p483 : 0 ≤ (x11_3 : Int) := of_decide_eq_true (by first | (with_reducible assumption) | assumption)
                      have q483 : x11_3 < ((rd_L2 t475 (rd (rd_L2 t469 x6_1) x7_2)).length : Int) := of_decide_eq_true (by first | (with_reducible assumption) | assumption)
                      obtain ⟨ad483, e483, hx483_0⟩ := Kd.at_int (by repeat (first | (with_reducible exact HR482_0.out) | (with_reducible refine Kd.C_alloc ?_ _) | (with_reducible refine Kd.C_drewN ?_ _) | (with_reducible refine Kd.C_drew ?_) | exact HR482_0.out)) x11_3 p483 q483
                      cases e483
                      replace p483 := eq_true p483
                      replace q483 := eq_true q483
                      obtain ⟨Ao39, co39, eo39⟩ := Kd.R_slice HO_4.out
                      subst eo39
                      have p484 : 0 ≤ ((rd (rd_L2 t475 (rd (rd_L2 t469 x6_1) x7_2)) x11_3) : Int) := of_decide_eq_true (by first | (with_reducible assumption) | assumption)
                      have q484 : (rd (rd_L2 t475 (rd (rd_L2 t469 x6_1) x7_2)) x11_3) < (t472.length : Int) := of_decide_eq_true (by first | (with_reducible assumption) | assumption)
                      obtain ⟨ad484, e484, hx484_0⟩ := Kd.at_bool (Kd.R_reads' HO_4.out).2.2 (rd (rd_L2 t475 (rd (rd_L2 t469 x6_1) x7_2)) x11_3) p484 q484
                      (try rw [← Nbq35.out] at hx484_0)
                      cases e484
                      replace p484 := eq_true p484
                      replace q484 := eq_true q484
                      try go_wp2
                      have n0_ := Aside0.mk (Kd.S_drew HO_3.out)
                      have n1_ := Aside0.mk (Kd.R_drew HO_4.out)
                      have n2_ := Aside0.mk (Kd.S_drew HO_5.out)
                      have n3_ := Aside0.mk (Kd.R_drew HL481_0.out)
                      have n4_ := Aside0.mk (Kd.R_drew HL482_0.out)
                      have n5_ := Aside0.mk (blk_drew BK466.out)
                      have n6_ := Aside0.mk (Kd.C_drew HR478_0.out)
                      have n7_ := Aside0.mk (Kd.C_drew HR479_0.out)
                      have n8_ := Aside0.mk (Kd.C_drew HR481_0.out)
                      have n9_ := Aside0.mk (Kd.C_drew HR482_0.out)
                      have n10_ := Aside0.mk (below_drew1 HB.out)
                      clear HO_3
                      clear HO_4
                      clear HO_5
                      clear HL481_0
                      clear HL482_0
                      clear BK466
                      clear HR478_0
                      clear HR479_0
                      clear HR481_0
                      clear HR482_0
                      clear HB
                      have HO_3 := n0_
                      have HO_4 := n1_
                      have HO_5 := n2_
                      have HL481_0 := n3_
                      have HL482_0 := n4_
                      have BK466 := n5_
                      have HR478_0 := n6_
                      have HR479_0 := n7_
                      have HR481_0 := n8_
                      have HR482_0 := n9_
                      have HB := n10_
                      clear n0_ n1_ n2_ n3_ n4_ n5_ n6_ n7_ n8_ n9_ n10_
                      refine start_ (n := 14) (S := fun w' => True) (ds := []) #[false, false, false, false, false, false, false, false, false, false, false, false, false, false] (by kernel_rfl) rfl rfl trivial (fun hHeld => ?_); refine with_tabW truantlaw10_DomMeets.tab22 truantlaw10_DomMeets.bits22 (fun HT_ HW_ => ?_)
                      generalize wr.drew = w40 at HO_3 HO_4 HO_5 HL481_0 HL482_0 BK466 HR478_0 HR479_0 HR481_0 HR482_0 HB hHeld ⊢
                      refine pure_ (i := 0) (N := some 65) (v := ?_) (a' := ?_) #[true, false, false, false, false, false, false, false, false, false, false, false, false, false] rfl rfl (any_of HT_.out (by kernel_rfl)) (fun _ _ _ h => h) (Or.inl ⟨by rfl, ?_⟩) ?_ ?_
                      rotate_left
                      ·intro w'
                       go_simp
                       with_reducible rfl
                      rotate_left
                      ·simp only [Act.put, List.setIfInBounds_toArray, List.set_cons_zero, List.set_cons_succ, i64_w, i32_w]
                       rfl
                      refine pure_ (i := 1) (N := some 66) (v := ?_) (a' := ?_) #[true, true, false, false, false, false, false, false, false, false, false, false, false, false] rfl rfl (any_of HT_.out (by kernel_rfl)) (fun _ _ _ h => h) (Or.inl ⟨by rfl, ?_⟩) ?_ ?_
                      rotate_left
                      ·intro w'
                       go_simp
                       with_reducible rfl
                      rotate_left
                      ·simp only [Act.put, List.setIfInBounds_toArray, List.set_cons_zero, List.set_cons_succ, i64_w, i32_w]
                       rfl
                      refine pure_ (i := 2) (N := some 67) (v := undef) (a' := ?_) #[true, true, true, false, false, false, false, false, false, false, false, false, false, false] rfl rfl (any_of HT_.out (by kernel_rfl)) (fun _ _ _ h => h) (Or.inr ⟨by rfl, rfl⟩) ?_ ?_
                      rotate_left
                      ·simp only [Act.put, List.setIfInBounds_toArray, List.set_cons_zero, List.set_cons_succ, i64_w, i32_w]
                       rfl
                      refine pure_ (i := 3) (N := some 68) (v := undef) (a' := ?_) #[true, true, true, true, false, false, false, false, false, false, false, false, false, false] rfl rfl (any_of HT_.out (by kernel_rfl)) (fun _ _ _ h => h) (Or.inr ⟨by rfl, rfl⟩) ?_ ?_
                      rotate_left
                      ·simp only [Act.put, List.setIfInBounds_toArray, List.set_cons_zero, List.set_cons_succ, i64_w, i32_w]
                       rfl
                      refine pure_ (i := 4) (N := some 69) (v := undef) (a' := ?_) #[true, true, true, true, true, false, false, false, false, false, false, false, false, false] rfl rfl (any_of HT_.out (by kernel_rfl)) (fun _ _ _ h => h) (Or.inr ⟨by rfl, rfl⟩) ?_ ?_
                      rotate_left
                      ·simp only [Act.put, List.setIfInBounds_toArray, List.set_cons_zero, List.set_cons_succ, i64_w, i32_w]
                       rfl
                      refine pure_ (i := 5) (N := some 70) (v := undef) (a' := ?_) #[true, true, true, true, true, true, false, false, false, false, false, false, false, false] rfl rfl (any_of HT_.out (by kernel_rfl)) (fun _ _ _ h => h) (Or.inr ⟨by rfl, rfl⟩) ?_ ?_
                      rotate_left
                      ·simp only [Act.put, List.setIfInBounds_toArray, List.set_cons_zero, List.set_cons_succ, i64_w, i32_w]
                       rfl
                      refine pure_ (i := 6) (N := some 71) (v := undef) (a' := ?_) #[true, true, true, true, true, true, true, false, false, false, false, false, false, false] rfl rfl (any_of HT_.out (by kernel_rfl)) (fun _ _ _ h => h) (Or.inr ⟨by rfl, rfl⟩) ?_ ?_
                      rotate_left
                      ·simp only [Act.put, List.setIfInBounds_toArray, List.set_cons_zero, List.set_cons_succ, i64_w, i32_w]
                       rfl
                      refine pure_ (i := 7) (N := some 72) (v := undef) (a' := ?_) #[true, true, true, true, true, true, true, true, false, false, false, false, false, false] rfl rfl (any_of HT_.out (by kernel_rfl)) (fun _ _ _ h => h) (Or.inr ⟨by rfl, rfl⟩) ?_ ?_
                      rotate_left
                      ·simp only [Act.put, List.setIfInBounds_toArray, List.set_cons_zero, List.set_cons_succ, i64_w, i32_w]
                       rfl
                      refine pure_ (i := 8) (N := some 73) (v := undef) (a' := ?_) #[true, true, true, true, true, true, true, true, true, false, false, false, false, false] rfl rfl (any_of HT_.out (by kernel_rfl)) (fun _ _ _ h => h) (Or.inr ⟨by rfl, rfl⟩) ?_ ?_
                      rotate_left
                      ·simp only [Act.put, List.setIfInBounds_toArray, List.set_cons_zero, List.set_cons_succ, i64_w, i32_w]
                       rfl
                      refine pure_ (i := 9) (N := some 74) (v := undef) (a' := ?_) #[true, true, true, true, true, true, true, true, true, true, false, false, false, false] rfl rfl (any_of HT_.out (by kernel_rfl)) (fun _ _ _ h => h) (Or.inr ⟨by rfl, rfl⟩) ?_ ?_
                      rotate_left
                      ·simp only [Act.put, List.setIfInBounds_toArray, List.set_cons_zero, List.set_cons_succ, i64_w, i32_w]
                       rfl
                      refine pure_ (i := 10) (N := some 75) (v := undef) (a' := ?_) #[true, true, true, true, true, true, true, true, true, true, true, false, false, false] rfl rfl (any_of HT_.out (by kernel_rfl)) (fun _ _ _ h => h) (Or.inr ⟨by rfl, rfl⟩) ?_ ?_
                      rotate_left
                      ·simp only [Act.put, List.setIfInBounds_toArray, List.set_cons_zero, List.set_cons_succ, i64_w, i32_w]
                       rfl
                      refine pure_ (i := 11) (N := some 76) (v := undef) (a' := ?_) #[true, true, true, true, true, true, true, true, true, true, true, true, false, false] rfl rfl (any_of HT_.out (by kernel_rfl)) (fun _ _ _ h => h) (Or.inr ⟨by rfl, rfl⟩) ?_ ?_
                      rotate_left
                      ·simp only [Act.put, List.setIfInBounds_toArray, List.set_cons_zero, List.set_cons_succ, i64_w, i32_w]
                       rfl
                      refine pure_ (i := 12) (N := some 77) (v := ?_) (a' := ?_) #[true, true, true, true, true, true, true, true, true, true, true, true, true, false] rfl rfl (any_of HT_.out (by kernel_rfl)) (fun _ _ _ h => h) (Or.inl ⟨by rfl, ?_⟩) ?_ ?_
                      rotate_left
                      ·intro w'
                       go_simp
                       with_reducible rfl
                      rotate_left
                      ·simp only [Act.put, List.setIfInBounds_toArray, List.set_cons_zero, List.set_cons_succ, i64_w, i32_w]
                       rfl
                      refine pure_ (i := 13) (N := some 10) (v := ?_) (a' := ?_) #[true, true, true, true, true, true, true, true, true, true, true, true, true, true] rfl rfl (any_of HT_.out (by kernel_rfl)) (fun _ _ _ h => h) (Or.inl ⟨by rfl, ?_⟩) ?_ ?_
                      rotate_left
                      ·intro w'
                       go_simp
                       with_reducible rfl
                      rotate_left
                      ·simp only [Act.put, List.setIfInBounds_toArray, List.set_cons_zero, List.set_cons_succ, i64_w, i32_w]
                       rfl
                      refine done_ (done_of HT_.out (by kernel_rfl)) ?_
                      try go_wp2
                      go_roundg k3
                      case measure => have := HK1.out; have := HK2.out; have := HK3.out; omega
                      case rel => exact ⟨(wrap64 (x9_3 + 1)), (true), (wrap64 (x11_3 + 1)), (by first | rfl | (simp; done) | (simp [*]; done)), (by first | rfl | (simp; done) | (simp [*]; done)), (by first | rfl | (simp; done) | (simp [*]; done)), H', ⟨by have := HK1.out; have := HK2.out; have := HK3.out; omega⟩, ⟨by (with_reducible repeat (first | apply Kd.S_alloc | apply Kd.S_drewN | apply Kd.S_drew)); exact HO_3.out⟩, ⟨by (with_reducible repeat (first | apply Kd.R_alloc | apply Kd.R_drewN | apply Kd.R_drew)); exact HO_4.out⟩, ⟨by (with_reducible repeat (first | apply Kd.S_alloc | apply Kd.S_drewN | apply Kd.S_drew)); exact HO_5.out⟩, ⟨by (with_reducible repeat (first | refine blk_drewN ?_ _ | refine blk_drew ?_ | refine blk_alloc ?_ _)); exact BK466.out⟩, ⟨by repeat (first | (with_reducible exact HR478_0.out) | (with_reducible refine Kd.C_alloc ?_ _) | (with_reducible refine Kd.C_drewN ?_ _) | (with_reducible refine Kd.C_drew ?_) | exact HR478_0.out)⟩, ⟨by repeat (first | (with_reducible exact HR479_0.out) | (with_reducible refine Kd.C_alloc ?_ _) | (with_reducible refine Kd.C_drewN ?_ _) | (with_reducible refine Kd.C_drew ?_) | exact HR479_0.out)⟩, ⟨by repeat (first | (with_reducible first | exact HB.out | apply below_alloc | apply pw_below_drewN | apply below_drew1 | refine below_set ?_ GE466.out) | exact HB.out)⟩⟩
                     ·replace c37 := Bool.eq_false_iff.mpr c37
                      subst c37
                      have H1 : ((dom_Is.f a0_0 l0_1 a0_2 l0_3 l0_4 l0_5 x6_1 (rd (rd_L2 t475 (rd (rd_L2 t469 x6_1) x7_2)) x11_3)).bind fun t487 => (truantlaw10_DomMeets.l2 k3 t469 t472 t475 x6_1 x7_2 (rd (rd_L2 t469 x6_1) x7_2) (wrap64 (x9_3 + 1)) t487 (wrap64 (x11_3 + 1)) a0_0 l0_1 a0_2 l0_3 l0_4 l0_5)) = some r := by rw [if_neg (show ¬ (false = true) by decide)] at H; exact H
                      clear H
                      have H := H1
                      clear H1
                      replace H := Option.bind_eq_some_iff.mp H
                      obtain ⟨t487, A410, H⟩ := H
                      replace H : (truantlaw10_DomMeets.l2 k3 t469 t472 t475 x6_1 x7_2 (rd (rd_L2 t469 x6_1) x7_2) (wrap64 (x9_3 + 1)) t487 (wrap64 (x11_3 + 1)) a0_0 l0_1 a0_2 l0_3 l0_4 l0_5) = some r := H
                      have A41 := Aside0.mk A410
                      clear A410
                      have H' := Aside0.mk H
                      clear H
                      obtain ⟨Ao42, co42, eo42⟩ := Kd.S_slice HO_5.out
                      subst eo42
                      have p481 : 0 ≤ ((rd (rd_L2 t469 x6_1) x7_2) : Int) := of_decide_eq_true (by first | (with_reducible assumption) | assumption)
                      have q481 : (rd (rd_L2 t469 x6_1) x7_2) < (t475.length : Int) := of_decide_eq_true (by first | (with_reducible assumption) | assumption)
                      obtain ⟨ad481, A481_0, c481_0, e481, hx481_0, hl481_0, hi481_0⟩ := at_L2 (Kd.S_reads' HO_5.out).2.2 (rd (rd_L2 t469 x6_1) x7_2) p481 q481
                      cases e481
                      obtain ⟨ce481, hce481, hMe481, hcc481⟩ := Kd.S_get HO_5.out [] (rd (rd_L2 t469 x6_1) x7_2) p481 (by first | exact q481 | exact of_decide_eq_true (by first | (with_reducible assumption) | assumption) | (have e_ := (Kd.S_reads' HO_5.out).1; omega))
                      obtain ⟨ve481_0, rfl, ge481_0⟩ := hMe481
                      have hv481_0 := hcc481 0 _ rfl
                      rw [Nat.add_zero, show ((Kd.slice 3 (Kd.int .i64))).sz = 1 from rfl, Nat.mul_one] at hv481_0
                      replace hv481_0 := Option.some.inj (hv481_0.symm.trans hx481_0)
                      rw [hv481_0] at ge481_0
                      have HL481_0 := Aside0.mk (show Kd.R (Kd.int .i64) 3 _ _ _ _ (rd_L2 t475 (rd (rd_L2 t469 x6_1) x7_2)) from ge481_0)
                      clear hv481_0 ge481_0
                      clear hcc481 hce481
                      have HR481_0 := Aside0.mk hi481_0
                      have HC481_0 := Aside0.mk hl481_0
                      clear hi481_0 hl481_0
                      replace p481 := eq_true p481
                      replace q481 := eq_true q481
                      have p482 : 0 ≤ ((rd (rd_L2 t469 x6_1) x7_2) : Int) := of_decide_eq_true (by first | (with_reducible assumption) | assumption)
                      have q482 : (rd (rd_L2 t469 x6_1) x7_2) < (t475.length : Int) := of_decide_eq_true (by first | (with_reducible assumption) | assumption)
                      obtain ⟨ad482, A482_0, c482_0, e482, hx482_0, hl482_0, hi482_0⟩ := at_L2 (Kd.S_reads' HO_5.out).2.2 (rd (rd_L2 t469 x6_1) x7_2) p482 q482
                      obtain rfl : ad481 = ad482 := (by injection e482)
                      obtain ⟨ce482, hce482, hMe482, hcc482⟩ := Kd.S_get HO_5.out [] (rd (rd_L2 t469 x6_1) x7_2) p482 (by first | exact q482 | exact of_decide_eq_true (by first | (with_reducible assumption) | assumption) | (have e_ := (Kd.S_reads' HO_5.out).1; omega))
                      obtain ⟨ve482_0, rfl, ge482_0⟩ := hMe482
                      have hv482_0 := hcc482 0 _ rfl
                      rw [Nat.add_zero, show ((Kd.slice 3 (Kd.int .i64))).sz = 1 from rfl, Nat.mul_one] at hv482_0
                      replace hv482_0 := Option.some.inj (hv482_0.symm.trans hx482_0)
                      rw [hv482_0] at ge482_0
                      have HL482_0 := Aside0.mk (show Kd.R (Kd.int .i64) 3 _ _ _ _ (rd_L2 t475 (rd (rd_L2 t469 x6_1) x7_2)) from ge482_0)
                      clear hv482_0 ge482_0
                      clear hcc482 hce482
                      have HR482_0 := Aside0.mk hi482_0
                      have HC482_0 := Aside0.mk hl482_0
                      clear hi482_0 hl482_0
                      replace p482 := eq_true p482
                      replace q482 := eq_true q482
                      have ea_ := Option.some.inj (hx481_0.symm.trans hx482_0)
                      injection ea_ with ea_ en_ ec_
                      subst ea_
                      subst ec_
                      clear en_
                      have p483 : 0 ≤ (x11_3 : Int) := of_decide_eq_true (by first | (with_reducible assumption) | assumption)
                      have q483 : x11_3 < ((rd_L2 t475 (rd (rd_L2 t469 x6_1) x7_2)).length : Int) := of_decide_eq_true (by first | (with_reducible assumption) | assumption)
                      obtain ⟨ad483, e483, hx483_0⟩ := Kd.at_int (by repeat (first | (with_reducible exact HR482_0.out) | (with_reducible refine Kd.C_alloc ?_ _) | (with_reducible refine Kd.C_drewN ?_ _) | (with_reducible refine Kd.C_drew ?_) | exact HR482_0.out)) x11_3 p483 q483
                      cases e483
                      replace p483 := eq_true p483
                      replace q483 := eq_true q483
                      obtain ⟨Ao43, co43, eo43⟩ := Kd.R_slice HO_4.out
                      subst eo43
                      have p484 : 0 ≤ ((rd (rd_L2 t475 (rd (rd_L2 t469 x6_1) x7_2)) x11_3) : Int) := of_decide_eq_true (by first | (with_reducible assumption) | assumption)
                      have q484 : (rd (rd_L2 t475 (rd (rd_L2 t469 x6_1) x7_2)) x11_3) < (t472.length : Int) := of_decide_eq_true (by first | (with_reducible assumption) | assumption)
                      obtain ⟨ad484, e484, hx484_0⟩ := Kd.at_bool (Kd.R_reads' HO_4.out).2.2 (rd (rd_L2 t475 (rd (rd_L2 t469 x6_1) x7_2)) x11_3) p484 q484
                      (try rw [← Nbq35.out] at hx484_0)
                      cases e484
                      replace p484 := eq_true p484
                      replace q484 := eq_true q484
                      try go_wp2
                      have n0_ := Aside0.mk (Kd.S_drew HO_3.out)
                      have n1_ := Aside0.mk (Kd.R_drew HO_4.out)
                      have n2_ := Aside0.mk (Kd.S_drew HO_5.out)
                      have n3_ := Aside0.mk (Kd.R_drew HL481_0.out)
                      have n4_ := Aside0.mk (Kd.R_drew HL482_0.out)
                      have n5_ := Aside0.mk (blk_drew BK466.out)
                      have n6_ := Aside0.mk (Kd.C_drew HR478_0.out)
                      have n7_ := Aside0.mk (Kd.C_drew HR479_0.out)
                      have n8_ := Aside0.mk (Kd.C_drew HR481_0.out)
                      have n9_ := Aside0.mk (Kd.C_drew HR482_0.out)
                      have n10_ := Aside0.mk (below_drew1 HB.out)
                      clear HO_3
                      clear HO_4
                      clear HO_5
                      clear HL481_0
                      clear HL482_0
                      clear BK466
                      clear HR478_0
                      clear HR479_0
                      clear HR481_0
                      clear HR482_0
                      clear HB
                      have HO_3 := n0_
                      have HO_4 := n1_
                      have HO_5 := n2_
                      have HL481_0 := n3_
                      have HL482_0 := n4_
                      have BK466 := n5_
                      have HR478_0 := n6_
                      have HR479_0 := n7_
                      have HR481_0 := n8_
                      have HR482_0 := n9_
                      have HB := n10_
                      clear n0_ n1_ n2_ n3_ n4_ n5_ n6_ n7_ n8_ n9_ n10_
                      have p485 : 0 ≤ ((rd (rd_L2 t469 x6_1) x7_2) : Int) := of_decide_eq_true (by first | (with_reducible assumption) | assumption)
                      have q485 : (rd (rd_L2 t469 x6_1) x7_2) < (t475.length : Int) := of_decide_eq_true (by first | (with_reducible assumption) | assumption)
                      obtain ⟨ad485, A485_0, c485_0, e485, hx485_0, hl485_0, hi485_0⟩ := at_L2 (Kd.S_reads' HO_5.out).2.2 (rd (rd_L2 t469 x6_1) x7_2) p485 q485
                      obtain rfl : ad481 = ad485 := (by injection e485)
                      obtain ⟨ce485, hce485, hMe485, hcc485⟩ := Kd.S_get HO_5.out [] (rd (rd_L2 t469 x6_1) x7_2) p485 (by first | exact q485 | exact of_decide_eq_true (by first | (with_reducible assumption) | assumption) | (have e_ := (Kd.S_reads' HO_5.out).1; omega))
                      obtain ⟨ve485_0, rfl, ge485_0⟩ := hMe485
                      have hv485_0 := hcc485 0 _ rfl
                      rw [Nat.add_zero, show ((Kd.slice 3 (Kd.int .i64))).sz = 1 from rfl, Nat.mul_one] at hv485_0
                      replace hv485_0 := Option.some.inj (hv485_0.symm.trans hx485_0)
                      rw [hv485_0] at ge485_0
                      have HL485_0 := Aside0.mk (show Kd.R (Kd.int .i64) 3 _ _ _ _ (rd_L2 t475 (rd (rd_L2 t469 x6_1) x7_2)) from ge485_0)
                      clear hv485_0 ge485_0
                      clear hcc485 hce485
                      have HR485_0 := Aside0.mk hi485_0
                      have HC485_0 := Aside0.mk hl485_0
                      clear hi485_0 hl485_0
                      replace p485 := eq_true p485
                      replace q485 := eq_true q485
                      have p486 : 0 ≤ (x11_3 : Int) := of_decide_eq_true (by first | (with_reducible assumption) | assumption)
                      have q486 : x11_3 < ((rd_L2 t475 (rd (rd_L2 t469 x6_1) x7_2)).length : Int) := of_decide_eq_true (by first | (with_reducible assumption) | assumption)
                      obtain ⟨ad486, e486, hx486_0⟩ := Kd.at_int (by repeat (first | (with_reducible exact HR485_0.out) | (with_reducible refine Kd.C_alloc ?_ _) | (with_reducible refine Kd.C_drewN ?_ _) | (with_reducible refine Kd.C_drew ?_) | exact HR485_0.out)) x11_3 p486 q486
                      cases e486
                      replace p486 := eq_true p486
                      replace q486 := eq_true q486
                      refine start_ (n := 14) (S := fun w' => w'.cell? ⟨gb466, 0, none⟩ = some (.string a0_0) ∧ w'.cell? ⟨gb466, 1, none⟩ = some (.slice A0_1 l0_1.length c0_1) ∧ w'.cell? ⟨gb466, 2, none⟩ = some (.string a0_2) ∧ w'.cell? ⟨gb466, 3, none⟩ = some (.slice A0_3 l0_3.length c0_3) ∧ w'.cell? ⟨gb466, 4, none⟩ = some (.slice A0_4 l0_4.length c0_4) ∧ w'.cell? ⟨gb466, 5, none⟩ = some (.slice A0_5 l0_5.length c0_5) ∧ w'.cell? (ad481.add ((rd (rd_L2 t469 x6_1) x7_2)).toNat) = some (.slice (some ad486) (rd_L2 t475 (rd (rd_L2 t469 x6_1) x7_2)).length c485_0) ∧ w'.cell? (ad486.add (x11_3).toNat) = some (.int .i64 (rd (rd_L2 t475 (rd (rd_L2 t469 x6_1) x7_2)) x11_3))) (ds := []) #[false, false, false, false, false, false, false, false, false, false, false, false, false, false] (by kernel_rfl) rfl rfl ⟨(blk_cell BK466.out 0).trans rfl, (blk_cell BK466.out 1).trans rfl, (blk_cell BK466.out 2).trans rfl, (blk_cell BK466.out 3).trans rfl, (blk_cell BK466.out 4).trans rfl, (blk_cell BK466.out 5).trans rfl, hx485_0, hx486_0⟩ (fun hHeld => ?_); refine with_tabW truantlaw10_DomMeets.tab22 truantlaw10_DomMeets.bits22 (fun HT_ HW_ => ?_)
                      generalize wr.drew = w44 at HO_3 HO_4 HO_5 HL481_0 HL482_0 BK466 HR478_0 HR479_0 HR481_0 HR482_0 HB HL485_0 HR485_0 hx485_0 hx486_0 hHeld ⊢
                      refine pure_ (i := 0) (N := some 65) (v := ?_) (a' := ?_) #[true, false, false, false, false, false, false, false, false, false, false, false, false, false] rfl rfl (any_of HT_.out (by kernel_rfl)) (fun _ _ _ h => h) (Or.inl ⟨by rfl, ?_⟩) ?_ ?_
                      rotate_left
                      ·intro w'
                       go_simp
                       with_reducible rfl
                      rotate_left
                      ·simp only [Act.put, List.setIfInBounds_toArray, List.set_cons_zero, List.set_cons_succ, i64_w, i32_w]
                       rfl
                      refine pure_ (i := 1) (N := some 66) (v := ?_) (a' := ?_) #[true, true, false, false, false, false, false, false, false, false, false, false, false, false] rfl rfl (any_of HT_.out (by kernel_rfl)) (fun _ _ _ h => h) (Or.inl ⟨by rfl, ?_⟩) ?_ ?_
                      rotate_left
                      ·intro w'
                       go_simp
                       with_reducible rfl
                      rotate_left
                      ·simp only [Act.put, List.setIfInBounds_toArray, List.set_cons_zero, List.set_cons_succ, i64_w, i32_w]
                       rfl
                      refine pure_ (i := 3) (N := some 68) (v := ?_) (a' := ?_) #[true, true, false, true, false, false, false, false, false, false, false, false, false, false] rfl rfl (any_of HT_.out (by kernel_rfl)) (fun _ _ _ h => h) (Or.inl ⟨by rfl, ?_⟩) ?_ ?_
                      rotate_left
                      ·intro w'
                       go_simp
                       with_reducible rfl
                      rotate_left
                      ·simp only [Act.put, List.setIfInBounds_toArray, List.set_cons_zero, List.set_cons_succ, i64_w, i32_w]
                       rfl
                      refine pure_ (i := 4) (N := some 69) (v := ?_) (a' := ?_) #[true, true, false, true, true, false, false, false, false, false, false, false, false, false] rfl rfl (any_of HT_.out (by kernel_rfl)) (fun _ _ _ h => h) (Or.inl ⟨by rfl, ?_⟩) ?_ ?_
                      rotate_left
                      ·intro w'
                       go_simp
                       with_reducible rfl
                      rotate_left
                      ·simp only [Act.put, List.setIfInBounds_toArray, List.set_cons_zero, List.set_cons_succ, i64_w, i32_w]
                       rfl
                      refine pure_ (i := 5) (N := some 70) (v := ?_) (a' := ?_) #[true, true, false, true, true, true, false, false, false, false, false, false, false, false] rfl rfl (any_of HT_.out (by kernel_rfl)) (fun _ _ _ h => h) (Or.inl ⟨by rfl, ?_⟩) ?_ ?_
                      rotate_left
                      ·intro w'
                       go_simp
                       with_reducible rfl
                      rotate_left
                      ·simp only [Act.put, List.setIfInBounds_toArray, List.set_cons_zero, List.set_cons_succ, i64_w, i32_w]
                       rfl
                      refine pure_ (i := 6) (N := some 71) (v := ?_) (a' := ?_) #[true, true, false, true, true, true, true, false, false, false, false, false, false, false] rfl rfl (any_of HT_.out (by kernel_rfl)) (fun _ _ _ h => h) (Or.inl ⟨by rfl, ?_⟩) ?_ ?_
                      rotate_left
                      ·intro w'
                       go_simp
                       with_reducible rfl
                      rotate_left
                      ·simp only [Act.put, List.setIfInBounds_toArray, List.set_cons_zero, List.set_cons_succ, i64_w, i32_w]
                       rfl
                      refine pure_ (i := 8) (N := some 73) (v := ?_) (a' := ?_) #[true, true, false, true, true, true, true, false, true, false, false, false, false, false] rfl rfl (any_of HT_.out (by kernel_rfl)) (fun _ _ _ h => h) (Or.inl ⟨by rfl, ?_⟩) ?_ ?_
                      rotate_left
                      ·intro w'
                       go_simp
                       with_reducible rfl
                      rotate_left
                      ·simp only [Act.put, List.setIfInBounds_toArray, List.set_cons_zero, List.set_cons_succ, i64_w, i32_w]
                       rfl
                      refine take_ (i := 2) (N := some 67) (v := ?_) (a' := ?_) #[true, true, true, true, true, true, true, false, true, false, false, false, false, false] rfl rfl (take_ofW HT_.out HW_.out (by kernel_rfl)) (fun _ _ _ h => h) (Or.inl ⟨by rfl, ?_⟩) hHeld ?_ ?_
                      rotate_left
                      ·rintro w' ⟨s0, s1, s2, s3, s4, s5, s6, s7⟩
                       go_simp
                       with_reducible rfl
                      rotate_left
                      ·simp only [Act.put, List.setIfInBounds_toArray, List.set_cons_zero, List.set_cons_succ, i64_w, i32_w]
                       rfl
                      refine take_ (i := 7) (N := some 72) (v := ?_) (a' := ?_) #[true, true, true, true, true, true, true, true, true, false, false, false, false, false] rfl rfl (take_ofW HT_.out HW_.out (by kernel_rfl)) (fun _ _ _ h => h) (Or.inl ⟨by rfl, ?_⟩) hHeld ?_ ?_
                      rotate_left
                      ·rintro w' ⟨s0, s1, s2, s3, s4, s5, s6, s7⟩
                       go_simp
                       with_reducible rfl
                      rotate_left
                      ·simp only [Act.put, List.setIfInBounds_toArray, List.set_cons_zero, List.set_cons_succ, i64_w, i32_w]
                       rfl
                      refine pure_ (i := 9) (N := some 74) (v := ?_) (a' := ?_) #[true, true, true, true, true, true, true, true, true, true, false, false, false, false] rfl rfl (any_of HT_.out (by kernel_rfl)) (fun _ _ _ h => h) (Or.inl ⟨by rfl, ?_⟩) ?_ ?_
                      rotate_left
                      ·intro w'
                       go_simp
                       with_reducible rfl
                      rotate_left
                      ·simp only [Act.put, List.setIfInBounds_toArray, List.set_cons_zero, List.set_cons_succ, i64_w, i32_w]
                       rfl
                      refine take_ (i := 10) (N := some 75) (v := ?_) (a' := ?_) #[true, true, true, true, true, true, true, true, true, true, true, false, false, false] rfl rfl (take_ofW HT_.out HW_.out (by kernel_rfl)) (fun _ _ _ h => h) (Or.inl ⟨by rfl, ?_⟩) hHeld ?_ ?_
                      rotate_left
                      ·rintro w' ⟨s0, s1, s2, s3, s4, s5, s6, s7⟩
                       go_simp
                       with_reducible rfl
                      rotate_left
                      ·simp only [Act.put, List.setIfInBounds_toArray, List.set_cons_zero, List.set_cons_succ, i64_w, i32_w]
                       rfl
                      refine one_ (i := 11) (N := some 76) #[true, true, true, true, true, true, true, true, true, true, true, true, false, false] rfl rfl (one_of HT_.out (by kernel_rfl)) (by decide) (fun K hK => ?_)
                      refine goes_ Try.func43 (by kernel_rfl) rfl #[.agg #[.string a0_0, .slice A0_1 l0_1.length c0_1, .string a0_2, .slice A0_3 l0_3.length c0_3, .slice A0_4 l0_4.length c0_4, .slice A0_5 l0_5.length c0_5], .int .i64 x6_1, .int .i64 (rd (rd_L2 t475 (rd (rd_L2 t469 x6_1) x7_2)) x11_3)] (by rfl) rfl rfl (by (try simp only [List.map_toArray, List.map_cons, List.map_nil]); first | done | rfl | (simp only [List.length_drop, List.length_take]; rfl)) ?_
                      with_reducible refine (dom_Is.calls a0_0 _ _ l0_1 a0_2 _ _ l0_3 _ _ l0_4 _ _ l0_5 x6_1 (rd (rd_L2 t475 (rd (rd_L2 t469 x6_1) x7_2)) x11_3) t487 _ ?side1 ?side2 ?side3 ?side4 ?side5 ?side6 ?side7 ?side8 A41.out).mono ?_
                      (case side1 => repeat (first | exact (Kd.C_below HR0_1.out HB.out) | (with_reducible refine Kd.C_alloc ?_ _) | (with_reducible refine Kd.C_drewN ?_ _) | (with_reducible refine Kd.C_drew ?_)))
                      (case side2 => exact HC0_1.out)
                      (case side3 => repeat (first | exact (Kd.C_below HR0_3.out HB.out) | (with_reducible refine Kd.C_alloc ?_ _) | (with_reducible refine Kd.C_drewN ?_ _) | (with_reducible refine Kd.C_drew ?_)))
                      (case side4 => exact HC0_3.out)
                      (case side5 => repeat (first | exact (Kd.C_below HR0_4.out HB.out) | (with_reducible refine Kd.C_alloc ?_ _) | (with_reducible refine Kd.C_drewN ?_ _) | (with_reducible refine Kd.C_drew ?_)))
                      (case side6 => exact HC0_4.out)
                      (case side7 => repeat (first | exact (Kd.C_below HR0_5.out HB.out) | (with_reducible refine Kd.C_alloc ?_ _) | (with_reducible refine Kd.C_drewN ?_ _) | (with_reducible refine Kd.C_drew ?_)))
                      (case side8 => exact HC0_5.out)
                      rintro e w45 ⟨rfl, hb⟩
                      have HS6_ := (hb.cell (World.block_lt_of_cell? _ _ (hHeld.2.2.2.2.2.2.1))).trans (hHeld.2.2.2.2.2.2.1)
                      have HS7_ := (hb.cell (World.block_lt_of_cell? _ _ (hHeld.2.2.2.2.2.2.2))).trans (hHeld.2.2.2.2.2.2.2)
                      refine ⟨_, rfl, ?_⟩
                      have n0_ := Aside0.mk (Kd.S_below (by (with_reducible repeat (first | apply Kd.S_alloc | apply Kd.S_drewN | apply Kd.S_drew)); exact HO_3.out) hb)
                      have n1_ := Aside0.mk (Kd.R_below (by (with_reducible repeat (first | apply Kd.R_alloc | apply Kd.R_drewN | apply Kd.R_drew)); exact HO_4.out) hb)
                      have n2_ := Aside0.mk (Kd.S_below (by (with_reducible repeat (first | apply Kd.S_alloc | apply Kd.S_drewN | apply Kd.S_drew)); exact HO_5.out) hb)
                      have n3_ := Aside0.mk (Kd.R_below (by (with_reducible repeat (first | apply Kd.R_alloc | apply Kd.R_drewN | apply Kd.R_drew)); exact HL481_0.out) hb)
                      have n4_ := Aside0.mk (Kd.R_below (by (with_reducible repeat (first | apply Kd.R_alloc | apply Kd.R_drewN | apply Kd.R_drew)); exact HL482_0.out) hb)
                      have n5_ := Aside0.mk (Kd.R_below (by (with_reducible repeat (first | apply Kd.R_alloc | apply Kd.R_drewN | apply Kd.R_drew)); exact HL485_0.out) hb)
                      have n6_ := Aside0.mk (blk_below (g := gb466) (o := .cells #[.string a0_0, .slice A0_1 l0_1.length c0_1, .string a0_2, .slice A0_3 l0_3.length c0_3, .slice A0_4 l0_4.length c0_4, .slice A0_5 l0_5.length c0_5] 26 (0, 0)) (by (with_reducible repeat (first | refine blk_drewN ?_ _ | refine blk_drew ?_ | refine blk_alloc ?_ _)); exact BK466.out) hb)
                      have n7_ := Aside0.mk (Kd.C_below (by repeat (first | (with_reducible exact HR478_0.out) | (with_reducible refine Kd.C_alloc ?_ _) | (with_reducible refine Kd.C_drewN ?_ _) | (with_reducible refine Kd.C_drew ?_) | exact HR478_0.out)) hb)
                      have n8_ := Aside0.mk (Kd.C_below (by repeat (first | (with_reducible exact HR479_0.out) | (with_reducible refine Kd.C_alloc ?_ _) | (with_reducible refine Kd.C_drewN ?_ _) | (with_reducible refine Kd.C_drew ?_) | exact HR479_0.out)) hb)
                      have n9_ := Aside0.mk (Kd.C_below (by repeat (first | (with_reducible exact HR481_0.out) | (with_reducible refine Kd.C_alloc ?_ _) | (with_reducible refine Kd.C_drewN ?_ _) | (with_reducible refine Kd.C_drew ?_) | exact HR481_0.out)) hb)
                      have n10_ := Aside0.mk (Kd.C_below (by repeat (first | (with_reducible exact HR482_0.out) | (with_reducible refine Kd.C_alloc ?_ _) | (with_reducible refine Kd.C_drewN ?_ _) | (with_reducible refine Kd.C_drew ?_) | exact HR482_0.out)) hb)
                      have n11_ := Aside0.mk (Kd.C_below (by repeat (first | (with_reducible exact HR485_0.out) | (with_reducible refine Kd.C_alloc ?_ _) | (with_reducible refine Kd.C_drewN ?_ _) | (with_reducible refine Kd.C_drew ?_) | exact HR485_0.out)) hb)
                      have n12_ := Aside0.mk (below_step (by repeat (first | (with_reducible first | exact HB.out | apply below_alloc | apply pw_below_drewN | apply below_drew1 | refine below_set ?_ GE466.out) | exact HB.out)) hb)
                      clear HO_3
                      clear HO_4
                      clear HO_5
                      clear HL481_0
                      clear HL482_0
                      clear HL485_0
                      clear BK466
                      clear HR478_0
                      clear HR479_0
                      clear HR481_0
                      clear HR482_0
                      clear HR485_0
                      clear HB
                      have HO_3 := n0_
                      have HO_4 := n1_
                      have HO_5 := n2_
                      have HL481_0 := n3_
                      have HL482_0 := n4_
                      have HL485_0 := n5_
                      have BK466 := n6_
                      have HR478_0 := n7_
                      have HR479_0 := n8_
                      have HR481_0 := n9_
                      have HR482_0 := n10_
                      have HR485_0 := n11_
                      have HB := n12_
                      clear n0_ n1_ n2_ n3_ n4_ n5_ n6_ n7_ n8_ n9_ n10_ n11_ n12_
                      (try clear hb)
                      (try clear hb2)
                      (try clear hk)
                      (try clear hi)
                      refine hK.out _ _ ⟨(blk_cell BK466.out 0).trans rfl, (blk_cell BK466.out 1).trans rfl, (blk_cell BK466.out 2).trans rfl, (blk_cell BK466.out 3).trans rfl, (blk_cell BK466.out 4).trans rfl, (blk_cell BK466.out 5).trans rfl, HS6_, HS7_⟩ (fun hHeld => ?_)
                      clear hK K
                      refine norm_ (a' := ?_) ?_ ?_
                      rotate_left
                      ·show Act.put _ (some 76) _ = _
                       simp only [Act.put, List.setIfInBounds_toArray, List.set_cons_zero, List.set_cons_succ, i64_w, i32_w]
                       rfl
                      refine pure_ (i := 12) (N := some 77) (v := ?_) (a' := ?_) #[true, true, true, true, true, true, true, true, true, true, true, true, true, false] rfl rfl (any_of HT_.out (by kernel_rfl)) (fun _ _ _ h => h) (Or.inl ⟨by rfl, ?_⟩) ?_ ?_
                      rotate_left
                      ·intro w'
                       go_simp
                       with_reducible rfl
                      rotate_left
                      ·simp only [Act.put, List.setIfInBounds_toArray, List.set_cons_zero, List.set_cons_succ, i64_w, i32_w]
                       rfl
                      refine pure_ (i := 13) (N := some 10) (v := ?_) (a' := ?_) #[true, true, true, true, true, true, true, true, true, true, true, true, true, true] rfl rfl (any_of HT_.out (by kernel_rfl)) (fun _ _ _ h => h) (Or.inl ⟨by rfl, ?_⟩) ?_ ?_
                      rotate_left
                      ·intro w'
                       go_simp
                       with_reducible rfl
                      rotate_left
                      ·simp only [Act.put, List.setIfInBounds_toArray, List.set_cons_zero, List.set_cons_succ, i64_w, i32_w]
                       rfl
                      refine done_ (done_of HT_.out (by kernel_rfl)) ?_
                      try go_wp2
                      go_roundg k3
                      case measure => have := HK1.out; have := HK2.out; have := HK3.out; omega
                      case rel => exact ⟨(wrap64 (x9_3 + 1)), (t487), (wrap64 (x11_3 + 1)), (by first | rfl | (simp; done) | (simp [*]; done)), (by first | rfl | (simp; done) | (simp [*]; done)), (by first | rfl | (simp; done) | (simp [*]; done)), H', ⟨by have := HK1.out; have := HK2.out; have := HK3.out; omega⟩, ⟨by (with_reducible repeat (first | apply Kd.S_alloc | apply Kd.S_drewN | apply Kd.S_drew)); exact HO_3.out⟩, ⟨by (with_reducible repeat (first | apply Kd.R_alloc | apply Kd.R_drewN | apply Kd.R_drew)); exact HO_4.out⟩, ⟨by (with_reducible repeat (first | apply Kd.S_alloc | apply Kd.S_drewN | apply Kd.S_drew)); exact HO_5.out⟩, ⟨by (with_reducible repeat (first | refine blk_drewN ?_ _ | refine blk_drew ?_ | refine blk_alloc ?_ _)); exact BK466.out⟩, ⟨by repeat (first | (with_reducible exact HR478_0.out) | (with_reducible refine Kd.C_alloc ?_ _) | (with_reducible refine Kd.C_drewN ?_ _) | (with_reducible refine Kd.C_drew ?_) | exact HR478_0.out)⟩, ⟨by repeat (first | (with_reducible exact HR479_0.out) | (with_reducible refine Kd.C_alloc ?_ _) | (with_reducible refine Kd.C_drewN ?_ _) | (with_reducible refine Kd.C_drew ?_) | exact HR479_0.out)⟩, ⟨by repeat (first | (with_reducible first | exact HB.out | apply below_alloc | apply pw_below_drewN | apply below_drew1 | refine below_set ?_ GE466.out) | exact HB.out)⟩⟩
                    ·replace c36 := Bool.eq_false_iff.mpr c36
                     subst c36
                     have H1 : (if x10_3 = true then (truantlaw10_DomMeets.l2 k3 t469 t472 t475 x6_1 x7_2 (rd (rd_L2 t469 x6_1) x7_2) x9_3 true (wrap64 (x11_3 + 1)) a0_0 l0_1 a0_2 l0_3 l0_4 l0_5) else ((dom_Is.f a0_0 l0_1 a0_2 l0_3 l0_4 l0_5 x6_1 (rd (rd_L2 t475 (rd (rd_L2 t469 x6_1) x7_2)) x11_3)).bind fun t490 => (truantlaw10_DomMeets.l2 k3 t469 t472 t475 x6_1 x7_2 (rd (rd_L2 t469 x6_1) x7_2) x9_3 t490 (wrap64 (x11_3 + 1)) a0_0 l0_1 a0_2 l0_3 l0_4 l0_5))) = some r := by rw [if_neg (show ¬ (false = true) by decide)] at H; exact H
                     clear H
                     have H := H1
                     clear H1
                     by_cases c46 : x10_3 = true
                     ·subst c46
                      have H1 : (truantlaw10_DomMeets.l2 k3 t469 t472 t475 x6_1 x7_2 (rd (rd_L2 t469 x6_1) x7_2) x9_3 true (wrap64 (x11_3 + 1)) a0_0 l0_1 a0_2 l0_3 l0_4 l0_5) = some r := by rw [if_pos rfl] at H; exact H
                      clear H
                      have H := H1
                      clear H1
                      have H' := Aside0.mk H
                      clear H
                      obtain ⟨Ao47, co47, eo47⟩ := Kd.S_slice HO_5.out
                      subst eo47
                      have p481 : 0 ≤ ((rd (rd_L2 t469 x6_1) x7_2) : Int) := of_decide_eq_true (by first | (with_reducible assumption) | assumption)
                      have q481 : (rd (rd_L2 t469 x6_1) x7_2) < (t475.length : Int) := of_decide_eq_true (by first | (with_reducible assumption) | assumption)
                      obtain ⟨ad481, A481_0, c481_0, e481, hx481_0, hl481_0, hi481_0⟩ := at_L2 (Kd.S_reads' HO_5.out).2.2 (rd (rd_L2 t469 x6_1) x7_2) p481 q481
                      cases e481
                      obtain ⟨ce481, hce481, hMe481, hcc481⟩ := Kd.S_get HO_5.out [] (rd (rd_L2 t469 x6_1) x7_2) p481 (by first | exact q481 | exact of_decide_eq_true (by first | (with_reducible assumption) | assumption) | (have e_ := (Kd.S_reads' HO_5.out).1; omega))
                      obtain ⟨ve481_0, rfl, ge481_0⟩ := hMe481
                      have hv481_0 := hcc481 0 _ rfl
                      rw [Nat.add_zero, show ((Kd.slice 3 (Kd.int .i64))).sz = 1 from rfl, Nat.mul_one] at hv481_0
                      replace hv481_0 := Option.some.inj (hv481_0.symm.trans hx481_0)
                      rw [hv481_0] at ge481_0
                      have HL481_0 := Aside0.mk (show Kd.R (Kd.int .i64) 3 _ _ _ _ (rd_L2 t475 (rd (rd_L2 t469 x6_1) x7_2)) from ge481_0)
                      clear hv481_0 ge481_0
                      clear hcc481 hce481
                      have HR481_0 := Aside0.mk hi481_0
                      have HC481_0 := Aside0.mk hl481_0
                      clear hi481_0 hl481_0
                      replace p481 := eq_true p481
                      replace q481 := eq_true q481
                      have p482 : 0 ≤ ((rd (rd_L2 t469 x6_1) x7_2) : Int) := of_decide_eq_true (by first | (with_reducible assumption) | assumption)
                      have q482 : (rd (rd_L2 t469 x6_1) x7_2) < (t475.length : Int) := of_decide_eq_true (by first | (with_reducible assumption) | assumption)
                      obtain ⟨ad482, A482_0, c482_0, e482, hx482_0, hl482_0, hi482_0⟩ := at_L2 (Kd.S_reads' HO_5.out).2.2 (rd (rd_L2 t469 x6_1) x7_2) p482 q482
                      obtain rfl : ad481 = ad482 := (by injection e482)
                      obtain ⟨ce482, hce482, hMe482, hcc482⟩ := Kd.S_get HO_5.out [] (rd (rd_L2 t469 x6_1) x7_2) p482 (by first | exact q482 | exact of_decide_eq_true (by first | (with_reducible assumption) | assumption) | (have e_ := (Kd.S_reads' HO_5.out).1; omega))
                      obtain ⟨ve482_0, rfl, ge482_0⟩ := hMe482
                      have hv482_0 := hcc482 0 _ rfl
                      rw [Nat.add_zero, show ((Kd.slice 3 (Kd.int .i64))).sz = 1 from rfl, Nat.mul_one] at hv482_0
                      replace hv482_0 := Option.some.inj (hv482_0.symm.trans hx482_0)
                      rw [hv482_0] at ge482_0
                      have HL482_0 := Aside0.mk (show Kd.R (Kd.int .i64) 3 _ _ _ _ (rd_L2 t475 (rd (rd_L2 t469 x6_1) x7_2)) from ge482_0)
                      clear hv482_0 ge482_0
                      clear hcc482 hce482
                      have HR482_0 := Aside0.mk hi482_0
                      have HC482_0 := Aside0.mk hl482_0
                      clear hi482_0 hl482_0
                      replace p482 := eq_true p482
                      replace q482 := eq_true q482
                      have ea_ := Option.some.inj (hx481_0.symm.trans hx482_0)
                      injection ea_ with ea_ en_ ec_
                      subst ea_
                      subst ec_
                      clear en_
                      have p483 : 0 ≤ (x11_3 : Int) := of_decide_eq_true (by first | (with_reducible assumption) | assumption)
                      have q483 : x11_3 < ((rd_L2 t475 (rd (rd_L2 t469 x6_1) x7_2)).length : Int) := of_decide_eq_true (by first | (with_reducible assumption) | assumption)
                      obtain ⟨ad483, e483, hx483_0⟩ := Kd.at_int (by repeat (first | (with_reducible exact HR482_0.out) | (with_reducible refine Kd.C_alloc ?_ _) | (with_reducible refine Kd.C_drewN ?_ _) | (with_reducible refine Kd.C_drew ?_) | exact HR482_0.out)) x11_3 p483 q483
                      cases e483
                      replace p483 := eq_true p483
                      replace q483 := eq_true q483
                      obtain ⟨Ao48, co48, eo48⟩ := Kd.R_slice HO_4.out
                      subst eo48
                      have p484 : 0 ≤ ((rd (rd_L2 t475 (rd (rd_L2 t469 x6_1) x7_2)) x11_3) : Int) := of_decide_eq_true (by first | (with_reducible assumption) | assumption)
                      have q484 : (rd (rd_L2 t475 (rd (rd_L2 t469 x6_1) x7_2)) x11_3) < (t472.length : Int) := of_decide_eq_true (by first | (with_reducible assumption) | assumption)
                      obtain ⟨ad484, e484, hx484_0⟩ := Kd.at_bool (Kd.R_reads' HO_4.out).2.2 (rd (rd_L2 t475 (rd (rd_L2 t469 x6_1) x7_2)) x11_3) p484 q484
                      (try rw [← Nbq35.out] at hx484_0)
                      cases e484
                      replace p484 := eq_true p484
                      replace q484 := eq_true q484
                      try go_wp2
                      have n0_ := Aside0.mk (Kd.S_drew HO_3.out)
                      have n1_ := Aside0.mk (Kd.R_drew HO_4.out)
                      have n2_ := Aside0.mk (Kd.S_drew HO_5.out)
                      have n3_ := Aside0.mk (Kd.R_drew HL481_0.out)
                      have n4_ := Aside0.mk (Kd.R_drew HL482_0.out)
                      have n5_ := Aside0.mk (blk_drew BK466.out)
                      have n6_ := Aside0.mk (Kd.C_drew HR478_0.out)
                      have n7_ := Aside0.mk (Kd.C_drew HR479_0.out)
                      have n8_ := Aside0.mk (Kd.C_drew HR481_0.out)
                      have n9_ := Aside0.mk (Kd.C_drew HR482_0.out)
                      have n10_ := Aside0.mk (below_drew1 HB.out)
                      clear HO_3
                      clear HO_4
                      clear HO_5
                      clear HL481_0
                      clear HL482_0
                      clear BK466
                      clear HR478_0
                      clear HR479_0
                      clear HR481_0
                      clear HR482_0
                      clear HB
                      have HO_3 := n0_
                      have HO_4 := n1_
                      have HO_5 := n2_
                      have HL481_0 := n3_
                      have HL482_0 := n4_
                      have BK466 := n5_
                      have HR478_0 := n6_
                      have HR479_0 := n7_
                      have HR481_0 := n8_
                      have HR482_0 := n9_
                      have HB := n10_
                      clear n0_ n1_ n2_ n3_ n4_ n5_ n6_ n7_ n8_ n9_ n10_
                      refine start_ (n := 14) (S := fun w' => True) (ds := []) #[false, false, false, false, false, false, false, false, false, false, false, false, false, false] (by kernel_rfl) rfl rfl trivial (fun hHeld => ?_); refine with_tabW truantlaw10_DomMeets.tab22 truantlaw10_DomMeets.bits22 (fun HT_ HW_ => ?_)
                      generalize wr.drew = w49 at HO_3 HO_4 HO_5 HL481_0 HL482_0 BK466 HR478_0 HR479_0 HR481_0 HR482_0 HB hHeld ⊢
                      refine pure_ (i := 0) (N := some 65) (v := ?_) (a' := ?_) #[true, false, false, false, false, false, false, false, false, false, false, false, false, false] rfl rfl (any_of HT_.out (by kernel_rfl)) (fun _ _ _ h => h) (Or.inl ⟨by rfl, ?_⟩) ?_ ?_
                      rotate_left
                      ·intro w'
                       go_simp
                       with_reducible rfl
                      rotate_left
                      ·simp only [Act.put, List.setIfInBounds_toArray, List.set_cons_zero, List.set_cons_succ, i64_w, i32_w]
                       rfl
                      refine pure_ (i := 1) (N := some 66) (v := ?_) (a' := ?_) #[true, true, false, false, false, false, false, false, false, false, false, false, false, false] rfl rfl (any_of HT_.out (by kernel_rfl)) (fun _ _ _ h => h) (Or.inl ⟨by rfl, ?_⟩) ?_ ?_
                      rotate_left
                      ·intro w'
                       go_simp
                       with_reducible rfl
                      rotate_left
                      ·simp only [Act.put, List.setIfInBounds_toArray, List.set_cons_zero, List.set_cons_succ, i64_w, i32_w]
                       rfl
                      refine pure_ (i := 2) (N := some 67) (v := undef) (a' := ?_) #[true, true, true, false, false, false, false, false, false, false, false, false, false, false] rfl rfl (any_of HT_.out (by kernel_rfl)) (fun _ _ _ h => h) (Or.inr ⟨by rfl, rfl⟩) ?_ ?_
                      rotate_left
                      ·simp only [Act.put, List.setIfInBounds_toArray, List.set_cons_zero, List.set_cons_succ, i64_w, i32_w]
                       rfl
                      refine pure_ (i := 3) (N := some 68) (v := undef) (a' := ?_) #[true, true, true, true, false, false, false, false, false, false, false, false, false, false] rfl rfl (any_of HT_.out (by kernel_rfl)) (fun _ _ _ h => h) (Or.inr ⟨by rfl, rfl⟩) ?_ ?_
                      rotate_left
                      ·simp only [Act.put, List.setIfInBounds_toArray, List.set_cons_zero, List.set_cons_succ, i64_w, i32_w]
                       rfl
                      refine pure_ (i := 4) (N := some 69) (v := undef) (a' := ?_) #[true, true, true, true, true, false, false, false, false, false, false, false, false, false] rfl rfl (any_of HT_.out (by kernel_rfl)) (fun _ _ _ h => h) (Or.inr ⟨by rfl, rfl⟩) ?_ ?_
                      rotate_left
                      ·simp only [Act.put, List.setIfInBounds_toArray, List.set_cons_zero, List.set_cons_succ, i64_w, i32_w]
                       rfl
                      refine pure_ (i := 5) (N := some 70) (v := undef) (a' := ?_) #[true, true, true, true, true, true, false, false, false, false, false, false, false, false] rfl rfl (any_of HT_.out (by kernel_rfl)) (fun _ _ _ h => h) (Or.inr ⟨by rfl, rfl⟩) ?_ ?_
                      rotate_left
                      ·simp only [Act.put, List.setIfInBounds_toArray, List.set_cons_zero, List.set_cons_succ, i64_w, i32_w]
                       rfl
                      refine pure_ (i := 6) (N := some 71) (v := undef) (a' := ?_) #[true, true, true, true, true, true, true, false, false, false, false, false, false, false] rfl rfl (any_of HT_.out (by kernel_rfl)) (fun _ _ _ h => h) (Or.inr ⟨by rfl, rfl⟩) ?_ ?_
                      rotate_left
                      ·simp only [Act.put, List.setIfInBounds_toArray, List.set_cons_zero, List.set_cons_succ, i64_w, i32_w]
                       rfl
                      refine pure_ (i := 7) (N := some 72) (v := undef) (a' := ?_) #[true, true, true, true, true, true, true, true, false, false, false, false, false, false] rfl rfl (any_of HT_.out (by kernel_rfl)) (fun _ _ _ h => h) (Or.inr ⟨by rfl, rfl⟩) ?_ ?_
                      rotate_left
                      ·simp only [Act.put, List.setIfInBounds_toArray, List.set_cons_zero, List.set_cons_succ, i64_w, i32_w]
                       rfl
                      refine pure_ (i := 8) (N := some 73) (v := undef) (a' := ?_) #[true, true, true, true, true, true, true, true, true, false, false, false, false, false] rfl rfl (any_of HT_.out (by kernel_rfl)) (fun _ _ _ h => h) (Or.inr ⟨by rfl, rfl⟩) ?_ ?_
                      rotate_left
                      ·simp only [Act.put, List.setIfInBounds_toArray, List.set_cons_zero, List.set_cons_succ, i64_w, i32_w]
                       rfl
                      refine pure_ (i := 9) (N := some 74) (v := undef) (a' := ?_) #[true, true, true, true, true, true, true, true, true, true, false, false, false, false] rfl rfl (any_of HT_.out (by kernel_rfl)) (fun _ _ _ h => h) (Or.inr ⟨by rfl, rfl⟩) ?_ ?_
                      rotate_left
                      ·simp only [Act.put, List.setIfInBounds_toArray, List.set_cons_zero, List.set_cons_succ, i64_w, i32_w]
                       rfl
                      refine pure_ (i := 10) (N := some 75) (v := undef) (a' := ?_) #[true, true, true, true, true, true, true, true, true, true, true, false, false, false] rfl rfl (any_of HT_.out (by kernel_rfl)) (fun _ _ _ h => h) (Or.inr ⟨by rfl, rfl⟩) ?_ ?_
                      rotate_left
                      ·simp only [Act.put, List.setIfInBounds_toArray, List.set_cons_zero, List.set_cons_succ, i64_w, i32_w]
                       rfl
                      refine pure_ (i := 11) (N := some 76) (v := undef) (a' := ?_) #[true, true, true, true, true, true, true, true, true, true, true, true, false, false] rfl rfl (any_of HT_.out (by kernel_rfl)) (fun _ _ _ h => h) (Or.inr ⟨by rfl, rfl⟩) ?_ ?_
                      rotate_left
                      ·simp only [Act.put, List.setIfInBounds_toArray, List.set_cons_zero, List.set_cons_succ, i64_w, i32_w]
                       rfl
                      refine pure_ (i := 12) (N := some 77) (v := ?_) (a' := ?_) #[true, true, true, true, true, true, true, true, true, true, true, true, true, false] rfl rfl (any_of HT_.out (by kernel_rfl)) (fun _ _ _ h => h) (Or.inl ⟨by rfl, ?_⟩) ?_ ?_
                      rotate_left
                      ·intro w'
                       go_simp
                       with_reducible rfl
                      rotate_left
                      ·simp only [Act.put, List.setIfInBounds_toArray, List.set_cons_zero, List.set_cons_succ, i64_w, i32_w]
                       rfl
                      refine pure_ (i := 13) (N := some 10) (v := ?_) (a' := ?_) #[true, true, true, true, true, true, true, true, true, true, true, true, true, true] rfl rfl (any_of HT_.out (by kernel_rfl)) (fun _ _ _ h => h) (Or.inl ⟨by rfl, ?_⟩) ?_ ?_
                      rotate_left
                      ·intro w'
                       go_simp
                       with_reducible rfl
                      rotate_left
                      ·simp only [Act.put, List.setIfInBounds_toArray, List.set_cons_zero, List.set_cons_succ, i64_w, i32_w]
                       rfl
                      refine done_ (done_of HT_.out (by kernel_rfl)) ?_
                      try go_wp2
                      go_roundg k3
                      case measure => have := HK1.out; have := HK2.out; have := HK3.out; omega
                      case rel => exact ⟨(x9_3), (true), (wrap64 (x11_3 + 1)), (by first | rfl | (simp; done) | (simp [*]; done)), (by first | rfl | (simp; done) | (simp [*]; done)), (by first | rfl | (simp; done) | (simp [*]; done)), H', ⟨by have := HK1.out; have := HK2.out; have := HK3.out; omega⟩, ⟨by (with_reducible repeat (first | apply Kd.S_alloc | apply Kd.S_drewN | apply Kd.S_drew)); exact HO_3.out⟩, ⟨by (with_reducible repeat (first | apply Kd.R_alloc | apply Kd.R_drewN | apply Kd.R_drew)); exact HO_4.out⟩, ⟨by (with_reducible repeat (first | apply Kd.S_alloc | apply Kd.S_drewN | apply Kd.S_drew)); exact HO_5.out⟩, ⟨by (with_reducible repeat (first | refine blk_drewN ?_ _ | refine blk_drew ?_ | refine blk_alloc ?_ _)); exact BK466.out⟩, ⟨by repeat (first | (with_reducible exact HR478_0.out) | (with_reducible refine Kd.C_alloc ?_ _) | (with_reducible refine Kd.C_drewN ?_ _) | (with_reducible refine Kd.C_drew ?_) | exact HR478_0.out)⟩, ⟨by repeat (first | (with_reducible exact HR479_0.out) | (with_reducible refine Kd.C_alloc ?_ _) | (with_reducible refine Kd.C_drewN ?_ _) | (with_reducible refine Kd.C_drew ?_) | exact HR479_0.out)⟩, ⟨by repeat (first | (with_reducible first | exact HB.out | apply below_alloc | apply pw_below_drewN | apply below_drew1 | refine below_set ?_ GE466.out) | exact HB.out)⟩⟩
                     ·replace c46 := Bool.eq_false_iff.mpr c46
                      subst c46
                      have H1 : ((dom_Is.f a0_0 l0_1 a0_2 l0_3 l0_4 l0_5 x6_1 (rd (rd_L2 t475 (rd (rd_L2 t469 x6_1) x7_2)) x11_3)).bind fun t490 => (truantlaw10_DomMeets.l2 k3 t469 t472 t475 x6_1 x7_2 (rd (rd_L2 t469 x6_1) x7_2) x9_3 t490 (wrap64 (x11_3 + 1)) a0_0 l0_1 a0_2 l0_3 l0_4 l0_5)) = some r := by rw [if_neg (show ¬ (false = true) by decide)] at H; exact H
                      clear H
                      have H := H1
                      clear H1
                      replace H := Option.bind_eq_some_iff.mp H
                      obtain ⟨t490, A500, H⟩ := H
                      replace H : (truantlaw10_DomMeets.l2 k3 t469 t472 t475 x6_1 x7_2 (rd (rd_L2 t469 x6_1) x7_2) x9_3 t490 (wrap64 (x11_3 + 1)) a0_0 l0_1 a0_2 l0_3 l0_4 l0_5) = some r := H
                      have A50 := Aside0.mk A500
                      clear A500
                      have H' := Aside0.mk H
                      clear H
                      obtain ⟨Ao51, co51, eo51⟩ := Kd.S_slice HO_5.out
                      subst eo51
                      have p481 : 0 ≤ ((rd (rd_L2 t469 x6_1) x7_2) : Int) := of_decide_eq_true (by first | (with_reducible assumption) | assumption)
                      have q481 : (rd (rd_L2 t469 x6_1) x7_2) < (t475.length : Int) := of_decide_eq_true (by first | (with_reducible assumption) | assumption)
                      obtain ⟨ad481, A481_0, c481_0, e481, hx481_0, hl481_0, hi481_0⟩ := at_L2 (Kd.S_reads' HO_5.out).2.2 (rd (rd_L2 t469 x6_1) x7_2) p481 q481
                      cases e481
                      obtain ⟨ce481, hce481, hMe481, hcc481⟩ := Kd.S_get HO_5.out [] (rd (rd_L2 t469 x6_1) x7_2) p481 (by first | exact q481 | exact of_decide_eq_true (by first | (with_reducible assumption) | assumption) | (have e_ := (Kd.S_reads' HO_5.out).1; omega))
                      obtain ⟨ve481_0, rfl, ge481_0⟩ := hMe481
                      have hv481_0 := hcc481 0 _ rfl
                      rw [Nat.add_zero, show ((Kd.slice 3 (Kd.int .i64))).sz = 1 from rfl, Nat.mul_one] at hv481_0
                      replace hv481_0 := Option.some.inj (hv481_0.symm.trans hx481_0)
                      rw [hv481_0] at ge481_0
                      have HL481_0 := Aside0.mk (show Kd.R (Kd.int .i64) 3 _ _ _ _ (rd_L2 t475 (rd (rd_L2 t469 x6_1) x7_2)) from ge481_0)
                      clear hv481_0 ge481_0
                      clear hcc481 hce481
                      have HR481_0 := Aside0.mk hi481_0
                      have HC481_0 := Aside0.mk hl481_0
                      clear hi481_0 hl481_0
                      replace p481 := eq_true p481
                      replace q481 := eq_true q481
                      have p482 : 0 ≤ ((rd (rd_L2 t469 x6_1) x7_2) : Int) := of_decide_eq_true (by first | (with_reducible assumption) | assumption)
                      have q482 : (rd (rd_L2 t469 x6_1) x7_2) < (t475.length : Int) := of_decide_eq_true (by first | (with_reducible assumption) | assumption)
                      obtain ⟨ad482, A482_0, c482_0, e482, hx482_0, hl482_0, hi482_0⟩ := at_L2 (Kd.S_reads' HO_5.out).2.2 (rd (rd_L2 t469 x6_1) x7_2) p482 q482
                      obtain rfl : ad481 = ad482 := (by injection e482)
                      obtain ⟨ce482, hce482, hMe482, hcc482⟩ := Kd.S_get HO_5.out [] (rd (rd_L2 t469 x6_1) x7_2) p482 (by first | exact q482 | exact of_decide_eq_true (by first | (with_reducible assumption) | assumption) | (have e_ := (Kd.S_reads' HO_5.out).1; omega))
                      obtain ⟨ve482_0, rfl, ge482_0⟩ := hMe482
                      have hv482_0 := hcc482 0 _ rfl
                      rw [Nat.add_zero, show ((Kd.slice 3 (Kd.int .i64))).sz = 1 from rfl, Nat.mul_one] at hv482_0
                      replace hv482_0 := Option.some.inj (hv482_0.symm.trans hx482_0)
                      rw [hv482_0] at ge482_0
                      have HL482_0 := Aside0.mk (show Kd.R (Kd.int .i64) 3 _ _ _ _ (rd_L2 t475 (rd (rd_L2 t469 x6_1) x7_2)) from ge482_0)
                      clear hv482_0 ge482_0
                      clear hcc482 hce482
                      have HR482_0 := Aside0.mk hi482_0
                      have HC482_0 := Aside0.mk hl482_0
                      clear hi482_0 hl482_0
                      replace p482 := eq_true p482
                      replace q482 := eq_true q482
                      have ea_ := Option.some.inj (hx481_0.symm.trans hx482_0)
                      injection ea_ with ea_ en_ ec_
                      subst ea_
                      subst ec_
                      clear en_
                      have p483 : 0 ≤ (x11_3 : Int) := of_decide_eq_true (by first | (with_reducible assumption) | assumption)
                      have q483 : x11_3 < ((rd_L2 t475 (rd (rd_L2 t469 x6_1) x7_2)).length : Int) := of_decide_eq_true (by first | (with_reducible assumption) | assumption)
                      obtain ⟨ad483, e483, hx483_0⟩ := Kd.at_int (by repeat (first | (with_reducible exact HR482_0.out) | (with_reducible refine Kd.C_alloc ?_ _) | (with_reducible refine Kd.C_drewN ?_ _) | (with_reducible refine Kd.C_drew ?_) | exact HR482_0.out)) x11_3 p483 q483
                      cases e483
                      replace p483 := eq_true p483
                      replace q483 := eq_true q483
                      obtain ⟨Ao52, co52, eo52⟩ := Kd.R_slice HO_4.out
                      subst eo52
                      have p484 : 0 ≤ ((rd (rd_L2 t475 (rd (rd_L2 t469 x6_1) x7_2)) x11_3) : Int) := of_decide_eq_true (by first | (with_reducible assumption) | assumption)
                      have q484 : (rd (rd_L2 t475 (rd (rd_L2 t469 x6_1) x7_2)) x11_3) < (t472.length : Int) := of_decide_eq_true (by first | (with_reducible assumption) | assumption)
                      obtain ⟨ad484, e484, hx484_0⟩ := Kd.at_bool (Kd.R_reads' HO_4.out).2.2 (rd (rd_L2 t475 (rd (rd_L2 t469 x6_1) x7_2)) x11_3) p484 q484
                      (try rw [← Nbq35.out] at hx484_0)
                      cases e484
                      replace p484 := eq_true p484
                      replace q484 := eq_true q484
                      try go_wp2
                      have n0_ := Aside0.mk (Kd.S_drew HO_3.out)
                      have n1_ := Aside0.mk (Kd.R_drew HO_4.out)
                      have n2_ := Aside0.mk (Kd.S_drew HO_5.out)
                      have n3_ := Aside0.mk (Kd.R_drew HL481_0.out)
                      have n4_ := Aside0.mk (Kd.R_drew HL482_0.out)
                      have n5_ := Aside0.mk (blk_drew BK466.out)
                      have n6_ := Aside0.mk (Kd.C_drew HR478_0.out)
                      have n7_ := Aside0.mk (Kd.C_drew HR479_0.out)
                      have n8_ := Aside0.mk (Kd.C_drew HR481_0.out)
                      have n9_ := Aside0.mk (Kd.C_drew HR482_0.out)
                      have n10_ := Aside0.mk (below_drew1 HB.out)
                      clear HO_3
                      clear HO_4
                      clear HO_5
                      clear HL481_0
                      clear HL482_0
                      clear BK466
                      clear HR478_0
                      clear HR479_0
                      clear HR481_0
                      clear HR482_0
                      clear HB
                      have HO_3 := n0_
                      have HO_4 := n1_
                      have HO_5 := n2_
                      have HL481_0 := n3_
                      have HL482_0 := n4_
                      have BK466 := n5_
                      have HR478_0 := n6_
                      have HR479_0 := n7_
                      have HR481_0 := n8_
                      have HR482_0 := n9_
                      have HB := n10_
                      clear n0_ n1_ n2_ n3_ n4_ n5_ n6_ n7_ n8_ n9_ n10_
                      have p488 : 0 ≤ ((rd (rd_L2 t469 x6_1) x7_2) : Int) := of_decide_eq_true (by first | (with_reducible assumption) | assumption)
                      have q488 : (rd (rd_L2 t469 x6_1) x7_2) < (t475.length : Int) := of_decide_eq_true (by first | (with_reducible assumption) | assumption)
                      obtain ⟨ad488, A488_0, c488_0, e488, hx488_0, hl488_0, hi488_0⟩ := at_L2 (Kd.S_reads' HO_5.out).2.2 (rd (rd_L2 t469 x6_1) x7_2) p488 q488
                      obtain rfl : ad481 = ad488 := (by injection e488)
                      obtain ⟨ce488, hce488, hMe488, hcc488⟩ := Kd.S_get HO_5.out [] (rd (rd_L2 t469 x6_1) x7_2) p488 (by first | exact q488 | exact of_decide_eq_true (by first | (with_reducible assumption) | assumption) | (have e_ := (Kd.S_reads' HO_5.out).1; omega))
                      obtain ⟨ve488_0, rfl, ge488_0⟩ := hMe488
                      have hv488_0 := hcc488 0 _ rfl
                      rw [Nat.add_zero, show ((Kd.slice 3 (Kd.int .i64))).sz = 1 from rfl, Nat.mul_one] at hv488_0
                      replace hv488_0 := Option.some.inj (hv488_0.symm.trans hx488_0)
                      rw [hv488_0] at ge488_0
                      have HL488_0 := Aside0.mk (show Kd.R (Kd.int .i64) 3 _ _ _ _ (rd_L2 t475 (rd (rd_L2 t469 x6_1) x7_2)) from ge488_0)
                      clear hv488_0 ge488_0
                      clear hcc488 hce488
                      have HR488_0 := Aside0.mk hi488_0
                      have HC488_0 := Aside0.mk hl488_0
                      clear hi488_0 hl488_0
                      replace p488 := eq_true p488
                      replace q488 := eq_true q488
                      have p489 : 0 ≤ (x11_3 : Int) := of_decide_eq_true (by first | (with_reducible assumption) | assumption)
                      have q489 : x11_3 < ((rd_L2 t475 (rd (rd_L2 t469 x6_1) x7_2)).length : Int) := of_decide_eq_true (by first | (with_reducible assumption) | assumption)
                      obtain ⟨ad489, e489, hx489_0⟩ := Kd.at_int (by repeat (first | (with_reducible exact HR488_0.out) | (with_reducible refine Kd.C_alloc ?_ _) | (with_reducible refine Kd.C_drewN ?_ _) | (with_reducible refine Kd.C_drew ?_) | exact HR488_0.out)) x11_3 p489 q489
                      cases e489
                      replace p489 := eq_true p489
                      replace q489 := eq_true q489
                      refine start_ (n := 14) (S := fun w' => w'.cell? ⟨gb466, 0, none⟩ = some (.string a0_0) ∧ w'.cell? ⟨gb466, 1, none⟩ = some (.slice A0_1 l0_1.length c0_1) ∧ w'.cell? ⟨gb466, 2, none⟩ = some (.string a0_2) ∧ w'.cell? ⟨gb466, 3, none⟩ = some (.slice A0_3 l0_3.length c0_3) ∧ w'.cell? ⟨gb466, 4, none⟩ = some (.slice A0_4 l0_4.length c0_4) ∧ w'.cell? ⟨gb466, 5, none⟩ = some (.slice A0_5 l0_5.length c0_5) ∧ w'.cell? (ad481.add ((rd (rd_L2 t469 x6_1) x7_2)).toNat) = some (.slice (some ad489) (rd_L2 t475 (rd (rd_L2 t469 x6_1) x7_2)).length c488_0) ∧ w'.cell? (ad489.add (x11_3).toNat) = some (.int .i64 (rd (rd_L2 t475 (rd (rd_L2 t469 x6_1) x7_2)) x11_3))) (ds := []) #[false, false, false, false, false, false, false, false, false, false, false, false, false, false] (by kernel_rfl) rfl rfl ⟨(blk_cell BK466.out 0).trans rfl, (blk_cell BK466.out 1).trans rfl, (blk_cell BK466.out 2).trans rfl, (blk_cell BK466.out 3).trans rfl, (blk_cell BK466.out 4).trans rfl, (blk_cell BK466.out 5).trans rfl, hx488_0, hx489_0⟩ (fun hHeld => ?_); refine with_tabW truantlaw10_DomMeets.tab22 truantlaw10_DomMeets.bits22 (fun HT_ HW_ => ?_)
                      generalize wr.drew = w53 at HO_3 HO_4 HO_5 HL481_0 HL482_0 BK466 HR478_0 HR479_0 HR481_0 HR482_0 HB HL488_0 HR488_0 hx488_0 hx489_0 hHeld ⊢
                      refine pure_ (i := 0) (N := some 65) (v := ?_) (a' := ?_) #[true, false, false, false, false, false, false, false, false, false, false, false, false, false] rfl rfl (any_of HT_.out (by kernel_rfl)) (fun _ _ _ h => h) (Or.inl ⟨by rfl, ?_⟩) ?_ ?_
                      rotate_left
                      ·intro w'
                       go_simp
                       with_reducible rfl
                      rotate_left
                      ·simp only [Act.put, List.setIfInBounds_toArray, List.set_cons_zero, List.set_cons_succ, i64_w, i32_w]
                       rfl
                      refine pure_ (i := 1) (N := some 66) (v := ?_) (a' := ?_) #[true, true, false, false, false, false, false, false, false, false, false, false, false, false] rfl rfl (any_of HT_.out (by kernel_rfl)) (fun _ _ _ h => h) (Or.inl ⟨by rfl, ?_⟩) ?_ ?_
                      rotate_left
                      ·intro w'
                       go_simp
                       with_reducible rfl
                      rotate_left
                      ·simp only [Act.put, List.setIfInBounds_toArray, List.set_cons_zero, List.set_cons_succ, i64_w, i32_w]
                       rfl
                      refine pure_ (i := 3) (N := some 68) (v := ?_) (a' := ?_) #[true, true, false, true, false, false, false, false, false, false, false, false, false, false] rfl rfl (any_of HT_.out (by kernel_rfl)) (fun _ _ _ h => h) (Or.inl ⟨by rfl, ?_⟩) ?_ ?_
                      rotate_left
                      ·intro w'
                       go_simp
                       with_reducible rfl
                      rotate_left
                      ·simp only [Act.put, List.setIfInBounds_toArray, List.set_cons_zero, List.set_cons_succ, i64_w, i32_w]
                       rfl
                      refine pure_ (i := 4) (N := some 69) (v := ?_) (a' := ?_) #[true, true, false, true, true, false, false, false, false, false, false, false, false, false] rfl rfl (any_of HT_.out (by kernel_rfl)) (fun _ _ _ h => h) (Or.inl ⟨by rfl, ?_⟩) ?_ ?_
                      rotate_left
                      ·intro w'
                       go_simp
                       with_reducible rfl
                      rotate_left
                      ·simp only [Act.put, List.setIfInBounds_toArray, List.set_cons_zero, List.set_cons_succ, i64_w, i32_w]
                       rfl
                      refine pure_ (i := 5) (N := some 70) (v := ?_) (a' := ?_) #[true, true, false, true, true, true, false, false, false, false, false, false, false, false] rfl rfl (any_of HT_.out (by kernel_rfl)) (fun _ _ _ h => h) (Or.inl ⟨by rfl, ?_⟩) ?_ ?_
                      rotate_left
                      ·intro w'
                       go_simp
                       with_reducible rfl
                      rotate_left
                      ·simp only [Act.put, List.setIfInBounds_toArray, List.set_cons_zero, List.set_cons_succ, i64_w, i32_w]
                       rfl
                      refine pure_ (i := 6) (N := some 71) (v := ?_) (a' := ?_) #[true, true, false, true, true, true, true, false, false, false, false, false, false, false] rfl rfl (any_of HT_.out (by kernel_rfl)) (fun _ _ _ h => h) (Or.inl ⟨by rfl, ?_⟩) ?_ ?_
                      rotate_left
                      ·intro w'
                       go_simp
                       with_reducible rfl
                      rotate_left
                      ·simp only [Act.put, List.setIfInBounds_toArray, List.set_cons_zero, List.set_cons_succ, i64_w, i32_w]
                       rfl
                      refine pure_ (i := 8) (N := some 73) (v := ?_) (a' := ?_) #[true, true, false, true, true, true, true, false, true, false, false, false, false, false] rfl rfl (any_of HT_.out (by kernel_rfl)) (fun _ _ _ h => h) (Or.inl ⟨by rfl, ?_⟩) ?_ ?_
                      rotate_left
                      ·intro w'
                       go_simp
                       with_reducible rfl
                      rotate_left
                      ·simp only [Act.put, List.setIfInBounds_toArray, List.set_cons_zero, List.set_cons_succ, i64_w, i32_w]
                       rfl
                      refine take_ (i := 2) (N := some 67) (v := ?_) (a' := ?_) #[true, true, true, true, true, true, true, false, true, false, false, false, false, false] rfl rfl (take_ofW HT_.out HW_.out (by kernel_rfl)) (fun _ _ _ h => h) (Or.inl ⟨by rfl, ?_⟩) hHeld ?_ ?_
                      rotate_left
                      ·rintro w' ⟨s0, s1, s2, s3, s4, s5, s6, s7⟩
                       go_simp
                       with_reducible rfl
                      rotate_left
                      ·simp only [Act.put, List.setIfInBounds_toArray, List.set_cons_zero, List.set_cons_succ, i64_w, i32_w]
                       rfl
                      refine take_ (i := 7) (N := some 72) (v := ?_) (a' := ?_) #[true, true, true, true, true, true, true, true, true, false, false, false, false, false] rfl rfl (take_ofW HT_.out HW_.out (by kernel_rfl)) (fun _ _ _ h => h) (Or.inl ⟨by rfl, ?_⟩) hHeld ?_ ?_
                      rotate_left
                      ·rintro w' ⟨s0, s1, s2, s3, s4, s5, s6, s7⟩
                       go_simp
                       with_reducible rfl
                      rotate_left
                      ·simp only [Act.put, List.setIfInBounds_toArray, List.set_cons_zero, List.set_cons_succ, i64_w, i32_w]
                       rfl
                      refine pure_ (i := 9) (N := some 74) (v := ?_) (a' := ?_) #[true, true, true, true, true, true, true, true, true, true, false, false, false, false] rfl rfl (any_of HT_.out (by kernel_rfl)) (fun _ _ _ h => h) (Or.inl ⟨by rfl, ?_⟩) ?_ ?_
                      rotate_left
                      ·intro w'
                       go_simp
                       with_reducible rfl
                      rotate_left
                      ·simp only [Act.put, List.setIfInBounds_toArray, List.set_cons_zero, List.set_cons_succ, i64_w, i32_w]
                       rfl
                      refine take_ (i := 10) (N := some 75) (v := ?_) (a' := ?_) #[true, true, true, true, true, true, true, true, true, true, true, false, false, false] rfl rfl (take_ofW HT_.out HW_.out (by kernel_rfl)) (fun _ _ _ h => h) (Or.inl ⟨by rfl, ?_⟩) hHeld ?_ ?_
                      rotate_left
                      ·rintro w' ⟨s0, s1, s2, s3, s4, s5, s6, s7⟩
                       go_simp
                       with_reducible rfl
                      rotate_left
                      ·simp only [Act.put, List.setIfInBounds_toArray, List.set_cons_zero, List.set_cons_succ, i64_w, i32_w]
                       rfl
                      refine one_ (i := 11) (N := some 76) #[true, true, true, true, true, true, true, true, true, true, true, true, false, false] rfl rfl (one_of HT_.out (by kernel_rfl)) (by decide) (fun K hK => ?_)
                      refine goes_ Try.func43 (by kernel_rfl) rfl #[.agg #[.string a0_0, .slice A0_1 l0_1.length c0_1, .string a0_2, .slice A0_3 l0_3.length c0_3, .slice A0_4 l0_4.length c0_4, .slice A0_5 l0_5.length c0_5], .int .i64 x6_1, .int .i64 (rd (rd_L2 t475 (rd (rd_L2 t469 x6_1) x7_2)) x11_3)] (by rfl) rfl rfl (by (try simp only [List.map_toArray, List.map_cons, List.map_nil]); first | done | rfl | (simp only [List.length_drop, List.length_take]; rfl)) ?_
                      with_reducible refine (dom_Is.calls a0_0 _ _ l0_1 a0_2 _ _ l0_3 _ _ l0_4 _ _ l0_5 x6_1 (rd (rd_L2 t475 (rd (rd_L2 t469 x6_1) x7_2)) x11_3) t490 _ ?side1 ?side2 ?side3 ?side4 ?side5 ?side6 ?side7 ?side8 A50.out).mono ?_
                      (case side1 => repeat (first | exact (Kd.C_below HR0_1.out HB.out) | (with_reducible refine Kd.C_alloc ?_ _) | (with_reducible refine Kd.C_drewN ?_ _) | (with_reducible refine Kd.C_drew ?_)))
                      (case side2 => exact HC0_1.out)
                      (case side3 => repeat (first | exact (Kd.C_below HR0_3.out HB.out) | (with_reducible refine Kd.C_alloc ?_ _) | (with_reducible refine Kd.C_drewN ?_ _) | (with_reducible refine Kd.C_drew ?_)))
                      (case side4 => exact HC0_3.out)
                      (case side5 => repeat (first | exact (Kd.C_below HR0_4.out HB.out) | (with_reducible refine Kd.C_alloc ?_ _) | (with_reducible refine Kd.C_drewN ?_ _) | (with_reducible refine Kd.C_drew ?_)))
                      (case side6 => exact HC0_4.out)
                      (case side7 => repeat (first | exact (Kd.C_below HR0_5.out HB.out) | (with_reducible refine Kd.C_alloc ?_ _) | (with_reducible refine Kd.C_drewN ?_ _) | (with_reducible refine Kd.C_drew ?_)))
                      (case side8 => exact HC0_5.out)
                      rintro e w54 ⟨rfl, hb⟩
                      have HS6_ := (hb.cell (World.block_lt_of_cell? _ _ (hHeld.2.2.2.2.2.2.1))).trans (hHeld.2.2.2.2.2.2.1)
                      have HS7_ := (hb.cell (World.block_lt_of_cell? _ _ (hHeld.2.2.2.2.2.2.2))).trans (hHeld.2.2.2.2.2.2.2)
                      refine ⟨_, rfl, ?_⟩
                      have n0_ := Aside0.mk (Kd.S_below (by (with_reducible repeat (first | apply Kd.S_alloc | apply Kd.S_drewN | apply Kd.S_drew)); exact HO_3.out) hb)
                      have n1_ := Aside0.mk (Kd.R_below (by (with_reducible repeat (first | apply Kd.R_alloc | apply Kd.R_drewN | apply Kd.R_drew)); exact HO_4.out) hb)
                      have n2_ := Aside0.mk (Kd.S_below (by (with_reducible repeat (first | apply Kd.S_alloc | apply Kd.S_drewN | apply Kd.S_drew)); exact HO_5.out) hb)
                      have n3_ := Aside0.mk (Kd.R_below (by (with_reducible repeat (first | apply Kd.R_alloc | apply Kd.R_drewN | apply Kd.R_drew)); exact HL481_0.out) hb)
                      have n4_ := Aside0.mk (Kd.R_below (by (with_reducible repeat (first | apply Kd.R_alloc | apply Kd.R_drewN | apply Kd.R_drew)); exact HL482_0.out) hb)
                      have n5_ := Aside0.mk (Kd.R_below (by (with_reducible repeat (first | apply Kd.R_alloc | apply Kd.R_drewN | apply Kd.R_drew)); exact HL488_0.out) hb)
                      have n6_ := Aside0.mk (blk_below (g := gb466) (o := .cells #[.string a0_0, .slice A0_1 l0_1.length c0_1, .string a0_2, .slice A0_3 l0_3.length c0_3, .slice A0_4 l0_4.length c0_4, .slice A0_5 l0_5.length c0_5] 26 (0, 0)) (by (with_reducible repeat (first | refine blk_drewN ?_ _ | refine blk_drew ?_ | refine blk_alloc ?_ _)); exact BK466.out) hb)
                      have n7_ := Aside0.mk (Kd.C_below (by repeat (first | (with_reducible exact HR478_0.out) | (with_reducible refine Kd.C_alloc ?_ _) | (with_reducible refine Kd.C_drewN ?_ _) | (with_reducible refine Kd.C_drew ?_) | exact HR478_0.out)) hb)
                      have n8_ := Aside0.mk (Kd.C_below (by repeat (first | (with_reducible exact HR479_0.out) | (with_reducible refine Kd.C_alloc ?_ _) | (with_reducible refine Kd.C_drewN ?_ _) | (with_reducible refine Kd.C_drew ?_) | exact HR479_0.out)) hb)
                      have n9_ := Aside0.mk (Kd.C_below (by repeat (first | (with_reducible exact HR481_0.out) | (with_reducible refine Kd.C_alloc ?_ _) | (with_reducible refine Kd.C_drewN ?_ _) | (with_reducible refine Kd.C_drew ?_) | exact HR481_0.out)) hb)
                      have n10_ := Aside0.mk (Kd.C_below (by repeat (first | (with_reducible exact HR482_0.out) | (with_reducible refine Kd.C_alloc ?_ _) | (with_reducible refine Kd.C_drewN ?_ _) | (with_reducible refine Kd.C_drew ?_) | exact HR482_0.out)) hb)
                      have n11_ := Aside0.mk (Kd.C_below (by repeat (first | (with_reducible exact HR488_0.out) | (with_reducible refine Kd.C_alloc ?_ _) | (with_reducible refine Kd.C_drewN ?_ _) | (with_reducible refine Kd.C_drew ?_) | exact HR488_0.out)) hb)
                      have n12_ := Aside0.mk (below_step (by repeat (first | (with_reducible first | exact HB.out | apply below_alloc | apply pw_below_drewN | apply below_drew1 | refine below_set ?_ GE466.out) | exact HB.out)) hb)
                      clear HO_3
                      clear HO_4
                      clear HO_5
                      clear HL481_0
                      clear HL482_0
                      clear HL488_0
                      clear BK466
                      clear HR478_0
                      clear HR479_0
                      clear HR481_0
                      clear HR482_0
                      clear HR488_0
                      clear HB
                      have HO_3 := n0_
                      have HO_4 := n1_
                      have HO_5 := n2_
                      have HL481_0 := n3_
                      have HL482_0 := n4_
                      have HL488_0 := n5_
                      have BK466 := n6_
                      have HR478_0 := n7_
                      have HR479_0 := n8_
                      have HR481_0 := n9_
                      have HR482_0 := n10_
                      have HR488_0 := n11_
                      have HB := n12_
                      clear n0_ n1_ n2_ n3_ n4_ n5_ n6_ n7_ n8_ n9_ n10_ n11_ n12_
                      (try clear hb)
                      (try clear hb2)
                      (try clear hk)
                      (try clear hi)
                      refine hK.out _ _ ⟨(blk_cell BK466.out 0).trans rfl, (blk_cell BK466.out 1).trans rfl, (blk_cell BK466.out 2).trans rfl, (blk_cell BK466.out 3).trans rfl, (blk_cell BK466.out 4).trans rfl, (blk_cell BK466.out 5).trans rfl, HS6_, HS7_⟩ (fun hHeld => ?_)
                      clear hK K
                      refine norm_ (a' := ?_) ?_ ?_
                      rotate_left
                      ·show Act.put _ (some 76) _ = _
                       simp only [Act.put, List.setIfInBounds_toArray, List.set_cons_zero, List.set_cons_succ, i64_w, i32_w]
                       rfl
                      refine pure_ (i := 12) (N := some 77) (v := ?_) (a' := ?_) #[true, true, true, true, true, true, true, true, true, true, true, true, true, false] rfl rfl (any_of HT_.out (by kernel_rfl)) (fun _ _ _ h => h) (Or.inl ⟨by rfl, ?_⟩) ?_ ?_
                      rotate_left
                      ·intro w'
                       go_simp
                       with_reducible rfl
                      rotate_left
                      ·simp only [Act.put, List.setIfInBounds_toArray, List.set_cons_zero, List.set_cons_succ, i64_w, i32_w]
                       rfl
                      refine pure_ (i := 13) (N := some 10) (v := ?_) (a' := ?_) #[true, true, true, true, true, true, true, true, true, true, true, true, true, true] rfl rfl (any_of HT_.out (by kernel_rfl)) (fun _ _ _ h => h) (Or.inl ⟨by rfl, ?_⟩) ?_ ?_
                      rotate_left
                      ·intro w'
                       go_simp
                       with_reducible rfl
                      rotate_left
                      ·simp only [Act.put, List.setIfInBounds_toArray, List.set_cons_zero, List.set_cons_succ, i64_w, i32_w]
                       rfl
                      refine done_ (done_of HT_.out (by kernel_rfl)) ?_
                      try go_wp2
                      go_roundg k3
                      case measure => have := HK1.out; have := HK2.out; have := HK3.out; omega
                      case rel => exact ⟨(x9_3), (t490), (wrap64 (x11_3 + 1)), (by first | rfl | (simp; done) | (simp [*]; done)), (by first | rfl | (simp; done) | (simp [*]; done)), (by first | rfl | (simp; done) | (simp [*]; done)), H', ⟨by have := HK1.out; have := HK2.out; have := HK3.out; omega⟩, ⟨by (with_reducible repeat (first | apply Kd.S_alloc | apply Kd.S_drewN | apply Kd.S_drew)); exact HO_3.out⟩, ⟨by (with_reducible repeat (first | apply Kd.R_alloc | apply Kd.R_drewN | apply Kd.R_drew)); exact HO_4.out⟩, ⟨by (with_reducible repeat (first | apply Kd.S_alloc | apply Kd.S_drewN | apply Kd.S_drew)); exact HO_5.out⟩, ⟨by (with_reducible repeat (first | refine blk_drewN ?_ _ | refine blk_drew ?_ | refine blk_alloc ?_ _)); exact BK466.out⟩, ⟨by repeat (first | (with_reducible exact HR478_0.out) | (with_reducible refine Kd.C_alloc ?_ _) | (with_reducible refine Kd.C_drewN ?_ _) | (with_reducible refine Kd.C_drew ?_) | exact HR478_0.out)⟩, ⟨by repeat (first | (with_reducible exact HR479_0.out) | (with_reducible refine Kd.C_alloc ?_ _) | (with_reducible refine Kd.C_drewN ?_ _) | (with_reducible refine Kd.C_drew ?_) | exact HR479_0.out)⟩, ⟨by repeat (first | (with_reducible first | exact HB.out | apply below_alloc | apply pw_below_drewN | apply below_drew1 | refine below_set ?_ GE466.out) | exact HB.out)⟩⟩
                   ·rw [if_neg c34] at H
                    exact absurd H (by simp)
                  ·rw [if_neg c33] at H
                   exact absurd H (by simp)
                 ·rw [if_neg c32] at H
                  exact absurd H (by simp)
                ·rw [if_neg c31] at H
                 have c31b0 : decide (x11_3 < ((rd_L2 t475 (rd (rd_L2 t469 x6_1) x7_2)).length : Int)) = false := decide_eq_false c31
                 clear c31
                 by_cases c55 : x10_3 = true
                 ·subst c55
                  have H1 : (if (rd (rd_L2 t469 x6_1) x7_2) = 0 then (truantlaw10_DomMeets.l1 k3 t469 t472 t475 x6_1 (wrap64 (x7_2 + 1)) a0_0 l0_1 a0_2 l0_3 l0_4 l0_5) else (if x9_3 < 2 then (none) else (truantlaw10_DomMeets.l1 k3 t469 t472 t475 x6_1 (wrap64 (x7_2 + 1)) a0_0 l0_1 a0_2 l0_3 l0_4 l0_5))) = some r := by rw [if_pos rfl] at H; exact H
                  clear H
                  have H := H1
                  clear H1
                  by_cases c56 : (rd (rd_L2 t469 x6_1) x7_2) = 0
                  ·rw [if_pos c56] at H
                   have c56b0 : ((rd (rd_L2 t469 x6_1) x7_2) == 0) = true := beq_iff_eq.mpr c56
                   have c56b1 : ((rd (rd_L2 t469 x6_1) x7_2) != 0) = false := bne_eq_false_iff_eq.mpr c56
                   clear c56
                   have H' := Aside0.mk H
                   clear H
                   obtain ⟨Ao57, co57, eo57⟩ := Kd.S_slice HO_5.out
                   subst eo57
                   have p481 : 0 ≤ ((rd (rd_L2 t469 x6_1) x7_2) : Int) := of_decide_eq_true (by first | (with_reducible assumption) | assumption)
                   have q481 : (rd (rd_L2 t469 x6_1) x7_2) < (t475.length : Int) := of_decide_eq_true (by first | (with_reducible assumption) | assumption)
                   obtain ⟨ad481, A481_0, c481_0, e481, hx481_0, hl481_0, hi481_0⟩ := at_L2 (Kd.S_reads' HO_5.out).2.2 (rd (rd_L2 t469 x6_1) x7_2) p481 q481
                   cases e481
                   obtain ⟨ce481, hce481, hMe481, hcc481⟩ := Kd.S_get HO_5.out [] (rd (rd_L2 t469 x6_1) x7_2) p481 (by first | exact q481 | exact of_decide_eq_true (by first | (with_reducible assumption) | assumption) | (have e_ := (Kd.S_reads' HO_5.out).1; omega))
                   obtain ⟨ve481_0, rfl, ge481_0⟩ := hMe481
                   have hv481_0 := hcc481 0 _ rfl
                   rw [Nat.add_zero, show ((Kd.slice 3 (Kd.int .i64))).sz = 1 from rfl, Nat.mul_one] at hv481_0
                   replace hv481_0 := Option.some.inj (hv481_0.symm.trans hx481_0)
                   rw [hv481_0] at ge481_0
                   have HL481_0 := Aside0.mk (show Kd.R (Kd.int .i64) 3 _ _ _ _ (rd_L2 t475 (rd (rd_L2 t469 x6_1) x7_2)) from ge481_0)
                   clear hv481_0 ge481_0
                   clear hcc481 hce481
                   have HR481_0 := Aside0.mk hi481_0
                   have HC481_0 := Aside0.mk hl481_0
                   clear hi481_0 hl481_0
                   replace p481 := eq_true p481
                   replace q481 := eq_true q481
                   go_wp2
                   go_roundg k3
                   case measure => have := HK1.out; have := HK2.out; have := HK3.out; omega
                   case rel => exact ⟨(wrap64 (x7_2 + 1)), (by first | rfl | (simp; done) | (simp [*]; done)), H', ⟨by have := HK1.out; have := HK2.out; have := HK3.out; omega⟩, ⟨by (with_reducible repeat (first | apply Kd.S_alloc | apply Kd.S_drewN | apply Kd.S_drew)); exact HO_3.out⟩, ⟨by (with_reducible repeat (first | apply Kd.R_alloc | apply Kd.R_drewN | apply Kd.R_drew)); exact HO_4.out⟩, ⟨by (with_reducible repeat (first | apply Kd.S_alloc | apply Kd.S_drewN | apply Kd.S_drew)); exact HO_5.out⟩, ⟨by (with_reducible repeat (first | refine blk_drewN ?_ _ | refine blk_drew ?_ | refine blk_alloc ?_ _)); exact BK466.out⟩, ⟨by repeat (first | (with_reducible first | exact HB.out | apply below_alloc | apply pw_below_drewN | apply below_drew1 | refine below_set ?_ GE466.out) | exact HB.out)⟩⟩
                  ·rw [if_neg c56] at H
                   have c56b0 : ((rd (rd_L2 t469 x6_1) x7_2) == 0) = false := beq_eq_false_iff_ne.mpr c56
                   have c56b1 : ((rd (rd_L2 t469 x6_1) x7_2) != 0) = true := bne_iff_ne.mpr c56
                   by_cases c58 : x9_3 < 2
                   ·rw [if_pos c58] at H
                    exact absurd H (by simp)
                   ·rw [if_neg c58] at H
                    have c58b0 : decide (x9_3 < 2) = false := decide_eq_false c58
                    clear c58
                    have H' := Aside0.mk H
                    clear H
                    obtain ⟨Ao59, co59, eo59⟩ := Kd.S_slice HO_5.out
                    subst eo59
                    have p481 : 0 ≤ ((rd (rd_L2 t469 x6_1) x7_2) : Int) := of_decide_eq_true (by first | (with_reducible assumption) | assumption)
                    have q481 : (rd (rd_L2 t469 x6_1) x7_2) < (t475.length : Int) := of_decide_eq_true (by first | (with_reducible assumption) | assumption)
                    obtain ⟨ad481, A481_0, c481_0, e481, hx481_0, hl481_0, hi481_0⟩ := at_L2 (Kd.S_reads' HO_5.out).2.2 (rd (rd_L2 t469 x6_1) x7_2) p481 q481
                    cases e481
                    obtain ⟨ce481, hce481, hMe481, hcc481⟩ := Kd.S_get HO_5.out [] (rd (rd_L2 t469 x6_1) x7_2) p481 (by first | exact q481 | exact of_decide_eq_true (by first | (with_reducible assumption) | assumption) | (have e_ := (Kd.S_reads' HO_5.out).1; omega))
                    obtain ⟨ve481_0, rfl, ge481_0⟩ := hMe481
                    have hv481_0 := hcc481 0 _ rfl
                    rw [Nat.add_zero, show ((Kd.slice 3 (Kd.int .i64))).sz = 1 from rfl, Nat.mul_one] at hv481_0
                    replace hv481_0 := Option.some.inj (hv481_0.symm.trans hx481_0)
                    rw [hv481_0] at ge481_0
                    have HL481_0 := Aside0.mk (show Kd.R (Kd.int .i64) 3 _ _ _ _ (rd_L2 t475 (rd (rd_L2 t469 x6_1) x7_2)) from ge481_0)
                    clear hv481_0 ge481_0
                    clear hcc481 hce481
                    have HR481_0 := Aside0.mk hi481_0
                    have HC481_0 := Aside0.mk hl481_0
                    clear hi481_0 hl481_0
                    replace p481 := eq_true p481
                    replace q481 := eq_true q481
                    go_wp2
                    go_roundg k3
                    case measure => have := HK1.out; have := HK2.out; have := HK3.out; omega
                    case rel => exact ⟨(wrap64 (x7_2 + 1)), (by first | rfl | (simp; done) | (simp [*]; done)), H', ⟨by have := HK1.out; have := HK2.out; have := HK3.out; omega⟩, ⟨by (with_reducible repeat (first | apply Kd.S_alloc | apply Kd.S_drewN | apply Kd.S_drew)); exact HO_3.out⟩, ⟨by (with_reducible repeat (first | apply Kd.R_alloc | apply Kd.R_drewN | apply Kd.R_drew)); exact HO_4.out⟩, ⟨by (with_reducible repeat (first | apply Kd.S_alloc | apply Kd.S_drewN | apply Kd.S_drew)); exact HO_5.out⟩, ⟨by (with_reducible repeat (first | refine blk_drewN ?_ _ | refine blk_drew ?_ | refine blk_alloc ?_ _)); exact BK466.out⟩, ⟨by repeat (first | (with_reducible first | exact HB.out | apply below_alloc | apply pw_below_drewN | apply below_drew1 | refine below_set ?_ GE466.out) | exact HB.out)⟩⟩
                 ·replace c55 := Bool.eq_false_iff.mpr c55
                  subst c55
                  have H1 : (none) = some r := by rw [if_neg (show ¬ (false = true) by decide)] at H; exact H
                  clear H
                  have H := H1
                  clear H1
                  exact absurd H (by simp)
               ·rw [if_neg c30] at H
                exact absurd H (by simp)
              ·rw [if_neg c29] at H
               exact absurd H (by simp)
           ·rw [if_neg c28] at H
            exact absurd H (by simp)
          ·rw [if_neg c27] at H
           have c27b0 : decide (x7_2 < ((rd_L2 t469 x6_1).length : Int)) = false := decide_eq_false c27
           clear c27
           have H' := Aside0.mk H
           clear H
           have p478 : 0 ≤ (x6_1 : Int) := of_decide_eq_true (by first | (with_reducible assumption) | assumption)
           have q478 : x6_1 < (t469.length : Int) := of_decide_eq_true (by first | (with_reducible assumption) | assumption)
           obtain ⟨ad478, A478_0, c478_0, e478, hx478_0, hl478_0, hi478_0⟩ := at_L2 (Kd.S_reads' HO_3.out).2.2 x6_1 p478 q478
           cases e478
           obtain ⟨ce478, hce478, hMe478, hcc478⟩ := Kd.S_get HO_3.out [] x6_1 p478 (by first | exact q478 | exact of_decide_eq_true (by first | (with_reducible assumption) | assumption) | (have e_ := (Kd.S_reads' HO_3.out).1; omega))
           obtain ⟨ve478_0, rfl, ge478_0⟩ := hMe478
           have hv478_0 := hcc478 0 _ rfl
           rw [Nat.add_zero, show ((Kd.slice 3 (Kd.int .i64))).sz = 1 from rfl, Nat.mul_one] at hv478_0
           replace hv478_0 := Option.some.inj (hv478_0.symm.trans hx478_0)
           rw [hv478_0] at ge478_0
           have HL478_0 := Aside0.mk (show Kd.R (Kd.int .i64) 3 _ _ _ _ (rd_L2 t469 x6_1) from ge478_0)
           clear hv478_0 ge478_0
           clear hcc478 hce478
           have HR478_0 := Aside0.mk hi478_0
           have HC478_0 := Aside0.mk hl478_0
           clear hi478_0 hl478_0
           replace p478 := eq_true p478
           replace q478 := eq_true q478
           go_wp2
           go_roundg k2
           case measure => have := HK1.out; have := HK2.out; omega
           case rel => exact ⟨(wrap64 (x6_1 + 1)), (by first | rfl | (simp; done) | (simp [*]; done)), H', ⟨by have := HK1.out; have := HK2.out; omega⟩, ⟨by (with_reducible repeat (first | apply Kd.S_alloc | apply Kd.S_drewN | apply Kd.S_drew)); exact HO_3.out⟩, ⟨by (with_reducible repeat (first | apply Kd.R_alloc | apply Kd.R_drewN | apply Kd.R_drew)); exact HO_4.out⟩, ⟨by (with_reducible repeat (first | apply Kd.S_alloc | apply Kd.S_drewN | apply Kd.S_drew)); exact HO_5.out⟩, ⟨by (with_reducible repeat (first | refine blk_drewN ?_ _ | refine blk_drew ?_ | refine blk_alloc ?_ _)); exact BK466.out⟩, ⟨by repeat (first | (with_reducible first | exact HB.out | apply below_alloc | apply pw_below_drewN | apply below_drew1 | refine below_set ?_ GE466.out) | exact HB.out)⟩⟩
         ·rw [if_neg c26] at H
          exact absurd H (by simp)
        ·rw [if_neg c25] at H
         exact absurd H (by simp)
     ·rw [if_neg c23] at H
      have c23b0 : decide (x6_1 < (t469.length : Int)) = false := decide_eq_false c23
      clear c23
      obtain rfl := Option.some.inj H
      obtain ⟨Ao60, co60, eo60⟩ := Kd.S_slice HO_3.out
      subst eo60
      go_wp2
      go_ret
      exact ⟨by first | rfl | (simp [errW_none, errW_some] <;> rfl) | (simp [*, errW_none, errW_some] <;> rfl), by repeat (first | (with_reducible first | exact HB.out | apply below_alloc | apply pw_below_drewN | apply below_drew1 | refine below_set ?_ GE466.out) | exact HB.out)⟩
 ·replace c3 := Bool.eq_false_iff.mpr c3
  subst c3
  have H1 : (none) = some r := by rw [if_neg (show ¬ (false = true) by decide)] at H; exact H
  clear H
  have H := H1
  clear H1
  exact absurd H (by simp)

end Go.Proofs.Ytclhjalgflebfaa.Q

/- How an argument of a type reads: out of the form's reading comes the value that the printed walks take. -/
namespace Go.Proofs.Ytclhjalgflebfaa.Q
open Go.RowKit Go.Proofs.YtclhjalgflebfaaW.PrintWords Go.Proofs.YtclhjalgflebfaaW.PrintLast Go.Proofs.YtclhjalgflebfaaW.PrintMore
set_option linter.unusedVariables false
set_option linter.unusedSimpArgs false
/-- What reads at type t reads as a value of kind K, of which Q holds. -/
structure Opens {α : Type} (P : Program) (t : TypeId) (K : Kd α) (Q : α → Prop) : Prop where
 out : ∀ {H : Type} {enc : TypeId × Value → H} {W : World} {base : Nat} {sp : Nat → Bool} {held : Bool} {fuel : Nat} {cs : List Value} {x : DataW H × List MemPlace},
  (∀ n ∈ x.1.weights P t, n ≤ reachBytes) → DataW.trod enc P W base sp held fuel t cs = some x → ∃ y, K.K W y cs ∧ Q y
section
variable {P : Program}
theorem opens_string {t : TypeId} (ht : P.underlying t = some .string) : Opens P t Kd.string (fun s => s.size ≤ 140737488351232) := by
 constructor
 intro H enc W base sp held fuel cs x hw h
 obtain ⟨s, rfl, rfl, hs⟩ : ∃ s : ByteArray, cs = [.string s] ∧ x = (.lit (.string s.data.toList), []) ∧ s.size ≤ maxLen := by
  cases fuel with
  | zero => simp [DataW.trod] at h
  | succ n =>
   unfold DataW.trod at h
   rw [ht] at h
   split at h <;> simp_all
 refine ⟨s, rfl, ?_⟩
 have := hw s.data.toList.length (by simp [DataW.weights])
 rw [Array.length_toList] at this
 exact this
theorem opens_int {t : TypeId} {q : IntKind} (ht : P.underlying t = some (.int q)) : Opens P t (Kd.int q) (fun n => (Lit.int q n).wf = true) := by
 constructor
 intro H enc W base sp held fuel cs x hw h
 obtain ⟨n, rfl, hs⟩ : ∃ n : Int, cs = [.int q n] ∧ (Lit.int q n).wf = true := by
  cases fuel with
  | zero => simp [DataW.trod] at h
  | succ n =>
   unfold DataW.trod at h
   rw [ht] at h
   split at h <;> simp_all
 exact ⟨n, rfl, hs⟩
theorem weights_all {H : Type} {e : TypeId} : ∀ {ds : List (DataW H)} {d : DataW H}, d ∈ ds → ∀ n ∈ d.weights P e, n ∈ DataW.weightsAll P e ds
 | d0 :: ds, d, hd, n, hn => by
  simp only [DataW.weightsAll, List.mem_append]
  rcases List.mem_cons.mp hd with rfl | h
  ·exact .inl hn
  ·exact .inr (weights_all h n hn)
theorem choose_list {α : Type} {p : Nat → α → Prop} : ∀ {n : Nat}, (∀ i, i < n → ∃ y, p i y) → ∃ ys : List α, ys.length = n ∧ ∀ i y, ys[i]? = some y → p i y
 | 0, _ => ⟨[], rfl, fun i y h => by simp at h⟩
 | n + 1, h => by
  obtain ⟨ys, hl, hy⟩ := choose_list (n := n) (fun i hi => h i (by omega))
  obtain ⟨y, hp⟩ := h n (by omega)
  refine ⟨ys ++ [y], by simp [hl], fun i z hz => ?_⟩
  by_cases hi : i < n
  ·rw [List.getElem?_append_left (by omega)] at hz
   exact hy i z hz
  ·have := (List.getElem?_eq_some_iff.mp hz).1
   simp at this
   have e : i = n := by omega
   subst e
   rw [List.getElem?_append_right (by omega)] at hz
   simp [hl] at hz
   subst hz
   exact hp
theorem opens_slice {α : Type} {t e : TypeId} {K : Kd α} {Q : α → Prop} (he : Opens P e K Q) (ht : P.underlying t = some (.slice e)) (hc : P.cellsOf e = K.sz) (bytes : Nat) (hb : P.bytesOf e = bytes) :
  Opens P t (Kd.slice e K) (fun l => l.length * bytes ≤ 140737488351232 ∧ ∀ x ∈ l, Q x) := by
 constructor
 intro H enc W base sp held fuel cs x hw h
 rcases Deep.open_slice ht h with ⟨rfl, rfl⟩ | ⟨a, len, cap, m, n, D, Pl, rfl, _, hl, hm, hmm, rfl, hel⟩
 ·exact ⟨[], ⟨none, 0, rfl, Nat.le_refl _, Kd.C_nil K W⟩, by simp, by simp⟩
 ·have hlm : len ≤ m := by rw [hmm]; split <;> omega
  have hw' : ∀ i, i < len → ∀ k ∈ (D i).weights P e, k ≤ reachBytes := fun i hi k hk => hw k (by
   simp only [DataW.weights, ht, List.mem_cons, List.mem_append]
   exact .inr (.inl (weights_all (List.mem_map.mpr ⟨i, by simpa using hi, rfl⟩) k hk)))
  obtain ⟨ys, hys, hY⟩ := choose_list (n := len) (p := fun i y => (∃ c, c.length = K.sz ∧ K.K W y c ∧ ∀ j u, c[j]? = some u → W.cell? (a.add (i * K.sz + j)) = some u) ∧ Q y) (fun i hi => by
   obtain ⟨c, h1, h2⟩ := hel i (by omega)
   obtain ⟨y, hy, hq⟩ := he.out (hw' i hi) h2
   obtain ⟨_, h3, h4⟩ := World.cells?_some h1
   rw [hc] at h3 h4
   refine ⟨y, ⟨c, h3, hy, fun j u hu => ?_⟩, hq⟩
   have hj : j < K.sz := by
    have := (List.getElem?_eq_some_iff.mp hu).1
    omega
   have h5 := h4 j hj
   rw [Addr.add_add] at h5
   rw [h5, hu])
  have hlen : len ≤ maxLen := by omega
  refine ⟨ys, ⟨some a, cap, by rw [hys], by omega, rfl, by rw [hys]; unfold maxLen at hlen; omega, fun _ => ⟨a, rfl, fun j p hj => (hY j p hj).1⟩⟩, ?_, ?_⟩
  ·have := hw ((((List.range len).map D).length + ((List.range (m - len)).map fun j => D (len + j)).length) * P.bytesOf e) (by simp [DataW.weights, ht])
   rw [hb] at this
   simp only [List.length_map, List.length_range] at this
   have h2 : len * bytes ≤ (len + (m - len)) * bytes := Nat.mul_le_mul_right _ (by omega)
   rw [hys]
   unfold reachBytes at this
   omega
  ·intro x hx
   obtain ⟨i, hi, rfl⟩ := List.mem_iff_getElem.mp hx
   exact (hY i _ (List.getElem?_eq_getElem hi)).2
/-- The fields from one on. -/
structure OpensF {α : Type} (P : Program) (fs : List Field) (off : Nat) (K : Kd α) (Q : α → Prop) : Prop where
 out : ∀ {H : Type} {enc : TypeId × Value → H} {W : World} {base : Nat} {sp : Nat → Bool} {held : Bool} {fuel : Nat} {cs : List Value} {xs : List (DataW H × List MemPlace)},
  cs.length = off + K.sz → (∀ n ∈ DataW.weightsEach P (fs.map (·.type)) (xs.map (·.1)), n ≤ reachBytes) → (fs.mapM fun f => DataW.trod enc P W base sp held fuel f.type ((cs.drop f.offset).take (P.cellsOf f.type))) = some xs → ∃ y, K.K W y (cs.drop off) ∧ Q y
theorem opensF_last {α : Type} {f : Field} {off t : Nat} {K : Kd α} {Q : α → Prop} (h : Opens P t K Q) (h0 : f.type = t) (hc : P.cellsOf t = K.sz) (ho : f.offset = off) : OpensF P [f] off K Q := by
 constructor
 intro H enc W base sp held fuel cs xs hl hw hm
 subst h0
 simp only [List.mapM_cons, List.mapM_nil, Option.pure_def, Option.bind_eq_bind, Option.bind_some] at hm
 obtain ⟨x, hx, hm⟩ := Option.bind_eq_some_iff.mp hm
 obtain rfl := Option.some.inj hm
 rw [hc, ho, List.take_of_length_le (by rw [List.length_drop]; omega)] at hx
 exact h.out (fun n hn => hw n (by simp [DataW.weightsEach, hn])) hx
theorem opensF_cons {α β : Type} {f : Field} {fs : List Field} {off t : Nat} {K : Kd α} {K1 : Kd β} {Q : α → Prop} {Q1 : β → Prop} (h : Opens P t K Q) (h0 : f.type = t) (hc : P.cellsOf t = K.sz) (ho : f.offset = off) (h1 : OpensF P fs (off + K.sz) K1 Q1) :
  OpensF P (f :: fs) off (Kd.pair K K1) (fun p => Q p.1 ∧ Q1 p.2) := by
 constructor
 intro H enc W base sp held fuel cs xs hl hw hm
 subst h0
 have hl : cs.length = off + (K.sz + K1.sz) := hl
 rw [List.mapM_cons] at hm
 simp only [Option.pure_def, Option.bind_eq_bind] at hm
 obtain ⟨x, hx, hm⟩ := Option.bind_eq_some_iff.mp hm
 obtain ⟨xs', hxs, hm⟩ := Option.bind_eq_some_iff.mp hm
 obtain rfl := Option.some.inj hm
 rw [hc, ho] at hx
 obtain ⟨y, hy, hq⟩ := h.out (fun n hn => hw n (by simp only [List.map_cons, DataW.weightsEach, List.mem_append]; exact .inl hn)) hx
 obtain ⟨z, hz, hq1⟩ := h1.out (by omega) (fun n hn => hw n (by simp only [List.map_cons, DataW.weightsEach, List.mem_append]; exact .inr hn)) hxs
 refine ⟨(y, z), ⟨(cs.drop off).take K.sz, cs.drop (off + K.sz), ?_, hy, hz⟩, hq, hq1⟩
 rw [← List.drop_drop, List.take_append_drop]
theorem opens_struct {α β : Type} {t : TypeId} {fs : Array Field} {K : Kd α} {Q : α → Prop} (ht : P.underlying t = some (.struct fs)) (h : OpensF P fs.toList 0 K Q) (hc : P.cellsOf t = K.sz) (g : β → α) (g' : α → β) (hg : ∀ y, g (g' y) = y) : Opens P t (Kd.iso K g) (fun x => Q (g x)) := by
 constructor
 intro H enc W base sp held fuel cs x hw hm
 cases fuel with
 | zero => simp [DataW.trod] at hm
 | succ n =>
  unfold DataW.trod at hm
  rw [ht] at hm
  simp only at hm
  split at hm
  ·rename_i hl
   obtain ⟨xs, hxs, rfl⟩ := Option.map_eq_some_iff.mp hm
   obtain ⟨y, hy, hq⟩ := h.out (cs := cs) (xs := xs) (by rw [hl, hc]; omega) (fun n hn => hw n (by simp only [DataW.weights, ht]; exact hn)) hxs
   exact ⟨g' y, by show K.K W (g (g' y)) cs; rw [hg]; simpa using hy, by show Q (g (g' y)); rw [hg]; exact hq⟩
  ·cases hm
theorem opens_array2 {α β : Type} {t e : TypeId} {K : Kd α} {Q : α → Prop} {k : Kd β} {WF : β → Prop} (mk : α → α → β) (g : β → α × α) (he : Opens P e K Q) (ht : P.underlying t = some (.array 2 e)) (hsz : K.sz = 1) (hce : P.cellsOf e = 1) (hct : P.cellsOf t = 2) (hk : k = Kd.iso (Kd.pair K K) g) (hg : ∀ x y, g (mk x y) = (x, y)) (hQ : ∀ x y, Q x → Q y → WF (mk x y)) : Opens P t k WF := by
 subst hk
 constructor
 intro H enc W base sp held fuel cs x hw hm
 obtain ⟨xs, m, rfl, rfl, hl, hn, hi⟩ := DataW.trod_array ht hm
 rw [hct] at hl
 have hwx : ∀ d, d ∈ xs.map (·.1) → ∀ n ∈ d.weights P e, n ≤ reachBytes := fun d hd n hn => hw n (by simp only [DataW.weights, ht]; exact weights_all hd n hn)
 obtain ⟨d0, d1, rfl⟩ : ∃ d0 d1, xs = [d0, d1] := by
  match xs, hn with
  | [a, b], _ => exact ⟨a, b, rfl⟩
 obtain ⟨c0, c1, rfl⟩ : ∃ c0 c1, cs = [c0, c1] := by
  match cs, hl with
  | [a, b], _ => exact ⟨a, b, rfl⟩
 have h0 := hi 0 (by omega)
 have h1 := hi 1 (by omega)
 rw [hce] at h0 h1
 obtain ⟨y0, hy0, q0⟩ := he.out (hwx d0.1 (by simp)) (show _ = some d0 from h0)
 obtain ⟨y1, hy1, q1⟩ := he.out (hwx d1.1 (by simp)) (show _ = some d1 from h1)
 refine ⟨mk y0 y1, ?_, hQ _ _ q0 q1⟩
 show (Kd.pair K K).K W (g (mk y0 y1)) [c0, c1]
 rw [hg]
 exact ⟨[c0], [c1], rfl, hy0, hy1⟩
theorem opens_struct' {α β : Type} {t : TypeId} {fs : Array Field} {K : Kd α} {Q : α → Prop} {k : Kd β} {WF : β → Prop} (g' : α → β) (g : β → α) (ht : P.underlying t = some (.struct fs)) (h : OpensF P fs.toList 0 K Q) (hc : P.cellsOf t = K.sz) (hk : k = Kd.iso K g) (hg : ∀ y, g (g' y) = y) (hQ : ∀ x, Q (g x) → WF x) : Opens P t k WF := by
 subst hk
 constructor
 intro H enc W base sp held fuel cs x hw hm
 obtain ⟨y, h1, h2⟩ := (opens_struct ht h hc g g' hg).out hw hm
 exact ⟨y, h1, hQ y h2⟩
end
end Go.Proofs.Ytclhjalgflebfaa.Q

namespace Go.Proofs.Ytclhjalgflebfaa.Q
open Go.RowKit Go.Proofs.YtclhjalgflebfaaW.PrintWords Go.Proofs.YtclhjalgflebfaaW.PrintLast Go.Proofs.YtclhjalgflebfaaW.PrintMore
set_option linter.unusedVariables false
set_option linter.unusedSimpArgs false

def WF58 (x : S58) : Prop := ((fun n : Int => (Lit.int .i64 n).wf = true) x.f0) ∧ ((fun s : ByteArray => s.size ≤ 140737488351232) x.f1) ∧ ((fun l : List Int => l.length * 8 ≤ 140737488351232 ∧ ∀ x ∈ l, (fun n : Int => (Lit.int .i64 n).wf = true) x) x.f2) ∧ ((fun n : Int => (Lit.int .i64 n).wf = true) x.f3) ∧ ((fun s : ByteArray => s.size ≤ 140737488351232) x.f4)
theorem opens58 : Opens Try.prog 58 k58 WF58 :=
 opens_struct' (fun p : (Int) × (ByteArray) × (List Int) × (Int) × (ByteArray) => (⟨p.1, p.2.1, p.2.2.1, p.2.2.2.1, p.2.2.2.2⟩ : S58)) (fun x : S58 => (x.f0, x.f1, x.f2, x.f3, x.f4)) Try.underlying58 (opensF_cons (opens_int Try.underlying3) rfl (by kernel_rfl) rfl (opensF_cons (opens_string Try.underlying9) rfl (by kernel_rfl) rfl (opensF_cons (opens_slice (opens_int Try.underlying3) Try.underlying34 (by kernel_rfl) 8 (by kernel_rfl)) rfl (by kernel_rfl) rfl (opensF_cons (opens_int Try.underlying3) rfl (by kernel_rfl) rfl (opensF_last (opens_string Try.underlying9) rfl (by kernel_rfl) rfl))))) (by kernel_rfl) rfl (fun _ => rfl) (fun _ h => h)
def WF38 (x : S38) : Prop := ((fun n : Int => (Lit.int .i64 n).wf = true) x.f0) ∧ ((fun n : Int => (Lit.int .i64 n).wf = true) x.f1)
theorem opens38 : Opens Try.prog 38 k38 WF38 :=
 opens_array2 (fun x y => (⟨x, y⟩ : S38)) (fun x : S38 => (x.f0, x.f1)) (opens_int Try.underlying3) Try.underlying38 rfl (by kernel_rfl) (by kernel_rfl) rfl (fun _ _ => rfl) (fun _ _ hx hy => ⟨hx, hy⟩)
def WF40 (x : S40) : Prop := ((fun l : List Int => l.length * 8 ≤ 140737488351232 ∧ ∀ x ∈ l, (fun n : Int => (Lit.int .i64 n).wf = true) x) x.f0) ∧ ((fun n : Int => (Lit.int .i64 n).wf = true) x.f1) ∧ ((fun n : Int => (Lit.int .i64 n).wf = true) x.f2) ∧ (WF38 x.f3)
theorem opens40 : Opens Try.prog 40 k40 WF40 :=
 opens_struct' (fun p : (List Int) × (Int) × (Int) × (S38) => (⟨p.1, p.2.1, p.2.2.1, p.2.2.2⟩ : S40)) (fun x : S40 => (x.f0, x.f1, x.f2, x.f3)) Try.underlying40 (opensF_cons (opens_slice (opens_int Try.underlying3) Try.underlying34 (by kernel_rfl) 8 (by kernel_rfl)) rfl (by kernel_rfl) rfl (opensF_cons (opens_int Try.underlying3) rfl (by kernel_rfl) rfl (opensF_cons (opens_int Try.underlying3) rfl (by kernel_rfl) rfl (opensF_last opens38 rfl (by kernel_rfl) rfl)))) (by kernel_rfl) rfl (fun _ => rfl) (fun _ h => h)
def WF26 (x : S26) : Prop := ((fun s : ByteArray => s.size ≤ 140737488351232) x.f0) ∧ ((fun l : List ByteArray => l.length * 16 ≤ 140737488351232 ∧ ∀ x ∈ l, (fun s : ByteArray => s.size ≤ 140737488351232) x) x.f1) ∧ ((fun s : ByteArray => s.size ≤ 140737488351232) x.f2) ∧ ((fun l : List ByteArray => l.length * 16 ≤ 140737488351232 ∧ ∀ x ∈ l, (fun s : ByteArray => s.size ≤ 140737488351232) x) x.f3) ∧ ((fun l : List (S58) => l.length * 72 ≤ 140737488351232 ∧ ∀ x ∈ l, WF58 x) x.f4) ∧ ((fun l : List (S40) => l.length * 56 ≤ 140737488351232 ∧ ∀ x ∈ l, WF40 x) x.f5)
theorem opens26 : Opens Try.prog 26 k26 WF26 :=
 opens_struct' (fun p : (ByteArray) × (List ByteArray) × (ByteArray) × (List ByteArray) × (List (S58)) × (List (S40)) => (⟨p.1, p.2.1, p.2.2.1, p.2.2.2.1, p.2.2.2.2.1, p.2.2.2.2.2⟩ : S26)) (fun x : S26 => (x.f0, x.f1, x.f2, x.f3, x.f4, x.f5)) Try.underlying26 (opensF_cons (opens_string Try.underlying9) rfl (by kernel_rfl) rfl (opensF_cons (opens_slice (opens_string Try.underlying9) Try.underlying22 (by kernel_rfl) 16 (by kernel_rfl)) rfl (by kernel_rfl) rfl (opensF_cons (opens_string Try.underlying9) rfl (by kernel_rfl) rfl (opensF_cons (opens_slice (opens_string Try.underlying9) Try.underlying22 (by kernel_rfl) 16 (by kernel_rfl)) rfl (by kernel_rfl) rfl (opensF_cons (opens_slice opens58 Try.underlying23 (by kernel_rfl) 72 (by kernel_rfl)) rfl (by kernel_rfl) rfl (opensF_last (opens_slice opens40 Try.underlying24 (by kernel_rfl) 56 (by kernel_rfl)) rfl (by kernel_rfl) rfl)))))) (by kernel_rfl) rfl (fun _ => rfl) (fun _ h => h)
end Go.Proofs.Ytclhjalgflebfaa.Q

namespace Go.Proofs.Ytclhjalgflebfaa.Q
open Go.RowKit Go.Proofs.YtclhjalgflebfaaW.PrintWords Go.Proofs.YtclhjalgflebfaaW.PrintLast Go.Proofs.YtclhjalgflebfaaW.PrintMore
set_option linter.unusedVariables false
set_option linter.unusedSimpArgs false
def DomMeets.Pure : Prop := ∀ (a0_0 : ByteArray) (l0_1 : List ByteArray) (a0_2 : ByteArray) (l0_3 : List ByteArray) (l0_4 : List (S58)) (l0_5 : List (S40)), WF26 ⟨a0_0, l0_1, a0_2, l0_3, l0_4, l0_5⟩ → ∃ k, truantlaw10_DomMeets.f k a0_0 l0_1 a0_2 l0_3 l0_4 l0_5 = some true
end Go.Proofs.Ytclhjalgflebfaa.Q

/- Who is on each way: the nearest ones, round by round; told of any graph whose blocks stand in an order in which each has one of those that lead to it ahead. -/

namespace Go.Proofs.Ytclhjalgflebfaa.Q
open Go.RowKit Go.Proofs.YtclhjalgflebfaaW.PrintWords Go.Proofs.YtclhjalgflebfaaW.PrintLast Go.Proofs.YtclhjalgflebfaaW.PrintMore
set_option linter.unusedVariables false
set_option linter.unusedSimpArgs false
/-- at: the place of each that is reached; -1: it isn't. -/
structure Gr (prev : Int → List Int) (at_ : Int → Int) : Prop where
 none : at_ (-1) = -1
 zero : at_ 0 = 0
 inj : ∀ x y, at_ x ≠ -1 → at_ x = at_ y → x = y
 pos : ∀ x, at_ x ≠ -1 → 0 ≤ at_ x
 up : ∀ b, at_ b ≠ -1 → b ≠ 0 → ∃ p ∈ prev b, at_ p ≠ -1 ∧ at_ p < at_ b
 fwd : ∀ b p, p ∈ prev b → at_ p ≠ -1 → at_ b ≠ -1
section
variable {prev : Int → List Int} {at_ nr : Int → Int}
/-- It is come to by a way without y that steps back r times. -/
inductive AvR (prev : Int → List Int) (at_ : Int → Int) (y : Int) : Nat → Int → Prop
 | zero (h : (0 : Int) ≠ y) : AvR prev at_ y 0 0
 | fwd {r : Nat} {p b : Int} (h : AvR prev at_ y r p) (hp : p ∈ prev b) (hb : b ≠ y) (ha : at_ p < at_ b) : AvR prev at_ y r b
 | ret {r : Nat} {p b : Int} (h : AvR prev at_ y r p) (hp : p ∈ prev b) (hb : b ≠ y) (ha : at_ b ≤ at_ p) : AvR prev at_ y (r + 1) b
def Av (prev : Int → List Int) (at_ : Int → Int) (y x : Int) : Prop := ∃ r, AvR prev at_ y r x
/-- d stands on each way to x. -/
def Domi (prev : Int → List Int) (at_ : Int → Int) (d x : Int) : Prop := at_ x ≠ -1 ∧ ¬ Av prev at_ d x
theorem Av.step {y p b : Int} (h : Av prev at_ y p) (hp : p ∈ prev b) (hb : b ≠ y) : Av prev at_ y b := by
 obtain ⟨r, h⟩ := h
 by_cases ha : at_ p < at_ b
 ·exact ⟨r, .fwd h hp hb ha⟩
 ·exact ⟨r + 1, .ret h hp hb (by omega)⟩
theorem AvR.ne {y x : Int} {r : Nat} (h : AvR prev at_ y r x) : x ≠ y := by
 cases h with
 | zero h => exact h
 | fwd _ _ hb _ => exact hb
 | ret _ _ hb _ => exact hb
theorem AvR.reached (g : Gr prev at_) {y x : Int} {r : Nat} (h : AvR prev at_ y r x) : at_ x ≠ -1 := by
 induction h with
 | zero _ => rw [g.zero]; decide
 | fwd _ hp _ _ ih => exact g.fwd _ _ hp ih
 | ret _ hp _ _ ih => exact g.fwd _ _ hp ih
theorem Domi.self {x : Int} (hx : at_ x ≠ -1) : Domi prev at_ x x := ⟨hx, fun ⟨_, h⟩ => h.ne rfl⟩
/-- Of those that lead to x, too, if it isn't x itself. -/
theorem Domi.prev_ {d x p : Int} (h : Domi prev at_ d x) (hne : d ≠ x) (hp : p ∈ prev x) (hr : at_ p ≠ -1) : Domi prev at_ d p := ⟨hr, fun k => h.2 (k.step hp (Ne.symm hne))⟩
/-- A way by which places rise. -/
theorem rising (g : Gr prev at_) (d : Int) : ∀ (n : Nat) (x : Int), at_ x ≠ -1 → at_ x ≤ n → at_ x < at_ d → Av prev at_ d x := by
 intro n
 induction n with
 | zero =>
  intro x hx hn hd
  have h0 := g.pos x hx
  have : x = 0 := g.inj x 0 hx (by rw [g.zero]; omega)
  subst this
  exact ⟨0, .zero (fun e => by rw [← e] at hd; omega)⟩
 | succ n ih =>
  intro x hx hn hd
  by_cases h0 : x = 0
  ·subst h0
   exact ⟨0, .zero (fun e => by rw [← e] at hd; omega)⟩
  ·obtain ⟨p, hp, hr, ha⟩ := g.up x hx h0
   exact (ih p hr (by omega) (by omega)).step hp (fun e => by rw [e] at hd; omega)
theorem Domi.le (g : Gr prev at_) {d x : Int} (h : Domi prev at_ d x) : at_ d ≤ at_ x := by
 rcases (show at_ x < at_ d ∨ at_ d ≤ at_ x by omega) with hlt | hge
 ·exact absurd (rising g d (at_ x).toNat x h.1 (by have := g.pos x h.1; omega) hlt) h.2
 ·exact hge
theorem dom_zero (g : Gr prev at_) {d : Int} (hd : at_ d ≠ -1) (h : Domi prev at_ d 0) : d = 0 := by
 have h1 := h.le g
 rw [g.zero] at h1
 exact g.inj d 0 hd (by rw [g.zero]; have := g.pos d hd; omega)
/-! the nearest ones: a tree -/
/-- What is known of the nearest ones: each stands ahead. -/
structure Tr (at_ nr : Int → Int) : Prop where
 zero : nr 0 = 0
 known : ∀ x, nr x ≠ -1 → at_ x ≠ -1
 up : ∀ x, x ≠ 0 → nr x ≠ -1 → at_ (nr x) < at_ x ∧ nr (nr x) ≠ -1
inductive On (nr : Int → Int) (a : Int) : Int → Prop
 | self : On nr a a
 | up {x : Int} (h0 : x ≠ 0) (h : On nr a (nr x)) : On nr a x
theorem On.trans {a b x : Int} (h : On nr a b) (k : On nr b x) : On nr a x := by
 induction k with
 | self => exact h
 | up h0 _ ih => exact .up h0 ih
theorem On.le (t : Tr at_ nr) {a x : Int} (h : On nr a x) : nr x ≠ -1 → at_ a ≤ at_ x ∧ nr a ≠ -1 := by
 induction h with
 | self => exact fun h => ⟨Int.le_refl _, h⟩
 | up h0 _ ih =>
  intro hx
  have h1 := t.up _ h0 hx
  have h2 := ih h1.2
  exact ⟨by omega, h2.2⟩
theorem On.next {a x : Int} (h : On nr a x) (hne : a ≠ x) : x ≠ 0 ∧ On nr a (nr x) := by
 cases h with
 | self => exact absurd rfl hne
 | up h0 h => exact ⟨h0, h⟩
/-- Whoever is on each way stands among the nearest ones upwards. -/
def Jn (prev : Int → List Int) (at_ nr : Int → Int) : Prop := ∀ x, x ≠ 0 → nr x ≠ -1 → ∀ d, at_ d ≠ -1 → Domi prev at_ d x → d ≠ x → Domi prev at_ d (nr x)
theorem Jn.on (g : Gr prev at_) (t : Tr at_ nr) (j : Jn prev at_ nr) (d : Int) (hd : at_ d ≠ -1) : ∀ (n : Nat) (x : Int), at_ x ≤ n → nr x ≠ -1 → Domi prev at_ d x → On nr d x := by
 intro n
 induction n with
 | zero =>
  intro x hn hx h
  by_cases hz : x = 0
  ·subst hz
   rw [dom_zero g hd h]; exact .self
  ·have h1 := t.up x hz hx
   have := g.pos (nr x) (t.known _ h1.2)
   omega
 | succ n ih =>
  intro x hn hx h
  by_cases hz : x = 0
  ·subst hz
   rw [dom_zero g hd h]; exact .self
  ·by_cases he : d = x
   ·subst he; exact .self
   ·have h1 := t.up x hz hx
    exact .up hz (ih (nr x) (by omega) h1.2 (j x hz hx d hd h he))
/-- Once the nearest one of c is another. -/
def putI (nr : Int → Int) (c m : Int) : Int → Int := fun x => if x = c then m else nr x
theorem put_same (nr : Int → Int) (c m : Int) : putI nr c m c = m := if_pos rfl
theorem put_other (nr : Int → Int) {c m x : Int} (h : x ≠ c) : putI nr c m x = nr x := if_neg h
/-- Above those that stand ahead of c nothing changes. -/
theorem On.put (t : Tr at_ nr) {c m a x : Int} (h : On nr a x) : nr x ≠ -1 → at_ x < at_ c → On (putI nr c m) a x := by
 induction h with
 | self => exact fun _ _ => .self
 | @up x h0 h ih =>
  intro hx hc
  have h1 := t.up x h0 hx
  refine .up h0 ?_
  rw [put_other nr (fun e => by rw [e] at hc; omega)]
  exact ih h1.2 (by omega)
theorem On.unput (t : Tr at_ nr) {c m a x : Int} (h : On (putI nr c m) a x) : nr x ≠ -1 → at_ x < at_ c → On nr a x := by
 induction h with
 | self => exact fun _ _ => .self
 | @up x h0 h ih =>
  intro hx hc
  have h1 := t.up x h0 hx
  rw [put_other nr (fun e => by rw [e] at hc; omega)] at ih
  exact .up h0 (ih h1.2 (by omega))
theorem On.part {c m a x : Int} (h : On (putI nr c m) a x) : On nr c x → On nr a x ∨ On (putI nr c m) a c := by
 induction h with
 | self => exact fun _ => .inl .self
 | @up x h0 h ih =>
  intro hc
  by_cases e : x = c
  ·subst e
   exact .inr (.up h0 h)
  ·rw [put_other nr e] at ih
   rcases ih (hc.next (Ne.symm e)).2 with k | k
   ·exact .inl (.up h0 k)
   ·exact .inr k
theorem On.whole {c m a x : Int} (h : On (putI nr c m) a x) : ¬ On nr c x → On nr a x := by
 induction h with
 | self => exact fun _ => .self
 | @up x h0 h ih =>
  intro hc
  have e : x ≠ c := fun e => hc (by subst e; exact .self)
  rw [put_other nr e] at ih
  exact .up h0 (ih (fun k => hc (.up h0 k)))
/-- A way to x passes c, or it is a way without c. -/
theorem AvR.passes {y c x : Int} {q : Nat} (h : AvR prev at_ y q x) : (∃ q', q' ≤ q ∧ AvR prev at_ y q' c) ∨ AvR prev at_ c q x := by
 induction h with
 | zero h =>
  by_cases e : (0 : Int) = c
  ·subst e; exact .inl ⟨0, Nat.le_refl _, .zero h⟩
  ·exact .inr (.zero e)
 | @fwd r p b h hp hb ha ih =>
  by_cases e : b = c
  ·subst e; exact .inl ⟨r, Nat.le_refl _, .fwd h hp hb ha⟩
  ·rcases ih with ⟨q', h1, h2⟩ | k
   ·exact .inl ⟨q', h1, h2⟩
   ·exact .inr (.fwd k hp e ha)
 | @ret r p b h hp hb ha ih =>
  by_cases e : b = c
  ·subst e; exact .inl ⟨r + 1, Nat.le_refl _, .ret h hp hb ha⟩
  ·rcases ih with ⟨q', h1, h2⟩ | k
   ·exact .inl ⟨q', by omega, h2⟩
   ·exact .inr (.ret k hp e ha)
/-- Behind r rounds, and the blocks up to place i of the next one, it is told of x that y isn't on each way. -/
def Est (prev : Int → List Int) (at_ : Int → Int) (r : Nat) (i : Int) (y x : Int) : Prop := ∃ q, AvR prev at_ y q x ∧ (q + 1 ≤ r ∨ (q ≤ r ∧ at_ x ≤ i))
def Sn (prev : Int → List Int) (at_ nr : Int → Int) (r : Nat) (i : Int) : Prop := ∀ y x, nr x ≠ -1 → Est prev at_ r i y x → ¬ On nr y x
/-- What is told of a block's nearest one, by those that lead to it. -/
structure Found (prev : Int → List Int) (at_ nr : Int → Int) (c m : Int) : Prop where
 known : nr m ≠ -1
 on : ∀ p ∈ prev c, at_ p ≠ -1 → nr p ≠ -1 → On nr m p
 dom : ∀ d, at_ d ≠ -1 → (∀ p ∈ prev c, at_ p ≠ -1 → Domi prev at_ d p) → Domi prev at_ d m
/-- One block's step keeps all three. -/
theorem step_keeps (g : Gr prev at_) (t : Tr at_ nr) (j : Jn prev at_ nr) {r : Nat} {i : Int} (s : Sn prev at_ nr r i) {c m : Int} (hc0 : c ≠ 0) (hcr : at_ c ≠ -1) (hci : at_ c = i + 1)
  (hk : ∀ x, at_ x ≠ -1 → (at_ x ≤ i ∨ 1 ≤ r) → nr x ≠ -1) (f : Found prev at_ nr c m) :
  Tr at_ (putI nr c m) ∧ Jn prev at_ (putI nr c m) ∧ Sn prev at_ (putI nr c m) r (i + 1) ∧ (∀ x, at_ x ≠ -1 → (at_ x ≤ i + 1 ∨ 1 ≤ r) → putI nr c m x ≠ -1) := by
 have hmr := t.known _ f.known
 have hm1 : m ≠ -1 := fun e => hmr (by rw [e]; exact g.none)
 obtain ⟨p0, hp0, hr0, ha0⟩ := g.up c hcr hc0
 have hm0 := ((f.on p0 hp0 hr0 (hk p0 hr0 (.inl (by omega)))).le t (hk p0 hr0 (.inl (by omega)))).1
 have hmc : at_ m < at_ c := by omega
 have hne : m ≠ c := fun e => by rw [e] at hmc; omega
 have hC : ∀ y, Est prev at_ r (i + 1) y c → ¬ On (putI nr c m) y c := by
  rintro y ⟨q, hq, hcond⟩ hon
  have hyc := hq.ne
  have h1 := (hon.next (Ne.symm hyc)).2
  rw [put_same] at h1
  have h2 := h1.unput t f.known hmc
  cases hq with
  | zero _ => exact hc0 rfl
  | @fwd _ p _ h hp hb ha =>
   have hpr := h.reached g
   have hpk := hk p hpr (.inl (by omega))
   exact s y p hpk ⟨q, h, .inr ⟨by omega, by omega⟩⟩ (h2.trans (f.on p hp hpr hpk))
  | @ret q' p _ h hp hb ha =>
   have hpr := h.reached g
   have hpk := hk p hpr (.inr (by omega))
   exact s y p hpk ⟨q', h, .inl (by omega)⟩ (h2.trans (f.on p hp hpr hpk))
 refine ⟨⟨?_, ?_, ?_⟩, ?_, ?_, ?_⟩
 ·rw [put_other nr (Ne.symm hc0)]; exact t.zero
 ·intro x hx
  by_cases e : x = c
  ·rw [e]; exact hcr
  ·rw [put_other nr e] at hx; exact t.known x hx
 ·intro x hx0 hx
  by_cases e : x = c
  ·subst e
   rw [put_same, put_other nr hne]
   exact ⟨hmc, f.known⟩
  ·rw [put_other nr e] at hx ⊢
   have h1 := t.up x hx0 hx
   refine ⟨h1.1, ?_⟩
   by_cases e2 : nr x = c
   ·rw [e2, put_same]; exact hm1
   ·rw [put_other nr e2]; exact h1.2
 ·intro x hx0 hx d hd hdom hdx
  by_cases e : x = c
  ·subst e
   rw [put_same]
   exact f.dom d hd (fun p hp hr => hdom.prev_ hdx hp hr)
  ·rw [put_other nr e] at hx ⊢
   exact j x hx0 hx d hd hdom hdx
 ·intro y x hx he hon
  by_cases e : x = c
  ·subst e; exact hC y he hon
  ·rw [put_other nr e] at hx
   obtain ⟨q, hq, hcond⟩ := he
   have hax : at_ x ≠ i + 1 := fun e2 => e (g.inj x c (hq.reached g) (by rw [e2, hci]))
   have hcond2 : q + 1 ≤ r ∨ (q ≤ r ∧ at_ x ≤ i) := by omega
   have hs := s y x hx ⟨q, hq, hcond2⟩
   by_cases hcx : On nr c x
   ·rcases hq.passes (c := c) with ⟨q', hle, h'⟩ | k
    ·rcases hon.part hcx with k | k
     ·exact hs k
     ·exact hC y ⟨q', h', by omega⟩ k
    ·exact s c x hx ⟨q, k, hcond2⟩ hcx
   ·exact hs (hon.whole hcx)
 ·intro x hxr hx
  by_cases e : x = c
  ·rw [e, put_same]; exact hm1
  ·rw [put_other nr e]
   have hax : at_ x ≠ i + 1 := fun e2 => e (g.inj x c hxr (by rw [e2, hci]))
   exact hk x hxr (by omega)
/-- Behind enough rounds the nearest ones are those that stand on each way. -/
theorem on_iff (g : Gr prev at_) (t : Tr at_ nr) (j : Jn prev at_ nr) {r : Nat} {i : Int} (s : Sn prev at_ nr r i) (hall : ∀ y x, Av prev at_ y x → Est prev at_ r i y x) {d x : Int} (hd : at_ d ≠ -1) (hx : nr x ≠ -1) : On nr d x ↔ Domi prev at_ d x := by
 constructor
 ·intro h
  refine ⟨t.known x hx, fun k => ?_⟩
  exact s d x hx (hall d x k) h
 ·intro h
  exact j.on g t d hd (at_ x).toNat x (by have := g.pos x h.1; omega) hx h
/-- Two trees that tell the same tell the same nearest ones. -/
theorem nearest_same (g : Gr prev at_) {nr' : Int → Int} (t : Tr at_ nr) (t' : Tr at_ nr') {x : Int} (hx0 : x ≠ 0) (hx : nr x ≠ -1) (hx' : nr' x ≠ -1) (h : ∀ d, at_ d ≠ -1 → (On nr d x ↔ On nr' d x)) : nr x = nr' x := by
 have h1 := t.up x hx0 hx
 have h1' := t'.up x hx0 hx'
 have r1 := t.known _ h1.2
 have r1' := t'.known _ h1'.2
 have a1 : On nr (nr x) x := .up hx0 .self
 have a1' : On nr' (nr' x) x := .up hx0 .self
 have b1 := (((h _ r1).mp a1).next (fun e => by rw [e] at h1; omega)).2.le t' h1'.2
 have b2 := (((h _ r1').mpr a1').next (fun e => by rw [e] at h1'; omega)).2.le t h1.2
 exact g.inj _ _ r1 (by omega)
end
end Go.Proofs.Ytclhjalgflebfaa.Q

/- meet, and what is found of a block by those that lead to it; told of the rows. -/

namespace Go.Proofs.Ytclhjalgflebfaa.Q
open Go.RowKit Go.Proofs.YtclhjalgflebfaaW.PrintWords Go.Proofs.YtclhjalgflebfaaW.PrintLast Go.Proofs.YtclhjalgflebfaaW.PrintMore
set_option linter.unusedVariables false
set_option linter.unusedSimpArgs false
def fnI (n : Nat) (l : List Int) (x : Int) : Int := if 0 ≤ x ∧ x < (n : Int) then rd l x else -1
theorem fnI_in {n : Nat} {l : List Int} {x : Int} (h : fnI n l x ≠ -1) : 0 ≤ x ∧ x < (n : Int) := by
 unfold fnI at h
 split at h
 ·assumption
 ·exact absurd rfl h
theorem fnI_rd {n : Nat} {l : List Int} {x : Int} (h0 : 0 ≤ x) (h1 : x < (n : Int)) : fnI n l x = rd l x := if_pos ⟨h0, h1⟩
section
variable {prev : Int → List Int} {n : Nat} {at_ nr : List Int}
theorem up_spec (g : Gr prev (fnI n at_)) (t : Tr (fnI n at_) (fnI n nr)) (j : Jn prev (fnI n at_) (fnI n nr)) (ha : at_.length = n) (hn : nr.length = n) (lim : Int) (hl : 0 ≤ lim) :
  ∀ (k : Nat) (a : Int), fnI n nr a ≠ -1 → fnI n at_ a < k → ∃ a', upO at_ nr k lim a = some a' ∧ On (fnI n nr) a' a ∧ fnI n nr a' ≠ -1 ∧ fnI n at_ a' ≤ lim ∧ (fnI n at_ a ≤ lim → a' = a) ∧ (∀ d, fnI n at_ d ≠ -1 → Domi prev (fnI n at_) d a → fnI n at_ d ≤ lim → Domi prev (fnI n at_) d a') := by
 intro k
 induction k with
 | zero =>
  intro a hk hlt
  have := g.pos a (t.known a hk)
  omega
 | succ k ih =>
  intro a hk hlt
  obtain ⟨h0, h1⟩ := fnI_in hk
  have e1 : rd at_ a = fnI n at_ a := (fnI_rd h0 h1).symm
  have e2 : rd nr a = fnI n nr a := (fnI_rd h0 h1).symm
  rw [upO, if_pos ⟨h0, by rw [ha]; exact h1⟩, e1]
  by_cases hgt : lim < fnI n at_ a
  ·have hz : a ≠ 0 := fun e => by rw [e, g.zero] at hgt; omega
   have h2 := t.up a hz hk
   rw [if_pos hgt, if_pos (by rw [hn]; exact h1), e2]
   obtain ⟨a', q1, q2, q3, q4, _, q6⟩ := ih (fnI n nr a) h2.2 (by omega)
   refine ⟨a', q1, .up hz q2, q3, q4, fun h => by omega, fun d hd hdom hdl => q6 d hd ?_ hdl⟩
   exact j a hz hk d hd hdom (fun e => by rw [e] at hdl; omega)
  ·rw [if_neg hgt]
   exact ⟨a, rfl, .self, hk, by omega, fun _ => rfl, fun d _ h _ => h⟩
theorem meet_spec (g : Gr prev (fnI n at_)) (t : Tr (fnI n at_) (fnI n nr)) (j : Jn prev (fnI n at_) (fnI n nr)) (ha : at_.length = n) (hn : nr.length = n) :
  ∀ (k : Nat) (a b : Int), fnI n nr a ≠ -1 → fnI n nr b ≠ -1 → fnI n at_ a + fnI n at_ b + 2 ≤ k → ∃ m, meetO at_ nr k a b = some m ∧ On (fnI n nr) m a ∧ On (fnI n nr) m b ∧ fnI n nr m ≠ -1 ∧ (∀ d, fnI n at_ d ≠ -1 → Domi prev (fnI n at_) d a → Domi prev (fnI n at_) d b → Domi prev (fnI n at_) d m) := by
 intro k
 induction k with
 | zero =>
  intro a b hka hkb hk
  have h1 := g.pos a (t.known a hka)
  have h2 := g.pos b (t.known b hkb)
  omega
 | succ k ih =>
  intro a b hka hkb hk
  have h1 := g.pos a (t.known a hka)
  have h2 := g.pos b (t.known b hkb)
  rw [meetO]
  by_cases hab : a = b
  ·rw [if_pos hab]
   subst hab
   exact ⟨a, rfl, .self, .self, hka, fun d _ h _ => h⟩
  ·rw [if_neg hab]
   obtain ⟨hb0, hb1⟩ := fnI_in hkb
   have e1 : rd at_ b = fnI n at_ b := (fnI_rd hb0 hb1).symm
   rw [if_pos ⟨hb0, by rw [ha]; exact hb1⟩, e1]
   obtain ⟨a', p1, p2, p3, p4, p5, p6⟩ := up_spec g t j ha hn (fnI n at_ b) h2 k a hka (by omega)
   obtain ⟨ha0, ha1⟩ := fnI_in p3
   have e2 : rd at_ a' = fnI n at_ a' := (fnI_rd ha0 ha1).symm
   have h3 := g.pos a' (t.known a' p3)
   obtain ⟨b', q1, q2, q3, q4, q5, q6⟩ := up_spec g t j ha hn (fnI n at_ a') h3 k b hkb (by omega)
   have h4 := g.pos b' (t.known b' q3)
   have hle := (p2.le t hka).1
   have hne : fnI n at_ a ≠ fnI n at_ b := fun e => hab (g.inj a b (t.known a hka) e)
   have hlt : fnI n at_ a' + fnI n at_ b' < fnI n at_ a + fnI n at_ b := by omega
   obtain ⟨m, r1, r2, r3, r4, r5⟩ := ih a' b' p3 q3 (by omega)
   refine ⟨m, ?_, r2.trans p2, r3.trans q2, r4, fun d hd da db => ?_⟩
   ·rw [p1, Option.bind_some, if_pos ⟨ha0, by rw [ha]; exact ha1⟩, e2, q1, Option.bind_some]
    exact r1
   ·have da' := p6 d hd da (db.le g)
    exact r5 d hd da' (q6 d hd db (da'.le g))
/-- The fold over those that lead to a block. -/
theorem fold_spec (g : Gr prev (fnI n at_)) (t : Tr (fnI n at_) (fnI n nr)) (j : Jn prev (fnI n at_) (fnI n nr)) (ha : at_.length = n) (hn : nr.length = n) (K : Nat) (hK : ∀ x, fnI n at_ x ≠ -1 → fnI n at_ x < n) (hK2 : 2 * n + 2 ≤ K) :
  ∀ (ps : List Int) (nx : Int), (∀ p ∈ ps, 0 ≤ p ∧ p < (n : Int)) → (nx = -1 ∨ fnI n nr nx ≠ -1) → ∃ m, ps.foldlM (predO at_ nr K) nx = some m ∧ (m = -1 → nx = -1 ∧ ∀ p ∈ ps, fnI n at_ p ≠ -1 → fnI n nr p = -1) ∧
   (m ≠ -1 → fnI n nr m ≠ -1 ∧ (nx ≠ -1 → On (fnI n nr) m nx) ∧ (∀ p ∈ ps, fnI n at_ p ≠ -1 → fnI n nr p ≠ -1 → On (fnI n nr) m p) ∧ (∀ d, fnI n at_ d ≠ -1 → (nx ≠ -1 → Domi prev (fnI n at_) d nx) → (∀ p ∈ ps, fnI n at_ p ≠ -1 → Domi prev (fnI n at_) d p) → Domi prev (fnI n at_) d m)) := by
 intro ps
 induction ps with
 | nil =>
  intro nx _ hnx
  refine ⟨nx, rfl, (fun h => ⟨h, (fun p hp => by cases hp)⟩), fun h => ⟨hnx.resolve_left h, fun _ => .self, (fun p hp => by cases hp), fun d _ h1 _ => h1 h⟩⟩
 | cons p ps ih =>
  intro nx hps hnx
  obtain ⟨hp0, hp1⟩ := hps p List.mem_cons_self
  have hps' : ∀ q ∈ ps, 0 ≤ q ∧ q < (n : Int) := fun q hq => hps q (List.mem_cons_of_mem _ hq)
  have e1 : rd at_ p = fnI n at_ p := (fnI_rd hp0 hp1).symm
  have e2 : rd nr p = fnI n nr p := (fnI_rd hp0 hp1).symm
  have hstep : predO at_ nr K nx p = if fnI n at_ p = -1 then some nx else if fnI n nr p = -1 then some nx else if nx = -1 then some p else meetO at_ nr K nx p := by
   unfold predO
   rw [if_pos ⟨hp0, by rw [ha]; exact hp1⟩, e1, e2]
   by_cases h1 : fnI n at_ p = -1
   ·rw [if_pos h1, if_pos h1]
   ·rw [if_neg h1, if_neg h1, if_pos (by rw [hn]; exact hp1)]
  rw [List.foldlM_cons, hstep]
  by_cases h1 : fnI n at_ p = -1
  ·rw [if_pos h1]
   obtain ⟨m, q1, q2, q3⟩ := ih nx hps' hnx
   refine ⟨m, q1, fun h => ⟨(q2 h).1, fun q hq hr => ?_⟩, fun h => ⟨(q3 h).1, (q3 h).2.1, fun q hq hr hk => ?_, fun d hd h2 h3 => (q3 h).2.2.2 d hd h2 (fun q hq hr => h3 q (List.mem_cons_of_mem _ hq) hr)⟩⟩
   ·rcases List.mem_cons.mp hq with rfl | hq
    ·exact absurd h1 hr
    ·exact (q2 h).2 q hq hr
   ·rcases List.mem_cons.mp hq with rfl | hq
    ·exact absurd h1 hr
    ·exact (q3 h).2.2.1 q hq hr hk
  ·rw [if_neg h1]
   by_cases h2 : fnI n nr p = -1
   ·rw [if_pos h2]
    obtain ⟨m, q1, q2, q3⟩ := ih nx hps' hnx
    refine ⟨m, q1, fun h => ⟨(q2 h).1, fun q hq hr => ?_⟩, fun h => ⟨(q3 h).1, (q3 h).2.1, fun q hq hr hk => ?_, fun d hd h2 h3 => (q3 h).2.2.2 d hd h2 (fun q hq hr => h3 q (List.mem_cons_of_mem _ hq) hr)⟩⟩
    ·rcases List.mem_cons.mp hq with rfl | hq
     ·exact h2
     ·exact (q2 h).2 q hq hr
    ·rcases List.mem_cons.mp hq with rfl | hq
     ·exact absurd h2 hk
     ·exact (q3 h).2.2.1 q hq hr hk
   ·rw [if_neg h2]
    -- the new one, known: on the way up from p, and from nx
    have key : ∀ z, fnI n nr z ≠ -1 → On (fnI n nr) z p → (nx ≠ -1 → On (fnI n nr) z nx) → (∀ d, fnI n at_ d ≠ -1 → (nx ≠ -1 → Domi prev (fnI n at_) d nx) → Domi prev (fnI n at_) d p → Domi prev (fnI n at_) d z) →
      ∃ m, ps.foldlM (predO at_ nr K) z = some m ∧ (m = -1 → nx = -1 ∧ ∀ q ∈ p :: ps, fnI n at_ q ≠ -1 → fnI n nr q = -1) ∧
      (m ≠ -1 → fnI n nr m ≠ -1 ∧ (nx ≠ -1 → On (fnI n nr) m nx) ∧ (∀ q ∈ p :: ps, fnI n at_ q ≠ -1 → fnI n nr q ≠ -1 → On (fnI n nr) m q) ∧ (∀ d, fnI n at_ d ≠ -1 → (nx ≠ -1 → Domi prev (fnI n at_) d nx) → (∀ q ∈ p :: ps, fnI n at_ q ≠ -1 → Domi prev (fnI n at_) d q) → Domi prev (fnI n at_) d m)) := by
     intro z hz hzp hzn hzd
     have hz1 : z ≠ -1 := fun e => by
      have := (fnI_in hz).1
      omega
     obtain ⟨m, q1, q2, q3⟩ := ih z hps' (.inr hz)
     refine ⟨m, q1, fun h => absurd (q2 h).1 hz1, fun h => ⟨(q3 h).1, fun hx => ((q3 h).2.1 hz1).trans (hzn hx), fun q hq hr hk => ?_, fun d hd h3 h4 => ?_⟩⟩
     ·rcases List.mem_cons.mp hq with rfl | hq
      ·exact ((q3 h).2.1 hz1).trans hzp
      ·exact (q3 h).2.2.1 q hq hr hk
     ·exact (q3 h).2.2.2 d hd (fun _ => hzd d hd h3 (h4 p List.mem_cons_self h1)) (fun q hq hr => h4 q (List.mem_cons_of_mem _ hq) hr)
    by_cases h3 : nx = -1
    ·rw [if_pos h3]
     exact key p h2 .self (fun h => absurd h3 h) (fun d _ _ h => h)
    ·rw [if_neg h3]
     have hnk := hnx.resolve_left h3
     have b1 := hK nx (t.known nx hnk)
     have b2 := hK p h1
     obtain ⟨z, r1, r2, r3, r4, r5⟩ := meet_spec g t j ha hn K nx p hnk h2 (by omega)
     rw [r1]
     exact key z r4 r3 (fun _ => r2) (fun d hd h4 h5 => r5 d hd (h4 h3) h5)
end
end Go.Proofs.Ytclhjalgflebfaa.Q

/- Rounds: the nearest ones come to stand still, and are those that stand on each way. -/

namespace Go.Proofs.Ytclhjalgflebfaa.Q
open Go.RowKit Go.Proofs.YtclhjalgflebfaaW.PrintWords Go.Proofs.YtclhjalgflebfaaW.PrintLast Go.Proofs.YtclhjalgflebfaaW.PrintMore
set_option linter.unusedVariables false
set_option linter.unusedSimpArgs false
/-- Those that lead to a block. -/
def prevI (n : Nat) (h : List (List Int)) (b : Int) : List Int := if 0 ≤ b ∧ b < (n : Int) then rowOf h b else []
theorem prevI_in {n : Nat} {h : List (List Int)} {b : Int} (h0 : 0 ≤ b) (h1 : b < (n : Int)) : prevI n h b = rowOf h b := if_pos ⟨h0, h1⟩
structure Ord (n : Nat) (o at_ : List Int) (h : List (List Int)) : Prop where
 len : at_.length = n
 hlen : h.length = n
 gr : Gr (prevI n h) (fnI n at_)
 at_o : ∀ (i : Nat) (hi : i < o.length), fnI n at_ o[i] = i
 all : ∀ x, fnI n at_ x ≠ -1 → fnI n at_ x < o.length
 lt : ∀ x, fnI n at_ x ≠ -1 → fnI n at_ x < n
 rows : ∀ b, ∀ p ∈ prevI n h b, 0 ≤ p ∧ p < (n : Int)
 pos : 1 ≤ o.length
theorem fn_set {n : Nat} {nr : List Int} (hn : nr.length = n) {c m : Int} (h0 : 0 ≤ c) (h1 : c < (n : Int)) : fnI n (nr.set c.toNat m) = putI (fnI n nr) c m := by
 funext x
 unfold fnI putI
 dsimp only
 by_cases e : x = c
 ·subst e
  rw [if_pos ⟨h0, h1⟩, if_pos rfl]
  unfold rd
  rw [getD_at _ _ (by rw [List.length_set]; omega), List.getElem_set_self]
 ·rw [if_neg e]
  by_cases hx : 0 ≤ x ∧ x < (n : Int)
  ·rw [if_pos hx, if_pos hx]
   unfold rd
   rw [getD_at _ _ (by rw [List.length_set]; omega), getD_at _ _ (by omega), List.getElem_set_ne (by omega)]
  ·rw [if_neg hx, if_neg hx]
section
variable {n : Nat} {o at_ : List Int} {h : List (List Int)}
/-- All that is kept, behind r rounds and the blocks up to place i. -/
structure Inv (h : List (List Int)) (n : Nat) (at_ : List Int) (r : Nat) (i : Int) (nr : List Int) : Prop where
 len : nr.length = n
 tr : Tr (fnI n at_) (fnI n nr)
 jn : Jn (prevI n h) (fnI n at_) (fnI n nr)
 sn : Sn (prevI n h) (fnI n at_) (fnI n nr) r i
 known : ∀ x, fnI n at_ x ≠ -1 → (fnI n at_ x ≤ i ∨ 1 ≤ r) → fnI n nr x ≠ -1
/-- Whether r rounds are enough. -/
def Enough (h : List (List Int)) (n : Nat) (at_ : List Int) (r : Nat) : Prop := ∀ y x, Av (prevI n h) (fnI n at_) y x → ∃ q, AvR (prevI n h) (fnI n at_) y q x ∧ q + 1 ≤ r
theorem one_step (od : Ord n o at_ h) (K : Nat) (hK : 2 * n + 2 ≤ K) {r : Nat} {i : Nat} {nr : List Int} (f : Bool) (v : Inv h n at_ r i nr) (hi : i + 1 < o.length) :
  ∃ m, stepR at_ h K (nr, f) o[i + 1] = some (nr.set o[i + 1].toNat m, f || (rd nr o[i + 1] != m)) ∧ Inv h n at_ r ((i + 1 : Nat) : Int) (nr.set o[i + 1].toNat m) ∧ (Enough h n at_ r → rd nr o[i + 1] = m) := by
 obtain ⟨c, hc⟩ : ∃ c, c = o[i + 1] := ⟨_, rfl⟩
 rw [← hc]
 have hca : fnI n at_ c = ((i + 1 : Nat) : Int) := by rw [hc]; exact od.at_o _ hi
 have hcr : fnI n at_ c ≠ -1 := by rw [hca]; omega
 obtain ⟨c0, c1⟩ := fnI_in hcr
 have hc0 : c ≠ 0 := fun e => by rw [e, od.gr.zero] at hca; omega
 obtain ⟨m, q1, q2, q3⟩ := fold_spec od.gr v.tr v.jn od.len v.len K od.lt hK (prevI n h c) (-1) (od.rows c) (.inl rfl)
 have hm : m ≠ -1 := fun e => by
  obtain ⟨p, hp, hr, ha⟩ := od.gr.up c hcr hc0
  exact v.known p hr (.inl (by omega)) ((q2 e).2 p hp hr)
 obtain ⟨k1, _, k2, k3⟩ := q3 hm
 have hf : Found (prevI n h) (fnI n at_) (fnI n nr) c m := ⟨k1, k2, fun d hd hp => k3 d hd (fun e => absurd rfl e) hp⟩
 obtain ⟨t2, j2, s2, w2⟩ := step_keeps od.gr v.tr v.jn v.sn hc0 hcr (by rw [hca]; omega) v.known hf
 rw [← fn_set v.len c0 c1] at t2 j2 s2 w2
 refine ⟨m, ?_, ⟨by rw [List.length_set]; exact v.len, t2, j2, ?_, ?_⟩, fun en => ?_⟩
 ·unfold stepR
  rw [prevI_in c0 c1] at q1
  rw [if_pos ⟨c0, by rw [od.hlen]; exact c1, by show c < ((nr.length : Nat) : Int); rw [v.len]; exact c1⟩, q1]
  rfl
 ·rw [show ((i + 1 : Nat) : Int) = (i : Int) + 1 by omega]; exact s2
 ·rw [show ((i + 1 : Nat) : Int) = (i : Int) + 1 by omega]; exact w2
 ·have hall : ∀ (z : Int) y x, Av (prevI n h) (fnI n at_) y x → Est (prevI n h) (fnI n at_) r z y x := fun z y x k => by
   obtain ⟨q, a, b⟩ := en y x k
   exact ⟨q, a, .inl b⟩
  by_cases hr0 : r = 0
  ·exfalso
   obtain ⟨q, _, b⟩ := en (-1) 0 ⟨0, .zero (by decide)⟩
   omega
  ·have hkc := v.known c hcr (.inr (by omega))
   have hkc2 := w2 c hcr (.inr (by omega))
   have e := nearest_same od.gr v.tr t2 hc0 hkc hkc2 (fun d hd => (on_iff od.gr v.tr v.jn v.sn (hall _) hd hkc).trans (on_iff od.gr t2 j2 s2 (hall _) hd hkc2).symm)
   rw [← fnI_rd c0 c1, e, fn_set v.len c0 c1, put_same]
theorem rest_steps (od : Ord n o at_ h) (K : Nat) (hK : 2 * n + 2 ≤ K) {r : Nat} : ∀ (d i : Nat) (nr : List Int) (f : Bool), i + 1 + d = o.length → Inv h n at_ r i nr →
  ∃ nr' f', (o.drop (i + 1)).foldlM (stepR at_ h K) (nr, f) = some (nr', f') ∧ Inv h n at_ r ((o.length - 1 : Nat) : Int) nr' ∧ (f' = false → f = false ∧ nr' = nr) ∧ (Enough h n at_ r → f' = f) := by
 intro d
 induction d with
 | zero =>
  intro i nr f hd v
  rw [List.drop_eq_nil_of_le (by omega)]
  refine ⟨nr, f, rfl, ?_, fun h => ⟨h, rfl⟩, fun _ => rfl⟩
  rw [show o.length - 1 = i by omega]
  exact v
 | succ d ih =>
  intro i nr f hd v
  have hi : i + 1 < o.length := by omega
  obtain ⟨m, h1, h2, h3⟩ := one_step od K hK f v hi
  obtain ⟨nr', f', k1, k2, k3, k4⟩ := ih (i + 1) (nr.set o[i + 1].toNat m) (f || (rd nr o[i + 1] != m)) (by omega) h2
  refine ⟨nr', f', ?_, k2, fun hf => ?_, fun en => ?_⟩
  ·rw [List.drop_eq_getElem_cons hi, List.foldlM_cons, h1]
   exact k1
  ·obtain ⟨a, b⟩ := k3 hf
   rw [Bool.or_eq_false_iff] at a
   have e : rd nr o[i + 1] = m := by simpa using a.2
   refine ⟨a.1, ?_⟩
   rw [b, ← e]
   unfold rd
   by_cases hlt : o[i + 1].toNat < nr.length
   ·rw [getD_at _ _ hlt, List.set_getElem_self]
   ·rw [List.set_eq_of_length_le (by omega)]
  ·rw [k4 en, h3 en]
   simp
theorem one_round (od : Ord n o at_ h) (K : Nat) (hK : 2 * n + 2 ≤ K) {r : Nat} {nr : List Int} (v : Inv h n at_ r 0 nr) :
  ∃ nr' f', roundO o at_ h K nr = some (nr', f') ∧ Inv h n at_ (r + 1) 0 nr' ∧ (f' = false → nr' = nr) ∧ (Enough h n at_ r → f' = false) := by
 obtain ⟨nr', f', h1, h2, h3, h4⟩ := rest_steps od K hK (r := r) (o.length - 1) 0 nr false (by have := od.pos; omega) v
 refine ⟨nr', f', ?_, ⟨h2.len, h2.tr, h2.jn, ?_, ?_⟩, fun hf => (h3 hf).2, h4⟩
 ·unfold roundO
  rw [if_pos od.pos]
  exact h1
 ·rintro y x hx ⟨q, hq, hc⟩
  have hxr := hq.reached od.gr
  have hlt := od.all x hxr
  by_cases hz : x = 0
  ·subst hz
   have hy := hq.ne
   exact h2.sn y 0 hx ⟨0, .zero hy, .inr ⟨Nat.zero_le _, by rw [od.gr.zero]; omega⟩⟩
  ·have h0 : fnI n at_ x ≠ 0 := fun e => hz (od.gr.inj x 0 hxr (by rw [e, od.gr.zero]))
   have hp := od.gr.pos x hxr
   exact h2.sn y x hx ⟨q, hq, .inr ⟨by omega, by omega⟩⟩
 ·intro x hxr _
  have hlt := od.all x hxr
  exact h2.known x hxr (.inl (by omega))
/-- What the nearest ones tell at the end. -/
structure Good (h : List (List Int)) (n : Nat) (at_ nr : List Int) : Prop where
 len : nr.length = n
 tr : Tr (fnI n at_) (fnI n nr)
 known : ∀ x, fnI n at_ x ≠ -1 → fnI n nr x ≠ -1
 on : ∀ d x, fnI n at_ d ≠ -1 → fnI n at_ x ≠ -1 → (On (fnI n nr) d x ↔ Domi (prevI n h) (fnI n at_) d x)
theorem good_of (od : Ord n o at_ h) {r : Nat} {nr : List Int} (v : Inv h n at_ r 0 nr) (hr : 1 ≤ r) (en : Enough h n at_ r) : Good h n at_ nr :=
 ⟨v.len, v.tr, fun x hx => v.known x hx (.inr hr), fun d x hd hx => on_iff od.gr v.tr v.jn v.sn (fun y z k => by
  obtain ⟨q, a, b⟩ := en y z k
  exact ⟨q, a, .inl b⟩) hd (v.known x hx (.inr hr))⟩
theorem still (od : Ord n o at_ h) (K : Nat) (hK : 2 * n + 2 ≤ K) {nr : List Int} (hs : roundO o at_ h K nr = some (nr, false)) : ∀ (m r : Nat), Inv h n at_ r 0 nr → Inv h n at_ (r + m) 0 nr := by
 intro m
 induction m with
 | zero => exact fun r v => v
 | succ m ih =>
  intro r v
  obtain ⟨nr', f', h1, h2, _, _⟩ := one_round od K hK v
  rw [hs] at h1
  have e := Option.some.inj h1
  simp only [Prod.mk.injEq] at e
  rw [← e.1] at h2
  have := ih (r + 1) h2
  rwa [show r + 1 + m = r + (m + 1) by omega] at this
theorem rounds_end (od : Ord n o at_ h) (K : Nat) (hK : 2 * n + 2 ≤ K) {R : Nat} (en : ∀ r, R ≤ r → Enough h n at_ r) : ∀ (k r : Nat) (nr : List Int), Inv h n at_ r 0 nr → R + 1 ≤ r + k → 1 ≤ k → ∃ nr', roundsO o at_ h K k nr = some nr' ∧ Good h n at_ nr' := by
 intro k
 induction k with
 | zero => intro r nr _ _ hk; omega
 | succ k ih =>
  intro r nr v hk _
  obtain ⟨nr', f', h1, h2, h3, h4⟩ := one_round od K hK v
  rw [roundsO, h1, Option.bind_some]
  cases f' with
  | false =>
   have e := h3 rfl
   subst e
   refine ⟨nr', by simp, ?_⟩
   have v2 := still od K hK h1 (R + 1) r v
   exact good_of od v2 (by omega) (en _ (by omega))
  | true =>
   have hr : r < R := by
    rcases Nat.lt_or_ge r R with hlt | hge
    ·exact hlt
    ·have := h4 (en r hge); cases this
   obtain ⟨nr2, k1, k2⟩ := ih (r + 1) nr' h2 (by omega) (by omega)
   exact ⟨nr2, by simpa using k1, k2⟩
end
end Go.Proofs.Ytclhjalgflebfaa.Q

namespace Go.Proofs.Ytclhjalgflebfaa.Q
open Go.RowKit Go.Proofs.YtclhjalgflebfaaW.PrintWords Go.Proofs.YtclhjalgflebfaaW.PrintLast Go.Proofs.YtclhjalgflebfaaW.PrintMore
attribute [local go_sem] max2_int min2_int max_two min_two max_three min_three max_four min_four   -- for this text's walks alone
set_option linter.unusedVariables false
set_option linter.unusedSimpArgs false

/-! ### truantref09_Reached: function 18 -/
mutual
def truantref09_Reached.l0 : Nat → List Bool → Int → ByteArray → List ByteArray → ByteArray → List ByteArray → List (S58) → List (S40) → Option (List Bool)
 | 0, _, _, _, _, _, _, _, _ => none
 | k + 1, x3, x4, x345000, x345001, x345002, x345003, x345004, x345005 => if x4 < (x3.length : Int) then (truantref09_Reached.l1 k x3 x4 0 x345000 x345001 x345002 x345003 x345004 x345005) else (some x3)
def truantref09_Reached.l1 : Nat → List Bool → Int → Int → ByteArray → List ByteArray → ByteArray → List ByteArray → List (S58) → List (S40) → Option (List Bool)
 | 0, _, _, _, _, _, _, _, _, _ => none
 | k + 1, x3, x4, x5, x345000, x345001, x345002, x345003, x345004, x345005 => if x5 < (x3.length : Int) then ((truantref09_Next.f k x345000 x345001 x345002 x345003 x345004 x345005 x5).bind fun t349 => (truantref09_Reached.l2 k x3 x4 x5 t349 0 x345000 x345001 x345002 x345003 x345004 x345005)) else (truantref09_Reached.l0 k x3 (wrap64 (x4 + 1)) x345000 x345001 x345002 x345003 x345004 x345005)
def truantref09_Reached.l2 : Nat → List Bool → Int → Int → List Int → Int → ByteArray → List ByteArray → ByteArray → List ByteArray → List (S58) → List (S40) → Option (List Bool)
 | 0, _, _, _, _, _, _, _, _, _, _, _ => none
 | k + 1, x3, x4, x5, x6, x7, x345000, x345001, x345002, x345003, x345004, x345005 => if 0 ≤ x5 then (if x5 < (x3.length : Int) then (if rdOf false x3 x5 = true then (if x7 < (x6.length : Int) then (if 0 ≤ x7 then (if 0 ≤ (rd x6 x7) then (if (rd x6 x7) < (x3.length : Int) then (truantref09_Reached.l2 k (x3.set ((rd x6 x7) : Int).toNat true) x4 x5 x6 (wrap64 (x7 + 1)) x345000 x345001 x345002 x345003 x345004 x345005) else (none)) else (none)) else (none)) else (truantref09_Reached.l1 k x3 x4 (wrap64 (x5 + 1)) x345000 x345001 x345002 x345003 x345004 x345005)) else (truantref09_Reached.l1 k x3 x4 (wrap64 (x5 + 1)) x345000 x345001 x345002 x345003 x345004 x345005)) else (none)) else (none)
end
def truantref09_Reached.f (k : Nat) (a0_0 : ByteArray) (l0_1 : List ByteArray) (a0_2 : ByteArray) (l0_3 : List ByteArray) (l0_4 : List (S58)) (l0_5 : List (S40)) : Option (List Bool) := if 0 ≤ (l0_5.length : Int) then (if ((l0_5.length : Int) : Int).toNat ≤ 281474976710656 then ((some (List.replicate ((l0_5.length : Int) : Int).toNat false : List Bool)).bind fun y345 => (if (y345.length : Int) = 0 then (some y345) else (if 0 < (y345.length : Int) then (truantref09_Reached.l0 k (y345.set (0 : Int).toNat true) 0 a0_0 l0_1 a0_2 l0_3 l0_4 l0_5) else (none)))) else (none)) else (none)
theorem truantref09_Reached.mono_l : ∀ k, (∀ y0 y1 y2 y3 y4 y5 y6 y7, LeO (truantref09_Reached.l0 k y0 y1 y2 y3 y4 y5 y6 y7) (truantref09_Reached.l0 (k + 1) y0 y1 y2 y3 y4 y5 y6 y7)) ∧ (∀ y0 y1 y2 y3 y4 y5 y6 y7 y8, LeO (truantref09_Reached.l1 k y0 y1 y2 y3 y4 y5 y6 y7 y8) (truantref09_Reached.l1 (k + 1) y0 y1 y2 y3 y4 y5 y6 y7 y8)) ∧ (∀ y0 y1 y2 y3 y4 y5 y6 y7 y8 y9 y10, LeO (truantref09_Reached.l2 k y0 y1 y2 y3 y4 y5 y6 y7 y8 y9 y10) (truantref09_Reached.l2 (k + 1) y0 y1 y2 y3 y4 y5 y6 y7 y8 y9 y10))
 | 0 => ⟨fun _ _ _ _ _ _ _ _ r h => by simp [truantref09_Reached.l0] at h, fun _ _ _ _ _ _ _ _ _ r h => by simp [truantref09_Reached.l1] at h, fun _ _ _ _ _ _ _ _ _ _ _ r h => by simp [truantref09_Reached.l2] at h⟩
 | k + 1 => by
  obtain ⟨ih0, ih1, ih2⟩ := truantref09_Reached.mono_l k
  refine ⟨?_, ?_, ?_⟩
  ·intro y0 y1 y2 y3 y4 y5 y6 y7
   unfold truantref09_Reached.l0
   repeat' first
   | (with_reducible exact ih0 _ _ _ _ _ _ _ _)
   | (with_reducible exact ih1 _ _ _ _ _ _ _ _ _)
   | (with_reducible exact ih2 _ _ _ _ _ _ _ _ _ _ _)
   | (with_reducible exact truantref09_Next.mono _ _ _ _ _ _ _ _)
   | (with_reducible exact LeO.refl _)
   | (with_reducible exact LeO.none _)
   | (with_reducible refine LeO.ite ?_ ?_)
   | (with_reducible refine LeO.bind ?_ (fun _ => ?_))
   | exact ih0 _ _ _ _ _ _ _ _
   | exact ih1 _ _ _ _ _ _ _ _ _
   | exact ih2 _ _ _ _ _ _ _ _ _ _ _
   | exact truantref09_Next.mono _ _ _ _ _ _ _ _
   | exact LeO.none _
   | refine LeO.ite ?_ ?_
   | refine LeO.bind ?_ (fun _ => ?_)
  ·intro y0 y1 y2 y3 y4 y5 y6 y7 y8
   unfold truantref09_Reached.l1
   repeat' first
   | (with_reducible exact ih0 _ _ _ _ _ _ _ _)
   | (with_reducible exact ih1 _ _ _ _ _ _ _ _ _)
   | (with_reducible exact ih2 _ _ _ _ _ _ _ _ _ _ _)
   | (with_reducible exact truantref09_Next.mono _ _ _ _ _ _ _ _)
   | (with_reducible exact LeO.refl _)
   | (with_reducible exact LeO.none _)
   | (with_reducible refine LeO.ite ?_ ?_)
   | (with_reducible refine LeO.bind ?_ (fun _ => ?_))
   | exact ih0 _ _ _ _ _ _ _ _
   | exact ih1 _ _ _ _ _ _ _ _ _
   | exact ih2 _ _ _ _ _ _ _ _ _ _ _
   | exact truantref09_Next.mono _ _ _ _ _ _ _ _
   | exact LeO.none _
   | refine LeO.ite ?_ ?_
   | refine LeO.bind ?_ (fun _ => ?_)
  ·intro y0 y1 y2 y3 y4 y5 y6 y7 y8 y9 y10
   unfold truantref09_Reached.l2
   repeat' first
   | (with_reducible exact ih0 _ _ _ _ _ _ _ _)
   | (with_reducible exact ih1 _ _ _ _ _ _ _ _ _)
   | (with_reducible exact ih2 _ _ _ _ _ _ _ _ _ _ _)
   | (with_reducible exact truantref09_Next.mono _ _ _ _ _ _ _ _)
   | (with_reducible exact LeO.refl _)
   | (with_reducible exact LeO.none _)
   | (with_reducible refine LeO.ite ?_ ?_)
   | (with_reducible refine LeO.bind ?_ (fun _ => ?_))
   | exact ih0 _ _ _ _ _ _ _ _
   | exact ih1 _ _ _ _ _ _ _ _ _
   | exact ih2 _ _ _ _ _ _ _ _ _ _ _
   | exact truantref09_Next.mono _ _ _ _ _ _ _ _
   | exact LeO.none _
   | refine LeO.ite ?_ ?_
   | refine LeO.bind ?_ (fun _ => ?_)
theorem truantref09_Reached.mono : ∀ a0 a1 a2 a3 a4 a5 k, LeO (truantref09_Reached.f k a0 a1 a2 a3 a4 a5) (truantref09_Reached.f (k + 1) a0 a1 a2 a3 a4 a5) := by
 intro a0 a1 a2 a3 a4 a5 k
 obtain ⟨ih0, ih1, ih2⟩ := truantref09_Reached.mono_l k
 unfold truantref09_Reached.f
 repeat' first
   | (with_reducible exact ih0 _ _ _ _ _ _ _ _)
   | (with_reducible exact ih1 _ _ _ _ _ _ _ _ _)
   | (with_reducible exact ih2 _ _ _ _ _ _ _ _ _ _ _)
   | (with_reducible exact truantref09_Next.mono _ _ _ _ _ _ _ _)
   | (with_reducible exact LeO.refl _)
   | (with_reducible exact LeO.none _)
   | (with_reducible refine LeO.ite ?_ ?_)
   | (with_reducible refine LeO.bind ?_ (fun _ => ?_))
   | exact ih0 _ _ _ _ _ _ _ _
   | exact ih1 _ _ _ _ _ _ _ _ _
   | exact ih2 _ _ _ _ _ _ _ _ _ _ _
   | exact truantref09_Next.mono _ _ _ _ _ _ _ _
   | exact LeO.none _
   | refine LeO.ite ?_ ?_
   | refine LeO.bind ?_ (fun _ => ?_)
set_option maxHeartbeats 8000000 in
set_option maxRecDepth 100000 in
theorem truantref09_Reached.calls (k : Nat) (a0_0 : ByteArray) (A0_1 : Option Addr) (c0_1 : Nat) (l0_1 : List ByteArray) (a0_2 : ByteArray) (A0_3 : Option Addr) (c0_3 : Nat) (l0_3 : List ByteArray) (A0_4 : Option Addr) (c0_4 : Nat) (l0_4 : List (S58)) (A0_5 : Option Addr) (c0_5 : Nat) (l0_5 : List (S40)) (r : List Bool) (w : World) (hr0_1 : Kd.C Kd.string w A0_1 l0_1.length l0_1) (hc0_1 : l0_1.length ≤ c0_1) (hr0_3 : Kd.C Kd.string w A0_3 l0_3.length l0_3) (hc0_3 : l0_3.length ≤ c0_3) (hr0_4 : Kd.C k58 w A0_4 l0_4.length l0_4) (hc0_4 : l0_4.length ≤ c0_4) (hr0_5 : Kd.C k40 w A0_5 l0_5.length l0_5) (hc0_5 : l0_5.length ≤ c0_5) (h : truantref09_Reached.f k a0_0 l0_1 a0_2 l0_3 l0_4 l0_5 = some r) :
  Calls Try.prog 18 #[.agg #[.string a0_0, .slice A0_1 l0_1.length c0_1, .string a0_2, .slice A0_3 l0_3.length c0_3, .slice A0_4 l0_4.length c0_4, .slice A0_5 l0_5.length c0_5]] w fun e w' => ∃ v0_ : Value, e = .returned (v0_) ∧ Kd.R Kd.bool 4 w' w.heap.size (fun _ => True) v0_ r ∧ Below w.heap.size w w' := by
 have hu26 := Try.underlying26
 have HR0_1 := Aside0.mk hr0_1
 have HC0_1 := Aside0.mk hc0_1
 clear hr0_1 hc0_1
 have HR0_3 := Aside0.mk hr0_3
 have HC0_3 := Aside0.mk hc0_3
 clear hr0_3 hc0_3
 have HR0_4 := Aside0.mk hr0_4
 have HC0_4 := Aside0.mk hc0_4
 clear hr0_4 hc0_4
 have HR0_5 := Aside0.mk hr0_5
 have HC0_5 := Aside0.mk hc0_5
 clear hr0_5 hc0_5
 have HB := Aside0.mk (Below.refl w.heap.size w)
 have H : (if 0 ≤ (l0_5.length : Int) then (if ((l0_5.length : Int) : Int).toNat ≤ 281474976710656 then ((some (List.replicate ((l0_5.length : Int) : Int).toNat false : List Bool)).bind fun y345 => (if (y345.length : Int) = 0 then (some y345) else (if 0 < (y345.length : Int) then (truantref09_Reached.l0 k (y345.set (0 : Int).toNat true) 0 a0_0 l0_1 a0_2 l0_3 l0_4 l0_5) else (none)))) else (none)) else (none)) = some r := h
 clear h
 by_cases c2 : 0 ≤ (l0_5.length : Int)
 ·rw [if_pos c2] at H
  have c2b0 := eq_true c2
  have c2b1 : decide (0 ≤ (l0_5.length : Int)) = true := decide_eq_true c2
  clear c2
  by_cases c3 : ((l0_5.length : Int) : Int).toNat ≤ 281474976710656
  ·rw [if_pos c3] at H
   have c3b0 := eq_true c3
   have c3b1 : decide (((l0_5.length : Int) : Int).toNat ≤ 281474976710656) = true := decide_eq_true c3
   clear c3
   obtain ⟨y345, hy345⟩ : ∃ y_ : List Bool, y_ = (List.replicate ((l0_5.length : Int) : Int).toNat false) := ⟨_, rfl⟩
   replace H : (if (y345.length : Int) = 0 then (some y345) else (if 0 < (y345.length : Int) then (truantref09_Reached.l0 k (y345.set (0 : Int).toNat true) 0 a0_0 l0_1 a0_2 l0_3 l0_4 l0_5) else (none))) = some r := by first | (rw [hy345]; with_reducible exact H) | (have H2_ := (Option.bind_some _ _).symm.trans H; rw [hy345]; with_reducible exact H2_) | (have H2_ := (Option.bind_some _ _).symm.trans H; with_reducible exact H2_) | with_reducible exact H | (rw [hy345]; exact H) | exact H
   have Ny345 := Aside0.mk hy345
   clear hy345
   by_cases c4 : (y345.length : Int) = 0
   ·rw [if_pos c4] at H
    have c4b0 : ((y345.length : Int) == 0) = true := beq_iff_eq.mpr c4
    have c4b1 : ((y345.length : Int) != 0) = false := bne_eq_false_iff_eq.mpr c4
    clear c4
    obtain rfl := Option.some.inj H
    go_enter Try.func18, Try.ntmps18
    go_wp2_with (first | ((with_reducible refine gate_dst (N := 1) rfl ?_); (try (refine gate_guard (by rfl) ?_; dsimp only)); refine box_event ?hg (N := 1) ?hd (cs := #[.string a0_0, .slice A0_1 l0_1.length c0_1, .string a0_2, .slice A0_3 l0_3.length c0_3, .slice A0_4 l0_4.length c0_4, .slice A0_5 l0_5.length c0_5]) (t := 26) ?hr ?_; (case hd => rfl); (case hg => rfl); (case hr => first | (go_simp; done) | (go_simp; rfl)); intro gb344 hg w5 hbox hb; have n0_ := Aside0.mk (below_step (by repeat (first | (with_reducible first | exact HB.out | apply below_alloc | apply pw_below_drewN | apply below_drew1) | exact HB.out)) hb); have n1_ := Aside0.mk (hbox); have n2_ := Aside0.mk ((by rw [hg]; exact (below_size (by repeat (first | (with_reducible first | exact HB.out | apply below_alloc | apply pw_below_drewN | apply below_drew1) | exact HB.out))) : w.heap.size ≤ gb344)); have n3_ := Aside0.mk ((by rw [hg]; exact (below_size (by repeat (first | (with_reducible first | exact HB.out | apply below_alloc | apply pw_below_drewN | apply below_drew1) | exact HB.out))) : w.heap.size ≤ gb344)); clear HB; have HB := n0_; have BK344 := n1_; have GW344 := n2_; have GE344 := n3_; clear n0_ n1_ n2_ n3_; clear hb hbox hg; have hcz6_0 : w5.cell? ⟨gb344, 0, none⟩ = some (.string a0_0) := (blk_cell BK344.out 0).trans rfl; have hcz6_1 : w5.cell? ⟨gb344, 1, none⟩ = some (.slice A0_1 l0_1.length c0_1) := (blk_cell BK344.out 1).trans rfl; have hcz6_2 : w5.cell? ⟨gb344, 2, none⟩ = some (.string a0_2) := (blk_cell BK344.out 2).trans rfl; have hcz6_3 : w5.cell? ⟨gb344, 3, none⟩ = some (.slice A0_3 l0_3.length c0_3) := (blk_cell BK344.out 3).trans rfl; have hcz6_4 : w5.cell? ⟨gb344, 4, none⟩ = some (.slice A0_4 l0_4.length c0_4) := (blk_cell BK344.out 4).trans rfl; have hcz6_5 : w5.cell? ⟨gb344, 5, none⟩ = some (.slice A0_5 l0_5.length c0_5) := (blk_cell BK344.out 5).trans rfl; have hfz6_0 := blk_frozen BK344.out 0; have hfz6_1 := blk_frozen BK344.out 1; have hfz6_2 := blk_frozen BK344.out 2; have hfz6_3 := blk_frozen BK344.out 3; have hfz6_4 := blk_frozen BK344.out 4; have hfz6_5 := blk_frozen BK344.out 5) | ((with_reducible refine gate_dst (N := 11) rfl ?_); (try (refine gate_guard (by rfl) ?_; dsimp only)); refine Kd.R_make Kd.bool _ 4 rfl (N := 11) rfl 31 _ _ rfl (l0_5.length : Int) rfl rfl Try.underlying31 (.bool false) 1 info4 rfl (by decide) (by omega) false (ok := fun _ => True) (okp := fun _ => True) rfl (fun _ hk => hk) trivial (of_decide_eq_true (by first | (with_reducible assumption) | assumption)) (Nat.le_trans (Nat.mul_le_mul_right _ (of_decide_eq_true (by first | (with_reducible assumption) | assumption) : (l0_5.length : Int).toNat ≤ 281474976710656)) (by omega)) (Below.refl _ _) (Nat.le_refl _) ?_; intro v346 w7 ho8 hb hg_ hnew_; clear hg_ hnew_; (first | rw [← Ny345.out] at ho8 | (simp only [Int.reduceToNat] at ho8; rw [← Ny345.out] at ho8)); have n0_ := Aside0.mk (Kd.R_lower ho8 (below_size (by repeat (first | (with_reducible first | exact HB.out | apply below_alloc | apply pw_below_drewN | apply below_drew1 | refine below_set ?_ GE344.out) | exact HB.out)))); have n1_ := Aside0.mk (blk_below (g := gb344) (o := .cells #[.string a0_0, .slice A0_1 l0_1.length c0_1, .string a0_2, .slice A0_3 l0_3.length c0_3, .slice A0_4 l0_4.length c0_4, .slice A0_5 l0_5.length c0_5] 26 (0, 0)) (by (with_reducible repeat (first | refine blk_drewN ?_ _ | refine blk_drew ?_ | refine blk_alloc ?_ _)); exact BK344.out) hb); have n2_ := Aside0.mk (below_step (by repeat (first | (with_reducible first | exact HB.out | apply below_alloc | apply pw_below_drewN | apply below_drew1 | refine below_set ?_ GE344.out) | exact HB.out)) hb); clear BK344; clear HB; have HO347 := n0_; have BK344 := n1_; have HB := n2_; clear n0_ n1_ n2_; clear hb ho8; obtain ⟨Ao9, co9, eo9⟩ := Kd.R_slice HO347.out; subst eo9))
    go_ret
    exact ⟨_, by first | rfl | (simp [errW_none, errW_some] <;> rfl) | (simp [*, errW_none, errW_some] <;> rfl), by (with_reducible repeat (first | apply Kd.R_alloc | apply Kd.R_drewN | apply Kd.R_drew)); exact HO347.out, by repeat (first | (with_reducible first | exact HB.out | apply below_alloc | apply pw_below_drewN | apply below_drew1 | refine below_set ?_ GE344.out) | exact HB.out)⟩
   ·rw [if_neg c4] at H
    have c4b0 : ((y345.length : Int) == 0) = false := beq_eq_false_iff_ne.mpr c4
    have c4b1 : ((y345.length : Int) != 0) = true := bne_iff_ne.mpr c4
    have c4b2 : ¬ (y345 = []) := fun h_ => c4 (by rw [h_]; rfl)
    by_cases c10 : 0 < (y345.length : Int)
    ·rw [if_pos c10] at H
     have c10b0 : decide (0 < (y345.length : Int)) = true := decide_eq_true c10
     have c10b1 : decide (0 < y345.length) = true := decide_eq_true (by omega)
     clear c10
     obtain ⟨y348, hy348⟩ : ∃ y_ : List Bool, y_ = (y345.set (0 : Int).toNat true) := ⟨_, rfl⟩
     replace H : (truantref09_Reached.l0 k y348 0 a0_0 l0_1 a0_2 l0_3 l0_4 l0_5) = some r := by first | (rw [hy348]; with_reducible exact H) | (have H2_ := (Option.bind_some _ _).symm.trans H; rw [hy348]; with_reducible exact H2_) | (have H2_ := (Option.bind_some _ _).symm.trans H; with_reducible exact H2_) | with_reducible exact H | (rw [hy348]; exact H) | exact H
     have Ny348 := Aside0.mk hy348
     clear hy348
     have H' := Aside0.mk H
     clear H
     go_enter Try.func18, Try.ntmps18
     go_wp2_with (first | ((with_reducible refine gate_dst (N := 1) rfl ?_); (try (refine gate_guard (by rfl) ?_; dsimp only)); refine box_event ?hg (N := 1) ?hd (cs := #[.string a0_0, .slice A0_1 l0_1.length c0_1, .string a0_2, .slice A0_3 l0_3.length c0_3, .slice A0_4 l0_4.length c0_4, .slice A0_5 l0_5.length c0_5]) (t := 26) ?hr ?_; (case hd => rfl); (case hg => rfl); (case hr => first | (go_simp; done) | (go_simp; rfl)); intro gb344 hg w12 hbox hb; have n0_ := Aside0.mk (below_step (by repeat (first | (with_reducible first | exact HB.out | apply below_alloc | apply pw_below_drewN | apply below_drew1) | exact HB.out)) hb); have n1_ := Aside0.mk (hbox); have n2_ := Aside0.mk ((by rw [hg]; exact (below_size (by repeat (first | (with_reducible first | exact HB.out | apply below_alloc | apply pw_below_drewN | apply below_drew1) | exact HB.out))) : w.heap.size ≤ gb344)); have n3_ := Aside0.mk ((by rw [hg]; exact (below_size (by repeat (first | (with_reducible first | exact HB.out | apply below_alloc | apply pw_below_drewN | apply below_drew1) | exact HB.out))) : w.heap.size ≤ gb344)); clear HB; have HB := n0_; have BK344 := n1_; have GW344 := n2_; have GE344 := n3_; clear n0_ n1_ n2_ n3_; clear hb hbox hg; have hcz13_0 : w12.cell? ⟨gb344, 0, none⟩ = some (.string a0_0) := (blk_cell BK344.out 0).trans rfl; have hcz13_1 : w12.cell? ⟨gb344, 1, none⟩ = some (.slice A0_1 l0_1.length c0_1) := (blk_cell BK344.out 1).trans rfl; have hcz13_2 : w12.cell? ⟨gb344, 2, none⟩ = some (.string a0_2) := (blk_cell BK344.out 2).trans rfl; have hcz13_3 : w12.cell? ⟨gb344, 3, none⟩ = some (.slice A0_3 l0_3.length c0_3) := (blk_cell BK344.out 3).trans rfl; have hcz13_4 : w12.cell? ⟨gb344, 4, none⟩ = some (.slice A0_4 l0_4.length c0_4) := (blk_cell BK344.out 4).trans rfl; have hcz13_5 : w12.cell? ⟨gb344, 5, none⟩ = some (.slice A0_5 l0_5.length c0_5) := (blk_cell BK344.out 5).trans rfl; have hfz13_0 := blk_frozen BK344.out 0; have hfz13_1 := blk_frozen BK344.out 1; have hfz13_2 := blk_frozen BK344.out 2; have hfz13_3 := blk_frozen BK344.out 3; have hfz13_4 := blk_frozen BK344.out 4; have hfz13_5 := blk_frozen BK344.out 5) | ((with_reducible refine gate_dst (N := 11) rfl ?_); (try (refine gate_guard (by rfl) ?_; dsimp only)); refine Kd.R_make Kd.bool _ 4 rfl (N := 11) rfl 31 _ _ rfl (l0_5.length : Int) rfl rfl Try.underlying31 (.bool false) 1 info4 rfl (by decide) (by omega) false (ok := fun _ => True) (okp := fun _ => True) rfl (fun _ hk => hk) trivial (of_decide_eq_true (by first | (with_reducible assumption) | assumption)) (Nat.le_trans (Nat.mul_le_mul_right _ (of_decide_eq_true (by first | (with_reducible assumption) | assumption) : (l0_5.length : Int).toNat ≤ 281474976710656)) (by omega)) (Below.refl _ _) (Nat.le_refl _) ?_; intro v346 w14 ho15 hb hg_ hnew_; clear hg_ hnew_; (first | rw [← Ny345.out] at ho15 | (simp only [Int.reduceToNat] at ho15; rw [← Ny345.out] at ho15)); have n0_ := Aside0.mk (Kd.R_lower ho15 (below_size (by repeat (first | (with_reducible first | exact HB.out | apply below_alloc | apply pw_below_drewN | apply below_drew1 | refine below_set ?_ GE344.out) | exact HB.out)))); have n1_ := Aside0.mk (blk_below (g := gb344) (o := .cells #[.string a0_0, .slice A0_1 l0_1.length c0_1, .string a0_2, .slice A0_3 l0_3.length c0_3, .slice A0_4 l0_4.length c0_4, .slice A0_5 l0_5.length c0_5] 26 (0, 0)) (by (with_reducible repeat (first | refine blk_drewN ?_ _ | refine blk_drew ?_ | refine blk_alloc ?_ _)); exact BK344.out) hb); have n2_ := Aside0.mk (below_step (by repeat (first | (with_reducible first | exact HB.out | apply below_alloc | apply pw_below_drewN | apply below_drew1 | refine below_set ?_ GE344.out) | exact HB.out)) hb); clear BK344; clear HB; have HO347 := n0_; have BK344 := n1_; have HB := n2_; clear n0_ n1_ n2_; clear hb ho15; obtain ⟨Ao16, co16, eo16⟩ := Kd.R_slice HO347.out; subst eo16; have p11 : 0 ≤ (0 : Int) := (by omega); have q11 : (0 : Int) < ((y345.length : Int) : Int) := of_decide_eq_true (by first | (with_reducible assumption) | assumption); have qi11 : (0 < y345.length) = True := eq_true (by omega); obtain ⟨go11, co11, eo11, gb11, gl11, cl11, HG11⟩ := Kd.R_form HO347.out (by omega); (first | cases eo11 | (injection eo11 with ea_ en_ ec_; (first | subst ea_ | (injection ea_ with ea_; subst ea_)); subst ec_; clear en_)); have GB11 := Aside0.mk gb11; have GG11 := Aside0.mk HG11; clear gb11 gl11 HG11; obtain ⟨hx11_0, hf11_0⟩ := Kd.R_celln false HO347.out (0 : Int) p11 q11; (try rw [show ((0 : Int)).toNat = 0 from rfl] at hx11_0); (try simp only [Nat.reduceMul, Nat.zero_mul, Nat.zero_add, Nat.reduceAdd] at hx11_0); (try rw [show ((0 : Int)).toNat = 0 from rfl] at hf11_0); (try simp only [Nat.reduceMul, Nat.zero_mul, Nat.zero_add, Nat.reduceAdd] at hf11_0); replace p11 := eq_true p11; replace q11 := eq_true q11; obtain ⟨hy17_, hz17_⟩ := Kd.R_celln false HO347.out (0 : Int) (by omega) (of_decide_eq_true (by first | (with_reducible assumption) | assumption)); (try simp only [Int.reduceToNat, Int.toNat_zero, Int.toNat_ofNat, Nat.reduceMul, Nat.zero_mul, Nat.zero_add] at hy17_ hz17_); (try rw [show ((0 : Int)).toNat = 0 from rfl] at hy17_); (try rw [show ((0 : Int)).toNat = 0 from rfl] at hz17_); have HP17 := Kd.R_putg HO347.out (0 : Int) true) | ((with_reducible refine gate_store (t := 4) (p := 17) rfl ?_); refine store_event (t := 4) (p := 17) (v := ?vo_w18) (w1 := (w14.setCell ⟨go11, (0 : Int).toNat, none⟩ (.bool true))) ?hg ?ho ?hn ?hr ?_; (case ho => rfl); (case hg => rfl); (case hn => rfl); (case hr => first | (go_simp; done) | (go_simp; rfl)); intro w18 hw; have hg : w14.grownBy w18 (some go11) := (by rw [hw]; exact HP17.2); have hp_ : Kd.R Kd.bool 4 w18 w.heap.size (fun _ => True) (.slice (some ⟨go11, 0, none⟩) y345.length co16) y348 := (by rw [hw, Ny348.out]; exact HP17.1); clear HP17; have n0_ := Aside0.mk (blk_grown (g := gb344) (o := .cells #[.string a0_0, .slice A0_1 l0_1.length c0_1, .string a0_2, .slice A0_3 l0_3.length c0_3, .slice A0_4 l0_4.length c0_4, .slice A0_5 l0_5.length c0_5] 26 (0, 0)) (by (with_reducible repeat (first | refine blk_drewN ?_ _ | refine blk_drew ?_ | refine blk_alloc ?_ _)); exact BK344.out) hg (Kd.R_ne HO347.out BK344.out (by decide))); have n1_ := Aside0.mk (hp_); have n2_ := Aside0.mk ((by rw [hw]; exact below_set (HB.out) GB11.out : Below w.heap.size w w18)); clear BK344; clear HO347; clear HB; have BK344 := n0_; have HO347 := n1_; have HB := n2_; clear n0_ n1_ n2_; clear hg hw hp_))
     go_loopg [4] k (fun kq v4 w' => ∃ (x3_1 : List Bool) (x4_1 : Int), v4 = .int .i64 x4_1 ∧ Aside0 (truantref09_Reached.l0 kq x3_1 x4_1 a0_0 l0_1 a0_2 l0_3 l0_4 l0_5 = some r) ∧ Aside0 (kq ≤ k) ∧ Aside0 (Kd.R Kd.bool 4 w' w.heap.size (fun _ => True) (.slice (some ⟨go11, 0, none⟩) y345.length co16) x3_1) ∧ Aside0 (w'.heap[gb344]? = some (.cells #[.string a0_0, (.slice A0_1 l0_1.length c0_1), .string a0_2, (.slice A0_3 l0_3.length c0_3), (.slice A0_4 l0_4.length c0_4), (.slice A0_5 l0_5.length c0_5)] 26 (0, 0))) ∧ Aside0 (Below w.heap.size w w'))
     case atStart => exact ⟨(y348), (0), (by first | rfl | (simp; done) | (simp [*]; done)), H', ⟨Nat.le_refl _⟩, ⟨by (with_reducible repeat (first | apply Kd.R_alloc | apply Kd.R_drewN | apply Kd.R_drew)); exact HO347.out⟩, ⟨by (with_reducible repeat (first | refine blk_drewN ?_ _ | refine blk_drew ?_ | refine blk_alloc ?_ _)); exact BK344.out⟩, ⟨by repeat (first | (with_reducible first | exact HB.out | apply below_alloc | apply pw_below_drewN | apply below_drew1 | refine below_set ?_ GE344.out) | exact HB.out)⟩⟩
     case round =>
      clear H'
      try clear c1
      try clear p1
      try clear q1
      try clear hx1
      try clear qi1
      try clear hf1
      try clear c2
      try clear c2b0
      try clear c2b1
      try clear p2
      try clear c3
      try clear c3b0
      try clear c3b1
      try clear c4
      try clear c4b0
      try clear c4b1
      try clear c4b2
      try clear c10
      try clear c10b0
      try clear c10b1
      try clear p11
      try clear q11
      try clear hx11
      try clear qi11
      try clear hf11
      try clear c18
      try clear hcz13_0
      try clear hcz13_1
      try clear hcz13_2
      try clear hcz13_3
      try clear hcz13_4
      try clear hcz13_5
      try clear hcz6_0
      try clear hcz6_1
      try clear hcz6_2
      try clear hcz6_3
      try clear hcz6_4
      try clear hcz6_5
      try clear hfz13_0
      try clear hfz13_1
      try clear hfz13_2
      try clear hfz13_3
      try clear hfz13_4
      try clear hfz13_5
      try clear hfz6_0
      try clear hfz6_1
      try clear hfz6_2
      try clear hfz6_3
      try clear hfz6_4
      try clear hfz6_5
      try clear hx11_0
      try clear p11
      try clear q11
      obtain ⟨x3_1, x4_1, rfl, HA, HK1, HO_3, BK344, HB⟩ := hrel
      have hl3_1 := (Kd.R_reads' HO_3.out).1
      rw [hl3_1] at HO_3
      (try simp only [hl3_1])
      (try simp only [hl3_1] at BK344)
      cases gk with
      | zero => exact absurd HA.out (by simp [truantref09_Reached.l0])
      | succ k1 =>
       have H := HA.out
       clear HA
       simp only [truantref09_Reached.l0] at H
       by_cases c19 : x4_1 < (x3_1.length : Int)
       ·rw [if_pos c19] at H
        have c19b0 : decide (x4_1 < (x3_1.length : Int)) = true := decide_eq_true c19
        clear c19
        have H' := Aside0.mk H
        clear H
        go_wp2
        go_loopg [5] k1 (fun kq v5 w' => ∃ (x3_2 : List Bool) (x5_2 : Int), v5 = .int .i64 x5_2 ∧ Aside0 (truantref09_Reached.l1 kq x3_2 x4_1 x5_2 a0_0 l0_1 a0_2 l0_3 l0_4 l0_5 = some r) ∧ Aside0 (kq ≤ k1) ∧ Aside0 (Kd.R Kd.bool 4 w' w.heap.size (fun _ => True) (.slice (some ⟨go11, 0, none⟩) x3_1.length co16) x3_2) ∧ Aside0 (w'.heap[gb344]? = some (.cells #[.string a0_0, (.slice A0_1 l0_1.length c0_1), .string a0_2, (.slice A0_3 l0_3.length c0_3), (.slice A0_4 l0_4.length c0_4), (.slice A0_5 l0_5.length c0_5)] 26 (0, 0))) ∧ Aside0 (Below w.heap.size w w'))
        case atStart => exact ⟨(x3_1), (0), (by first | rfl | (simp; done) | (simp [*]; done)), H', ⟨Nat.le_refl _⟩, ⟨by (try simp only [hl3_1]); (with_reducible repeat (first | apply Kd.R_alloc | apply Kd.R_drewN | apply Kd.R_drew)); exact HO_3.out⟩, ⟨by (try simp only [hl3_1]); (with_reducible repeat (first | refine blk_drewN ?_ _ | refine blk_drew ?_ | refine blk_alloc ?_ _)); exact BK344.out⟩, ⟨by repeat (first | (with_reducible first | exact HB.out | apply below_alloc | apply pw_below_drewN | apply below_drew1 | refine below_set ?_ GE344.out) | exact HB.out)⟩⟩
        case round =>
         clear H'
         try clear c1
         try clear p1
         try clear q1
         try clear hx1
         try clear qi1
         try clear hf1
         try clear c2
         try clear c2b0
         try clear c2b1
         try clear p2
         try clear c3
         try clear c3b0
         try clear c3b1
         try clear c4
         try clear c4b0
         try clear c4b1
         try clear c4b2
         try clear c10
         try clear c10b0
         try clear c10b1
         try clear p11
         try clear q11
         try clear hx11
         try clear qi11
         try clear hf11
         try clear c18
         try clear c19
         try clear c19b0
         try clear hcz13_0
         try clear hcz13_1
         try clear hcz13_2
         try clear hcz13_3
         try clear hcz13_4
         try clear hcz13_5
         try clear hcz6_0
         try clear hcz6_1
         try clear hcz6_2
         try clear hcz6_3
         try clear hcz6_4
         try clear hcz6_5
         try clear hfz13_0
         try clear hfz13_1
         try clear hfz13_2
         try clear hfz13_3
         try clear hfz13_4
         try clear hfz13_5
         try clear hfz6_0
         try clear hfz6_1
         try clear hfz6_2
         try clear hfz6_3
         try clear hfz6_4
         try clear hfz6_5
         try clear hx11_0
         try clear p1
         try clear p11
         try clear p2
         try clear q1
         try clear q11
         obtain ⟨x3_2, x5_2, rfl, HA, HK2, HO_3, BK344, HB⟩ := hrel
         have hl3_2 := (Kd.R_reads' HO_3.out).1
         rw [hl3_2] at HO_3
         (try simp only [hl3_2])
         (try simp only [hl3_2] at BK344)
         cases gk with
         | zero => exact absurd HA.out (by simp [truantref09_Reached.l1])
         | succ k2 =>
          have H := HA.out
          clear HA
          simp only [truantref09_Reached.l1] at H
          by_cases c20 : x5_2 < (x3_2.length : Int)
          ·rw [if_pos c20] at H
           have c20b0 : decide (x5_2 < (x3_2.length : Int)) = true := decide_eq_true c20
           clear c20
           replace H := Option.bind_eq_some_iff.mp H
           obtain ⟨t349, A210, H⟩ := H
           replace H : (truantref09_Reached.l2 k2 x3_2 x4_1 x5_2 t349 0 a0_0 l0_1 a0_2 l0_3 l0_4 l0_5) = some r := H
           have A21 := Aside0.mk A210
           clear A210
           have H' := Aside0.mk H
           clear H
           have hcz22_0 : wr.cell? ⟨gb344, 0, none⟩ = some (.string a0_0) := (blk_cell BK344.out 0).trans rfl
           have hcz22_1 : wr.cell? ⟨gb344, 1, none⟩ = some (.slice A0_1 l0_1.length c0_1) := (blk_cell BK344.out 1).trans rfl
           have hcz22_2 : wr.cell? ⟨gb344, 2, none⟩ = some (.string a0_2) := (blk_cell BK344.out 2).trans rfl
           have hcz22_3 : wr.cell? ⟨gb344, 3, none⟩ = some (.slice A0_3 l0_3.length c0_3) := (blk_cell BK344.out 3).trans rfl
           have hcz22_4 : wr.cell? ⟨gb344, 4, none⟩ = some (.slice A0_4 l0_4.length c0_4) := (blk_cell BK344.out 4).trans rfl
           have hcz22_5 : wr.cell? ⟨gb344, 5, none⟩ = some (.slice A0_5 l0_5.length c0_5) := (blk_cell BK344.out 5).trans rfl
           have hfz22_0 := blk_frozen BK344.out 0
           have hfz22_1 := blk_frozen BK344.out 1
           have hfz22_2 := blk_frozen BK344.out 2
           have hfz22_3 := blk_frozen BK344.out 3
           have hfz22_4 := blk_frozen BK344.out 4
           have hfz22_5 := blk_frozen BK344.out 5
           go_wp2_with (first | ((with_reducible refine gate_callee (f := 21) rfl ?_); refine goesL_ (some 32) rfl rfl Try.func21 (by kernel_rfl) rfl #[.agg #[.string a0_0, .slice A0_1 l0_1.length c0_1, .string a0_2, .slice A0_3 l0_3.length c0_3, .slice A0_4 l0_4.length c0_4, .slice A0_5 l0_5.length c0_5], .int .i64 x5_2] rfl (by (try simp only [List.map_toArray, List.map_cons, List.map_nil]); first | done | rfl | (simp only [List.length_drop, List.length_take]; rfl)) ?_; (with_reducible refine (truantref09_Next.calls k2 a0_0 _ _ l0_1 a0_2 _ _ l0_3 _ _ l0_4 _ _ l0_5 x5_2 t349 _ ?side1 ?side2 ?side3 ?side4 ?side5 ?side6 ?side7 ?side8 A21.out).mono ?_); (case side1 => repeat (first | exact (Kd.C_below HR0_1.out HB.out) | (with_reducible refine Kd.C_alloc ?_ _) | (with_reducible refine Kd.C_drewN ?_ _) | (with_reducible refine Kd.C_drew ?_))); (case side2 => exact HC0_1.out); (case side3 => repeat (first | exact (Kd.C_below HR0_3.out HB.out) | (with_reducible refine Kd.C_alloc ?_ _) | (with_reducible refine Kd.C_drewN ?_ _) | (with_reducible refine Kd.C_drew ?_))); (case side4 => exact HC0_3.out); (case side5 => repeat (first | exact (Kd.C_below HR0_4.out HB.out) | (with_reducible refine Kd.C_alloc ?_ _) | (with_reducible refine Kd.C_drewN ?_ _) | (with_reducible refine Kd.C_drew ?_))); (case side6 => exact HC0_4.out); (case side7 => repeat (first | exact (Kd.C_below HR0_5.out HB.out) | (with_reducible refine Kd.C_alloc ?_ _) | (with_reducible refine Kd.C_drewN ?_ _) | (with_reducible refine Kd.C_drew ?_))); (case side8 => exact HC0_5.out); rintro e w23 ⟨v350, rfl, ho0, hb⟩; refine ⟨_, rfl, ?_⟩; have n0_ := Aside0.mk (Kd.R_below (by (with_reducible repeat (first | apply Kd.R_alloc | apply Kd.R_drewN | apply Kd.R_drew)); exact HO_3.out) hb); have n1_ := Aside0.mk (Kd.R_lower ho0 (below_size (by repeat (first | (with_reducible first | exact HB.out | apply below_alloc | apply pw_below_drewN | apply below_drew1 | refine below_set ?_ GE344.out) | exact HB.out)))); have n2_ := Aside0.mk (blk_below (g := gb344) (o := .cells #[.string a0_0, .slice A0_1 l0_1.length c0_1, .string a0_2, .slice A0_3 l0_3.length c0_3, .slice A0_4 l0_4.length c0_4, .slice A0_5 l0_5.length c0_5] 26 (0, 0)) (by (with_reducible repeat (first | refine blk_drewN ?_ _ | refine blk_drew ?_ | refine blk_alloc ?_ _)); exact BK344.out) hb); have n3_ := Aside0.mk (below_step (by repeat (first | (with_reducible first | exact HB.out | apply below_alloc | apply pw_below_drewN | apply below_drew1 | refine below_set ?_ GE344.out) | exact HB.out)) hb); clear HO_3; clear BK344; clear HB; have HO_3 := n0_; have HO351 := n1_; have BK344 := n2_; have HB := n3_; clear n0_ n1_ n2_ n3_; (try clear hb); (try clear hb2); (try clear hk); (try clear hi); (try clear ho0)))
           go_loopg [7] k2 (fun kq v7 w' => ∃ (x3_3 : List Bool) (x7_3 : Int), v7 = .int .i64 x7_3 ∧ Aside0 (truantref09_Reached.l2 kq x3_3 x4_1 x5_2 t349 x7_3 a0_0 l0_1 a0_2 l0_3 l0_4 l0_5 = some r) ∧ Aside0 (kq ≤ k2) ∧ Aside0 (Kd.R Kd.bool 4 w' w.heap.size (fun _ => True) (.slice (some ⟨go11, 0, none⟩) x3_2.length co16) x3_3) ∧ Aside0 (Kd.R (Kd.int .i64) 3 w' w.heap.size (fun _ => True) v350 t349) ∧ Aside0 (w'.heap[gb344]? = some (.cells #[.string a0_0, (.slice A0_1 l0_1.length c0_1), .string a0_2, (.slice A0_3 l0_3.length c0_3), (.slice A0_4 l0_4.length c0_4), (.slice A0_5 l0_5.length c0_5)] 26 (0, 0))) ∧ Aside0 (Below w.heap.size w w'))
           case atStart => exact ⟨(x3_2), (0), (by first | rfl | (simp; done) | (simp [*]; done)), H', ⟨Nat.le_refl _⟩, ⟨by (try simp only [hl3_1]); (try simp only [hl3_2]); (with_reducible repeat (first | apply Kd.R_alloc | apply Kd.R_drewN | apply Kd.R_drew)); exact HO_3.out⟩, ⟨by (try simp only [hl3_1]); (try simp only [hl3_2]); (with_reducible repeat (first | apply Kd.R_alloc | apply Kd.R_drewN | apply Kd.R_drew)); exact HO351.out⟩, ⟨by (try simp only [hl3_1]); (try simp only [hl3_2]); (with_reducible repeat (first | refine blk_drewN ?_ _ | refine blk_drew ?_ | refine blk_alloc ?_ _)); exact BK344.out⟩, ⟨by repeat (first | (with_reducible first | exact HB.out | apply below_alloc | apply pw_below_drewN | apply below_drew1 | refine below_set ?_ GE344.out) | exact HB.out)⟩⟩
           case round =>
            clear H'
            try clear c1
            try clear p1
            try clear q1
            try clear hx1
            try clear qi1
            try clear hf1
            try clear c2
            try clear c2b0
            try clear c2b1
            try clear p2
            try clear c3
            try clear c3b0
            try clear c3b1
            try clear c4
            try clear c4b0
            try clear c4b1
            try clear c4b2
            try clear c10
            try clear c10b0
            try clear c10b1
            try clear p11
            try clear q11
            try clear hx11
            try clear qi11
            try clear hf11
            try clear c18
            try clear c19
            try clear c19b0
            try clear c20
            try clear c20b0
            try clear c21
            try clear hcz13_0
            try clear hcz13_1
            try clear hcz13_2
            try clear hcz13_3
            try clear hcz13_4
            try clear hcz13_5
            try clear hcz22_0
            try clear hcz22_1
            try clear hcz22_2
            try clear hcz22_3
            try clear hcz22_4
            try clear hcz22_5
            try clear hcz6_0
            try clear hcz6_1
            try clear hcz6_2
            try clear hcz6_3
            try clear hcz6_4
            try clear hcz6_5
            try clear hfz13_0
            try clear hfz13_1
            try clear hfz13_2
            try clear hfz13_3
            try clear hfz13_4
            try clear hfz13_5
            try clear hfz22_0
            try clear hfz22_1
            try clear hfz22_2
            try clear hfz22_3
            try clear hfz22_4
            try clear hfz22_5
            try clear hfz6_0
            try clear hfz6_1
            try clear hfz6_2
            try clear hfz6_3
            try clear hfz6_4
            try clear hfz6_5
            try clear hx11_0
            try clear p1
            try clear p11
            try clear p2
            try clear q1
            try clear q11
            obtain ⟨x3_3, x7_3, rfl, HA, HK3, HO_3, HO_6, BK344, HB⟩ := hrel
            have hl3_3 := (Kd.R_reads' HO_3.out).1
            rw [hl3_3] at HO_3
            (try simp only [hl3_3])
            (try simp only [hl3_3] at BK344)
            (try simp only [hl3_3] at HO_6)
            cases gk with
            | zero => exact absurd HA.out (by simp [truantref09_Reached.l2])
            | succ k3 =>
             have H := HA.out
             clear HA
             simp only [truantref09_Reached.l2] at H
             by_cases c24 : 0 ≤ x5_2
             ·rw [if_pos c24] at H
              have c24b0 : decide (0 ≤ x5_2) = true := decide_eq_true c24
              clear c24
              by_cases c25 : x5_2 < (x3_3.length : Int)
              ·rw [if_pos c25] at H
               have c25b0 : decide (x5_2 < (x3_3.length : Int)) = true := decide_eq_true c25
               clear c25
               obtain ⟨bq26, hbq26⟩ : ∃ b_ : Bool, b_ = (rdOf false x3_3 x5_2) := ⟨_, rfl⟩
               replace H : (if bq26 = true then (if x7_3 < (t349.length : Int) then (if 0 ≤ x7_3 then (if 0 ≤ (rd t349 x7_3) then (if (rd t349 x7_3) < (x3_3.length : Int) then (truantref09_Reached.l2 k3 (x3_3.set ((rd t349 x7_3) : Int).toNat true) x4_1 x5_2 t349 (wrap64 (x7_3 + 1)) a0_0 l0_1 a0_2 l0_3 l0_4 l0_5) else (none)) else (none)) else (none)) else (truantref09_Reached.l1 k3 x3_3 x4_1 (wrap64 (x5_2 + 1)) a0_0 l0_1 a0_2 l0_3 l0_4 l0_5)) else (truantref09_Reached.l1 k3 x3_3 x4_1 (wrap64 (x5_2 + 1)) a0_0 l0_1 a0_2 l0_3 l0_4 l0_5)) = some r := by rw [← hbq26] at H; exact H
               have Nbq26 := Aside0.mk hbq26
               clear hbq26
               by_cases c27 : bq26 = true
               ·subst c27
                have H1 : (if x7_3 < (t349.length : Int) then (if 0 ≤ x7_3 then (if 0 ≤ (rd t349 x7_3) then (if (rd t349 x7_3) < (x3_3.length : Int) then (truantref09_Reached.l2 k3 (x3_3.set ((rd t349 x7_3) : Int).toNat true) x4_1 x5_2 t349 (wrap64 (x7_3 + 1)) a0_0 l0_1 a0_2 l0_3 l0_4 l0_5) else (none)) else (none)) else (none)) else (truantref09_Reached.l1 k3 x3_3 x4_1 (wrap64 (x5_2 + 1)) a0_0 l0_1 a0_2 l0_3 l0_4 l0_5)) = some r := by rw [if_pos rfl] at H; exact H
                clear H
                have H := H1
                clear H1
                by_cases c28 : x7_3 < (t349.length : Int)
                ·rw [if_pos c28] at H
                 have c28b0 : decide (x7_3 < (t349.length : Int)) = true := decide_eq_true c28
                 clear c28
                 by_cases c29 : 0 ≤ x7_3
                 ·rw [if_pos c29] at H
                  have c29b0 : decide (0 ≤ x7_3) = true := decide_eq_true c29
                  clear c29
                  by_cases c30 : 0 ≤ (rd t349 x7_3)
                  ·rw [if_pos c30] at H
                   have c30b0 : decide (0 ≤ (rd t349 x7_3)) = true := decide_eq_true c30
                   clear c30
                   by_cases c31 : (rd t349 x7_3) < (x3_3.length : Int)
                   ·rw [if_pos c31] at H
                    have c31b0 : decide ((rd t349 x7_3) < (x3_3.length : Int)) = true := decide_eq_true c31
                    clear c31
                    obtain ⟨y354, hy354⟩ : ∃ y_ : List Bool, y_ = (x3_3.set ((rd t349 x7_3) : Int).toNat true) := ⟨_, rfl⟩
                    replace H : (truantref09_Reached.l2 k3 y354 x4_1 x5_2 t349 (wrap64 (x7_3 + 1)) a0_0 l0_1 a0_2 l0_3 l0_4 l0_5) = some r := by first | (rw [hy354]; with_reducible exact H) | (have H2_ := (Option.bind_some _ _).symm.trans H; rw [hy354]; with_reducible exact H2_) | (have H2_ := (Option.bind_some _ _).symm.trans H; with_reducible exact H2_) | with_reducible exact H | (rw [hy354]; exact H) | exact H
                    have Ny354 := Aside0.mk hy354
                    clear hy354
                    have H' := Aside0.mk H
                    clear H
                    have p352 : 0 ≤ (x5_2 : Int) := of_decide_eq_true (by first | (with_reducible assumption) | assumption)
                    have q352 : x5_2 < (x3_3.length : Int) := of_decide_eq_true (by first | (with_reducible assumption) | assumption)
                    obtain ⟨ad352, e352, hx352_0⟩ := Kd.at_bool (Kd.R_reads' HO_3.out).2.2 x5_2 p352 q352
                    (try rw [← Nbq26.out] at hx352_0)
                    obtain rfl : (⟨go11, 0, none⟩ : Addr) = ad352 := (by injection e352)
                    (first | simp only [add_plain] at hx352_0 | simp only [add_at] at hx352_0 | simp only [Addr.add, Nat.zero_add] at hx352_0 | skip)
                    replace p352 := eq_true p352
                    replace q352 := eq_true q352
                    obtain ⟨Ao33, co33, eo33⟩ := Kd.R_slice HO_6.out
                    subst eo33
                    have p353 : 0 ≤ (x7_3 : Int) := of_decide_eq_true (by first | (with_reducible assumption) | assumption)
                    have q353 : x7_3 < (t349.length : Int) := of_decide_eq_true (by first | (with_reducible assumption) | assumption)
                    obtain ⟨ad353, e353, hx353_0⟩ := Kd.at_int (Kd.R_reads' HO_6.out).2.2 x7_3 p353 q353
                    cases e353
                    replace p353 := eq_true p353
                    replace q353 := eq_true q353
                    have p32 : 0 ≤ ((rd t349 x7_3) : Int) := of_decide_eq_true (by first | (with_reducible assumption) | assumption)
                    have q32 : ((rd t349 x7_3) : Int) < ((x3_3.length : Int) : Int) := of_decide_eq_true (by first | (with_reducible assumption) | assumption)
                    obtain ⟨hx32_0, hf32_0⟩ := Kd.R_celln false HO_3.out ((rd t349 x7_3) : Int) p32 q32
                    replace p32 := eq_true p32
                    replace q32 := eq_true q32
                    have HP34 := Kd.R_putg HO_3.out ((rd t349 x7_3) : Int) true
                    go_wp2_with (first | ((with_reducible refine gate_store (t := 4) (p := 50) rfl ?_); refine store_event (t := 4) (p := 50) (v := ?vo_w35) (w1 := (wr.setCell ⟨go11, ((rd t349 x7_3) : Int).toNat, none⟩ (.bool true))) ?hg ?ho ?hn ?hr ?_; (case ho => rfl); (case hg => rfl); (case hn => rfl); (case hr => first | (go_simp; done) | (go_simp; rfl)); intro w35 hw; have hg : wr.grownBy w35 (some go11) := (by rw [hw]; exact HP34.2); have hp_ : Kd.R Kd.bool 4 w35 w.heap.size (fun _ => True) (.slice (some ⟨go11, 0, none⟩) x3_3.length co16) y354 := (by rw [hw, Ny354.out]; exact HP34.1); clear HP34; have n0_ := Aside0.mk (hp_); have n1_ := Aside0.mk (Kd.R_over' (v := (.slice (some ⟨go11, 0, none⟩) x3_3.length co16)) (by (with_reducible repeat (first | apply Kd.R_alloc | apply Kd.R_drewN | apply Kd.R_drew)); exact HO_6.out) (Kd.R_typed HO_3.out) (by decide) hg); have n2_ := Aside0.mk (blk_grown (g := gb344) (o := .cells #[.string a0_0, .slice A0_1 l0_1.length c0_1, .string a0_2, .slice A0_3 l0_3.length c0_3, .slice A0_4 l0_4.length c0_4, .slice A0_5 l0_5.length c0_5] 26 (0, 0)) (by (with_reducible repeat (first | refine blk_drewN ?_ _ | refine blk_drew ?_ | refine blk_alloc ?_ _)); exact BK344.out) hg (Kd.R_ne HO_3.out BK344.out (by decide))); have n3_ := Aside0.mk ((by rw [hw]; exact below_set (HB.out) GB11.out : Below w.heap.size w w35)); clear HO_3; clear HO_6; clear BK344; clear HB; have HO_3 := n0_; have HO_6 := n1_; have BK344 := n2_; have HB := n3_; clear n0_ n1_ n2_ n3_; clear hg hw hp_))
                    (try simp only [← hl3_3])
                    go_roundg k3
                    case measure => have := HK1.out; have := HK2.out; have := HK3.out; omega
                    case rel => exact ⟨(y354), (wrap64 (x7_3 + 1)), (by first | rfl | (simp; done) | (simp [*]; done)), H', ⟨by have := HK1.out; have := HK2.out; have := HK3.out; omega⟩, ⟨by (try simp only [hl3_1]); (try simp only [hl3_2]); (try simp only [hl3_3]); (with_reducible repeat (first | apply Kd.R_alloc | apply Kd.R_drewN | apply Kd.R_drew)); exact HO_3.out⟩, ⟨by (try simp only [hl3_1]); (try simp only [hl3_2]); (try simp only [hl3_3]); (with_reducible repeat (first | apply Kd.R_alloc | apply Kd.R_drewN | apply Kd.R_drew)); exact HO_6.out⟩, ⟨by (try simp only [hl3_1]); (try simp only [hl3_2]); (try simp only [hl3_3]); (with_reducible repeat (first | refine blk_drewN ?_ _ | refine blk_drew ?_ | refine blk_alloc ?_ _)); exact BK344.out⟩, ⟨by repeat (first | (with_reducible first | exact HB.out | apply below_alloc | apply pw_below_drewN | apply below_drew1 | refine below_set ?_ GE344.out) | exact HB.out)⟩⟩
                   ·rw [if_neg c31] at H
                    exact absurd H (by simp)
                  ·rw [if_neg c30] at H
                   exact absurd H (by simp)
                 ·rw [if_neg c29] at H
                  exact absurd H (by simp)
                ·rw [if_neg c28] at H
                 have c28b0 : decide (x7_3 < (t349.length : Int)) = false := decide_eq_false c28
                 clear c28
                 have H' := Aside0.mk H
                 clear H
                 have p352 : 0 ≤ (x5_2 : Int) := of_decide_eq_true (by first | (with_reducible assumption) | assumption)
                 have q352 : x5_2 < (x3_3.length : Int) := of_decide_eq_true (by first | (with_reducible assumption) | assumption)
                 obtain ⟨ad352, e352, hx352_0⟩ := Kd.at_bool (Kd.R_reads' HO_3.out).2.2 x5_2 p352 q352
                 (try rw [← Nbq26.out] at hx352_0)
                 obtain rfl : (⟨go11, 0, none⟩ : Addr) = ad352 := (by injection e352)
                 (first | simp only [add_plain] at hx352_0 | simp only [add_at] at hx352_0 | simp only [Addr.add, Nat.zero_add] at hx352_0 | skip)
                 replace p352 := eq_true p352
                 replace q352 := eq_true q352
                 obtain ⟨Ao36, co36, eo36⟩ := Kd.R_slice HO_6.out
                 subst eo36
                 go_wp2
                 (try simp only [← hl3_2, ← hl3_3])
                 go_roundg k3
                 case measure => have := HK1.out; have := HK2.out; have := HK3.out; omega
                 case rel => exact ⟨(x3_3), (wrap64 (x5_2 + 1)), (by first | rfl | (simp; done) | (simp [*]; done)), H', ⟨by have := HK1.out; have := HK2.out; have := HK3.out; omega⟩, ⟨by (try simp only [hl3_1]); (try simp only [hl3_2]); (try simp only [hl3_3]); (with_reducible repeat (first | apply Kd.R_alloc | apply Kd.R_drewN | apply Kd.R_drew)); exact HO_3.out⟩, ⟨by (try simp only [hl3_1]); (try simp only [hl3_2]); (try simp only [hl3_3]); (with_reducible repeat (first | refine blk_drewN ?_ _ | refine blk_drew ?_ | refine blk_alloc ?_ _)); exact BK344.out⟩, ⟨by repeat (first | (with_reducible first | exact HB.out | apply below_alloc | apply pw_below_drewN | apply below_drew1 | refine below_set ?_ GE344.out) | exact HB.out)⟩⟩
               ·replace c27 := Bool.eq_false_iff.mpr c27
                subst c27
                have H1 : (truantref09_Reached.l1 k3 x3_3 x4_1 (wrap64 (x5_2 + 1)) a0_0 l0_1 a0_2 l0_3 l0_4 l0_5) = some r := by rw [if_neg (show ¬ (false = true) by decide)] at H; exact H
                clear H
                have H := H1
                clear H1
                have H' := Aside0.mk H
                clear H
                have p352 : 0 ≤ (x5_2 : Int) := of_decide_eq_true (by first | (with_reducible assumption) | assumption)
                have q352 : x5_2 < (x3_3.length : Int) := of_decide_eq_true (by first | (with_reducible assumption) | assumption)
                obtain ⟨ad352, e352, hx352_0⟩ := Kd.at_bool (Kd.R_reads' HO_3.out).2.2 x5_2 p352 q352
                (try rw [← Nbq26.out] at hx352_0)
                obtain rfl : (⟨go11, 0, none⟩ : Addr) = ad352 := (by injection e352)
                (first | simp only [add_plain] at hx352_0 | simp only [add_at] at hx352_0 | simp only [Addr.add, Nat.zero_add] at hx352_0 | skip)
                replace p352 := eq_true p352
                replace q352 := eq_true q352
                go_wp2
                (try simp only [← hl3_2, ← hl3_3])
                go_roundg k3
                case measure => have := HK1.out; have := HK2.out; have := HK3.out; omega
                case rel => exact ⟨(x3_3), (wrap64 (x5_2 + 1)), (by first | rfl | (simp; done) | (simp [*]; done)), H', ⟨by have := HK1.out; have := HK2.out; have := HK3.out; omega⟩, ⟨by (try simp only [hl3_1]); (try simp only [hl3_2]); (try simp only [hl3_3]); (with_reducible repeat (first | apply Kd.R_alloc | apply Kd.R_drewN | apply Kd.R_drew)); exact HO_3.out⟩, ⟨by (try simp only [hl3_1]); (try simp only [hl3_2]); (try simp only [hl3_3]); (with_reducible repeat (first | refine blk_drewN ?_ _ | refine blk_drew ?_ | refine blk_alloc ?_ _)); exact BK344.out⟩, ⟨by repeat (first | (with_reducible first | exact HB.out | apply below_alloc | apply pw_below_drewN | apply below_drew1 | refine below_set ?_ GE344.out) | exact HB.out)⟩⟩
              ·rw [if_neg c25] at H
               exact absurd H (by simp)
             ·rw [if_neg c24] at H
              exact absurd H (by simp)
          ·rw [if_neg c20] at H
           have c20b0 : decide (x5_2 < (x3_2.length : Int)) = false := decide_eq_false c20
           clear c20
           have H' := Aside0.mk H
           clear H
           go_wp2
           (try simp only [← hl3_1, ← hl3_2])
           go_roundg k2
           case measure => have := HK1.out; have := HK2.out; omega
           case rel => exact ⟨(x3_2), (wrap64 (x4_1 + 1)), (by first | rfl | (simp; done) | (simp [*]; done)), H', ⟨by have := HK1.out; have := HK2.out; omega⟩, ⟨by (try simp only [hl3_1]); (try simp only [hl3_2]); (with_reducible repeat (first | apply Kd.R_alloc | apply Kd.R_drewN | apply Kd.R_drew)); exact HO_3.out⟩, ⟨by (try simp only [hl3_1]); (try simp only [hl3_2]); (with_reducible repeat (first | refine blk_drewN ?_ _ | refine blk_drew ?_ | refine blk_alloc ?_ _)); exact BK344.out⟩, ⟨by repeat (first | (with_reducible first | exact HB.out | apply below_alloc | apply pw_below_drewN | apply below_drew1 | refine below_set ?_ GE344.out) | exact HB.out)⟩⟩
       ·rw [if_neg c19] at H
        have c19b0 : decide (x4_1 < (x3_1.length : Int)) = false := decide_eq_false c19
        clear c19
        obtain rfl := Option.some.inj H
        go_wp2
        go_ret
        exact ⟨_, by first | rfl | (simp [errW_none, errW_some] <;> rfl) | (simp [*, errW_none, errW_some] <;> rfl), by (with_reducible repeat (first | apply Kd.R_alloc | apply Kd.R_drewN | apply Kd.R_drew)); exact HO_3.out, by repeat (first | (with_reducible first | exact HB.out | apply below_alloc | apply pw_below_drewN | apply below_drew1 | refine below_set ?_ GE344.out) | exact HB.out)⟩
    ·rw [if_neg c10] at H
     exact absurd H (by simp)
  ·rw [if_neg c3] at H
   exact absurd H (by simp)
 ·rw [if_neg c2] at H
  exact absurd H (by simp)

end Go.Proofs.Ytclhjalgflebfaa.Q

/- Flow, plain law: what is reached, round by round as by the walk. -/

namespace Go.Proofs.Ytclhjalgflebfaa.Q
open Go.RowKit Go.Proofs.YtclhjalgflebfaaW.PrintWords Go.Proofs.YtclhjalgflebfaaW.PrintLast Go.Proofs.YtclhjalgflebfaaW.PrintMore
set_option linter.unusedVariables false
set_option linter.unusedSimpArgs false
theorem hasR_none (n : Nat) (x : Int) : ¬ hasR (List.replicate n false) x := by
 rintro ⟨h0, h1, h2⟩
 unfold rdOf at h2
 rw [getD_at _ _ (by rw [List.length_replicate] at h1 ⊢; omega)] at h2
 simp at h2
theorem unseen_none (n : Nat) : unseen (List.replicate n false) = n := by simp [unseen]
theorem walk_facts (l : List S40) (hl : l.length < LIMF) (hn : 0 < l.length) : ∃ s e, walkO l = some (s, e ++ [0]) ∧ Adds l (List.replicate l.length false) s [0] (e ++ [0]) ∧ ((nextOf l 0).foldlM (stepO l l.length) ((List.replicate l.length false).set 0 true, [])) = some (s, e) ∧ Adds l ((List.replicate l.length false).set 0 true) s (nextOf l 0) e := by
 obtain ⟨s', e, h1, h2, e', he, h3, h4⟩ := visit_adds l (l.length + 1) 0 (List.replicate l.length false) [] (by simp) (by omega) (by omega) (hasR_none _ _) (by rw [unseen_none]; omega) (by rw [unseen_none]; simpa using hl)
 subst he
 refine ⟨s', e', ?_, h2, ?_, ?_⟩
 ·unfold walkO
  rw [if_pos hl, if_neg (by omega)]
  simpa using h1
 ·simpa using h3
 ·simpa using h4
section
variable (a0 : ByteArray) (l1 : List ByteArray) (a2 : ByteArray) (l3 : List ByteArray) (l4 : List S58) (l : List S40) (hl : l.length ≤ 1099511627776)
include hl
end
end Go.Proofs.Ytclhjalgflebfaa.Q

